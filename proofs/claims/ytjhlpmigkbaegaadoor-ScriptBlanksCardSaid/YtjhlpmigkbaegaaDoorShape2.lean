/- Each command that is told: its words. Plain. -/
import Derived.Test.YtjhlpmigkbaegaaDoorShape
namespace Go.Proofs.YtjhlpmigkbaegaaDoor
open Go.RowKit
set_option linter.unusedVariables false
set_option linter.unusedSimpArgs false

theorem bytes_ext {a b : ByteArray} (hs : a.size = b.size) (h : ∀ i, i < a.size → bAt a i = bAt b i) : a = b := by
  apply ByteArray.ext
  apply Array.ext' 
  apply List.ext_getElem?
  intro i
  by_cases hi : i < a.size
  · rw [bAt_list a i hi, bAt_list b i (by omega)]
    have := h i hi
    unfold bAt at this
    rw [UInt8.toNat_inj.1 this]
  · have e1 : a.data.toList.length = a.size := rfl
    have e2 : b.data.toList.length = b.size := rfl
    rw [List.getElem?_eq_none (by omega), List.getElem?_eq_none (by omega)]
/-- A quote. -/
def qt : ByteArray := ⟨#[34]⟩
theorem named_eq {w : ByteArray} (h : namedB w = true) : (qt ++ w.extract 1 (w.size - 1)) ++ qt = w := by
  obtain ⟨h1, h2, h3, h4⟩ := named_parts h
  have e1 : (w.extract 1 (w.size - 1)).size = w.size - 2 := by rw [ext_size _ _ _ (by omega)]; omega
  have e2 : (qt ++ w.extract 1 (w.size - 1)).size = w.size - 1 := by rw [ByteArray.size_append, e1]; change 1 + (w.size - 2) = _; omega
  refine bytes_ext (by rw [ByteArray.size_append, e2]; change w.size - 1 + 1 = _; omega) (fun i hi => ?_)
  rw [ByteArray.size_append, e2] at hi
  change i < w.size - 1 + 1 at hi
  rcases Nat.lt_or_ge i (w.size - 1) with hl | hl
  · rw [bAt_left _ _ _ (by omega)]
    cases i with
    | zero => rw [bAt_left _ _ _ (by decide), h2]; rfl
    | succ i =>
      have := bAt_right qt (w.extract 1 (w.size - 1)) i
      rw [show qt.size + i = i + 1 from Nat.add_comm 1 i] at this
      rw [this, ext_get w 1 (w.size - 1) i (by omega) (by omega), Nat.add_comm]
  · obtain rfl : i = w.size - 1 := by omega
    have := bAt_right0 (qt ++ w.extract 1 (w.size - 1)) qt
    rw [e2] at this
    rw [this, h4]; rfl
/-! ### bytes -/
theorem dig_at (n : Nat) (h : n < 16) : dig n = ⟨#[([48, 49, 50, 51, 52, 53, 54, 55, 56, 57, 97, 98, 99, 100, 101, 102] : List UInt8).getD n 0]⟩ := by
  have hall : ∀ k : Fin 16, dig k = ⟨#[([48, 49, 50, 51, 52, 53, 54, 55, 56, 57, 97, 98, 99, 100, 101, 102] : List UInt8).getD k 0]⟩ := by decide
  exact hall ⟨n, h⟩
theorem hexI_at (w : ByteArray) (i : Nat) (h : 0 ≤ hexI (bAt w i : Int)) : dig (hexI (bAt w i : Int)).toNat = ⟨#[w.get! i]⟩ ∧ (hexI (bAt w i : Int)).toNat < 16 ∧ ((48 ≤ bAt w i ∧ bAt w i ≤ 57) ∨ (97 ≤ bAt w i ∧ bAt w i ≤ 102)) := by
  have hr := hexI_ge (bAt w i : Int)
  obtain ⟨o, ho⟩ := Int.eq_ofNat_of_zero_le h
  have hb : ((bAt w i : Int).toNat).toUInt8 = w.get! i := by
    unfold bAt
    apply UInt8.toNat_inj.1
    rw [Int.toNat_natCast]
    exact UInt8.toNat_ofNat_of_lt' (by have := (w.get! i).toNat_lt; omega) 
  have hg := (Lib.indexByte_some (l := [48, 49, 50, 51, 52, 53, 54, 55, 56, 57, 97, 98, 99, 100, 101, 102]) (c := ((bAt w i : Int).toNat).toUInt8) (o := o) (by rw [← ho]; unfold hexI; rfl)).1
  rw [hb] at hg
  have ho16 : o < 16 := by omega
  have e : (hexI (bAt w i : Int)).toNat = o := by rw [ho]; rfl
  refine ⟨?_, by omega, ?_⟩
  · rw [e, dig_at o ho16, List.getD_eq_getElem?_getD, hg]; rfl
  · have hmem := List.mem_of_getElem? hg
    have hall : (([48, 49, 50, 51, 52, 53, 54, 55, 56, 57, 97, 98, 99, 100, 101, 102] : List UInt8).all fun b => (decide (48 ≤ b.toNat) && decide (b.toNat ≤ 57)) || (decide (97 ≤ b.toNat) && decide (b.toNat ≤ 102))) = true := by decide
    have := List.all_eq_true.1 hall _ hmem
    simp only [Bool.or_eq_true, Bool.and_eq_true, decide_eq_true_eq] at this
    exact this
theorem hex_back (w : ByteArray) (i : Nat) (l : List Nat) (h : hexAt w i = some l) (hi : i ≤ w.size) (he : (w.size - i) % 2 = 0) (s : ByteArray) :
    l.foldl (fun s n => s ++ (dig (n / 16) ++ dig (n % 16))) s = s ++ w.extract i w.size ∧ ∀ k, i ≤ k → k < w.size → (48 ≤ bAt w k ∧ bAt w k ≤ 57) ∨ (97 ≤ bAt w k ∧ bAt w k ≤ 102) := by
  induction i using hexAt.induct (s := w) generalizing l s with
  | case1 i h1 h2 => rw [hexAt, if_pos h1, if_pos h2] at h; cases h
  | case2 i h1 h2 ih =>
    rw [hexAt, if_pos h1, if_neg h2] at h
    rw [Option.map_eq_some_iff] at h
    obtain ⟨l', hl', rfl⟩ := h
    have p1 := hexI_at w i (by omega)
    have p2 := hexI_at w (i + 1) (by omega)
    have ihh := ih l' hl' (by omega) (by omega) (s ++ (⟨#[w.get! i]⟩ ++ ⟨#[w.get! (i + 1)]⟩))
    refine ⟨?_, fun k hk hk2 => ?_⟩
    · rw [List.foldl_cons]
      rw [show ((hexI (bAt w i : Int)).toNat * 16 + (hexI (bAt w (i + 1) : Int)).toNat) / 16 = (hexI (bAt w i : Int)).toNat by omega,
        show ((hexI (bAt w i : Int)).toNat * 16 + (hexI (bAt w (i + 1) : Int)).toNat) % 16 = (hexI (bAt w (i + 1) : Int)).toNat by omega, p1.1, p2.1, ihh.1]
      rw [ByteArray.append_assoc]
      congr 1
      have z1 : ((⟨#[w.get! i]⟩ : ByteArray) ++ ⟨#[w.get! (i + 1)]⟩).size = 2 := rfl
      have z2 : (w.extract (i + 2) w.size).size = w.size - (i + 2) := ext_size _ _ _ (Nat.le_refl _)
      refine bytes_ext (by rw [ByteArray.size_append, z1, z2, ext_size _ _ _ (Nat.le_refl _)]; omega) (fun k hk => ?_)
      rw [ByteArray.size_append, z1, z2] at hk
      rw [ext_get w i w.size k (Nat.le_refl _) (by omega)]
      match k, hk with
      | 0, _ => rw [bAt_left _ _ _ (by rw [z1]; omega)]; rfl
      | 1, _ => rw [bAt_left _ _ _ (by rw [z1]; omega)]; rfl
      | k + 2, hk =>
        have := bAt_right ((⟨#[w.get! i]⟩ : ByteArray) ++ ⟨#[w.get! (i + 1)]⟩) (w.extract (i + 2) w.size) k
        rw [z1, Nat.add_comm 2 k] at this
        rw [this, ext_get w (i + 2) w.size k (Nat.le_refl _) (by omega)]
        congr 1; omega
    · rcases Nat.lt_or_ge k (i + 2) with hl | hl
      · rcases Nat.lt_or_ge k (i + 1) with hl2 | hl2
        · obtain rfl : k = i := by omega
          exact p1.2.2
        · obtain rfl : k = i + 1 := by omega
          exact p2.2.2
      · exact ihh.2 k hl hk2
  | case3 i h1 =>
    rw [hexAt, if_neg h1] at h
    cases h
    have hw : i = w.size := by omega
    refine ⟨?_, fun k hk hk2 => absurd hk2 (by omega)⟩
    rw [List.foldl_nil]
    refine bytes_ext (by rw [ByteArray.size_append, ext_size _ _ _ (Nat.le_refl _)]; omega) (fun k hk => by rw [bAt_left _ _ _ hk])
theorem hexAt_lt (w : ByteArray) (i : Nat) (l : List Nat) (h : hexAt w i = some l) : ∀ x ∈ l, x < 256 := by
  induction i using hexAt.induct (s := w) generalizing l with
  | case1 i h1 h2 => rw [hexAt, if_pos h1, if_pos h2] at h; cases h
  | case2 i h1 h2 ih =>
    rw [hexAt, if_pos h1, if_neg h2, Option.map_eq_some_iff] at h
    obtain ⟨l', hl', rfl⟩ := h
    intro x hx
    rcases List.mem_cons.1 hx with rfl | hx
    · have p1 := hexI_ge (bAt w i : Int)
      have p2 := hexI_ge (bAt w (i + 1) : Int)
      omega
    · exact ih l' hl' x hx
  | case3 i h1 => rw [hexAt, if_neg h1] at h; cases h; simp
theorem hexAt_len (w : ByteArray) (i : Nat) (l : List Nat) (h : hexAt w i = some l) : l.length ≤ w.size - i := by
  induction i using hexAt.induct (s := w) generalizing l with
  | case1 i h1 h2 => rw [hexAt, if_pos h1, if_pos h2] at h; cases h
  | case2 i h1 h2 ih =>
    rw [hexAt, if_pos h1, if_neg h2, Option.map_eq_some_iff] at h
    obtain ⟨l', hl', rfl⟩ := h
    have := ih l' hl'
    simp only [List.length_cons]; omega
  | case3 i h1 => rw [hexAt, if_neg h1] at h; cases h; simp
theorem hexB_ok {w : ByteArray} (h : hexB w = true) : hexS (hexL w) = w ∧ PlainW w ∧ (∀ x ∈ hexL w, x < 256) ∧ (hexL w).length ≤ w.size := by
  unfold hexB at h
  simp only [Bool.and_eq_true, decide_eq_true_eq, Option.isSome_iff_exists] at h
  obtain ⟨⟨⟨l, hl⟩, h1⟩, h2⟩ := h
  have e : hexL w = l := by unfold hexL; rw [hl]; rfl
  have hb := hex_back w 0 l hl (Nat.zero_le _) (by omega) ⟨#[]⟩
  rw [e]
  refine ⟨?_, ⟨h1, fun i hi => ?_⟩, ?_, ?_⟩
  · unfold hexS
    rw [hb.1, ext_all]
    exact bytes_ext (by rw [ByteArray.size_append]; change 0 + w.size = _; omega) (fun i hi => by have := bAt_right ⟨#[]⟩ w i; rw [show (⟨#[]⟩ : ByteArray).size + i = i from Nat.zero_add i] at this; exact this)
  · have := hb.2 i (Nat.zero_le _) hi
    omega
  · exact hexAt_lt w 0 l hl
  · have := hexAt_len w 0 l hl
    omega
end Go.Proofs.YtjhlpmigkbaegaaDoor
