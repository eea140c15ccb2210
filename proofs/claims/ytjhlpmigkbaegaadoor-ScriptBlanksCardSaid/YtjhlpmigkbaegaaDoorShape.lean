/- What words a command that is told has, and that its text is they. Plain. -/
import Derived.Test.YtjhlpmigkbaegaaDoorJoin
import Derived.Test.YtjhlpmigkbaegaaDoorSim
import Derived.Test.YtjhlpmigkbaegaaDoorTany
namespace Go.Proofs.YtjhlpmigkbaegaaDoor
open Go.RowKit
set_option linter.unusedVariables false

theorem numB_ok {w : ByteArray} (h : numB w = true) : Lib.itoa (numI w) = w.data.toList ∧ I64 (numI w) := by
  unfold numB at h
  unfold numI
  cases hp : Lib.parseIntB 64 w.data.toList with
  | ok v =>
    rw [hp] at h
    simp only [decide_eq_true_eq] at h
    exact ⟨h, parse_bounds hp⟩
  | _ => rw [hp] at h; cases h
theorem numS_of {w : ByteArray} (h : numB w = true) : numS (numI w) = w := by
  unfold numS
  rw [(numB_ok h).1]
theorem turn_of {x : Int} (h : I64 x) : turn x = x := by
  unfold turn wrap64
  rw [IntKind.wrap_u64]
  obtain ⟨h1, h2⟩ := h
  omega
theorem key_turn {x : Int} (h : I64 x) : wrap64 (IntKind.u64.wrap x) = x := turn_of h
theorem numB_empty : numB ⟨#[]⟩ = false := by kernel_rfl
/-! ### the digits of a number -/
theorem decDigits_mem (u : Nat) : ∀ b ∈ Lib.decDigits u, 48 ≤ b.toNat ∧ b.toNat ≤ 57 := by
  induction u using Lib.decDigits.induct with
  | case1 u h =>
    rw [Lib.decDigits, dif_pos h]
    intro b hb
    simp only [List.mem_singleton] at hb
    subst hb
    rw [UInt8.toNat_ofNat']
    omega
  | case2 u h ih =>
    rw [Lib.decDigits, dif_neg h]
    intro b hb
    rcases List.mem_append.1 hb with hb | hb
    · exact ih b hb
    · simp only [List.mem_singleton] at hb
      subst hb
      rw [UInt8.toNat_ofNat']
      omega
theorem decDigits_ne (u : Nat) : Lib.decDigits u ≠ [] := by
  rw [Lib.decDigits]; split <;> simp
theorem itoa_mem (x : Int) : Lib.itoa x ≠ [] ∧ ∀ b ∈ Lib.itoa x, b.toNat = 45 ∨ (48 ≤ b.toNat ∧ b.toNat ≤ 57) := by
  unfold Lib.itoa
  split
  · refine ⟨by simp, fun b hb => ?_⟩
    rcases List.mem_cons.1 hb with rfl | hb
    · exact .inl rfl
    · exact .inr (decDigits_mem _ b hb)
  · exact ⟨decDigits_ne _, fun b hb => .inr (decDigits_mem _ b hb)⟩
theorem plain_of {w : ByteArray} (hne : w.data.toList ≠ []) (h : ∀ b ∈ w.data.toList, b.toNat ≠ 32 ∧ b.toNat ≠ 34 ∧ b.toNat < 128) : PlainW w := by
  have hs : w.data.toList.length = w.size := rfl
  refine ⟨?_, fun i hi => ?_⟩
  · rw [← hs]; exact List.length_pos_iff.2 hne
  · exact h _ (List.mem_of_getElem? (bAt_list w i hi))
theorem numB_plain {w : ByteArray} (h : numB w = true) : PlainW w := by
  have e := (numB_ok h).1
  have m := itoa_mem (numI w)
  rw [e] at m
  refine plain_of m.1 (fun b hb => ?_)
  rcases m.2 b hb with q | q <;> omega
theorem plainW_of_all (w : ByteArray) (h : (w.data.toList.all fun b => decide (b.toNat ≠ 32) && decide (b.toNat ≠ 34) && decide (b.toNat < 128)) = true) (hne : w.data.toList ≠ []) : PlainW w := by
  refine plain_of hne (fun b hb => ?_)
  have := List.all_eq_true.1 h b hb
  simp only [Bool.and_eq_true, decide_eq_true_eq] at this
  exact ⟨this.1.1, this.1.2, this.2⟩
theorem verb_plain {v : ByteArray} (h : v.data.toList ∈ verbs) : PlainW v := by
  have hall : (verbs.all fun l => (l.all fun b => decide (b.toNat ≠ 32) && decide (b.toNat ≠ 34) && decide (b.toNat < 128)) && !l.isEmpty) = true := by decide
  have := List.all_eq_true.1 hall _ h
  simp only [Bool.and_eq_true] at this
  exact plainW_of_all v this.1 (by intro e; rw [e] at this; simp at this)
/-! ### numbers read well -/
section
variable {L : List (ByteArray × Nat)} {fin : Nat}
theorem badOf_pos (a : Nat) (b : Int) (hb : b = -1 ∨ 0 ≤ b) : 0 ≤ badOf L a b fin := by
  unfold badOf
  split
  · assumption
  · split <;> omega
theorem nextB_two (a : Nat) (b : Int) (hb : b = -1 ∨ 0 ≤ b) : nextB L a b fin = -1 ∨ 0 ≤ nextB L a b fin := by
  unfold nextB
  split
  · exact .inr (by assumption)
  · split <;> omega
theorem numE_two (a : Nat) (b : Int) (hb : b = -1 ∨ 0 ≤ b) : numE L a b fin = -1 ∨ 0 ≤ numE L a b fin := by
  unfold numE
  split
  · exact nextB_two a b hb
  · exact .inr (badOf_pos a _ (nextB_two a b hb))
theorem nextB_ok {a : Nat} {b : Int} (hb : b = -1 ∨ 0 ≤ b) (h : nextB L a b fin = -1) : b = -1 ∧ ∃ p, L[a]? = some p ∧ nextS L a b = p.1 := by
  unfold nextB at h
  split at h
  · omega
  · cases hp : L[a]? with
    | none => rw [hp] at h; simp only at h; omega
    | some p =>
      refine ⟨by omega, p, rfl, ?_⟩
      unfold nextS
      rw [if_neg (by assumption), hp]
theorem numE_ok {a : Nat} {b : Int} (hb : b = -1 ∨ 0 ≤ b) (h : numE L a b fin = -1) :
    b = -1 ∧ ∃ p, L[a]? = some p ∧ nextS L a b = p.1 ∧ numB p.1 = true ∧ numA L a b = a + 1 ∧ numR L a b = numI p.1 := by
  unfold numE at h
  split at h
  · rename_i hq
    obtain ⟨rfl, p, hp, hs⟩ := nextB_ok hb h
    rw [hs] at hq
    refine ⟨rfl, p, hp, hs, hq, ?_, ?_⟩
    · unfold numA; rw [hs, if_pos hq]
    · unfold numR; rw [hs, if_pos hq]
  · have := badOf_pos (L := L) (fin := fin) a _ (nextB_two (L := L) (fin := fin) a b hb)
    omega
theorem runNums_two (n a : Nat) (b : Int) (hb : b = -1 ∨ 0 ≤ b) : (runNums L fin n a b).2.2 = -1 ∨ 0 ≤ (runNums L fin n a b).2.2 := by
  induction n with
  | zero => exact hb
  | succ n ih => simp only [runNums]; exact numE_two _ _ ih
theorem runNums_ok (n a : Nat) (h : (runNums L fin n a (-1)).2.2 = -1) :
    ∃ ws : List ByteArray, ws.length = n ∧ (∀ w ∈ ws, numB w = true) ∧ (∀ i, i < n → (L[a + i]?).map Prod.fst = ws[i]?) ∧ (runNums L fin n a (-1)).1 = ws.map numI ∧ (runNums L fin n a (-1)).2.1 = a + n := by
  induction n with
  | zero => exact ⟨[], rfl, by simp, fun i hi => absurd hi (by omega), rfl, rfl⟩
  | succ n ih =>
    simp only [runNums] at h ⊢
    obtain ⟨e0, p, hp, _, hq, hA, hR⟩ := numE_ok (runNums_two n a (-1) (.inl rfl)) h
    obtain ⟨ws, h1, h2, h3, h4, h5⟩ := ih e0
    rw [h5] at hp
    refine ⟨ws ++ [p.1], by simp [h1], fun w hw => ?_, fun i hi => ?_, ?_, ?_⟩
    · rcases List.mem_append.1 hw with hw | hw
      · exact h2 w hw
      · simp only [List.mem_singleton] at hw; subst hw; exact hq
    · rcases Nat.lt_or_ge i n with hl | hl
      · rw [h3 i hl, List.getElem?_append_left (by omega)]
      · obtain rfl : i = n := by omega
        rw [hp, List.getElem?_append_right (by omega), h1, Nat.sub_self]; rfl
    · rw [h4, hR]; simp
    · rw [hA, h5]; omega
end
/-! ### a text by its words -/
theorem lineS_nums (v : ByteArray) (ws : List ByteArray) (h : ∀ w ∈ ws, numB w = true) : lineS v (ws.map numI) = lineW v ws := by
  induction ws generalizing v with
  | nil => rfl
  | cons w ws ih =>
    show lineS (v ++ ((⟨#[32]⟩ : ByteArray) ++ numS (numI w))) (ws.map numI) = lineW (v ++ (sp ++ w)) ws
    rw [numS_of (h w List.mem_cons_self), ih _ (fun u hu => h u (List.mem_cons_of_mem _ hu))]
    rfl
/-- What a command that is told comes of: its words. -/
structure Shape (L : List (ByteArray × Nat)) (c : Cmd) (v : ByteArray) (ws : List ByteArray) : Prop where
  words : L.map Prod.fst = v :: ws
  text : textC c = lineW v ws
  verb : v.data.toList ∈ verbs
  kinds : ∀ w ∈ ws, PlainW w ∨ namedB w = true
theorem map_fst_of {L : List (ByteArray × Nat)} {v : ByteArray} {k n : Nat} {ws : List ByteArray} (h0 : L[0]? = some (v, k)) (hn : ws.length = n) (hw : ∀ i, i < n → (L[1 + i]?).map Prod.fst = ws[i]?) (hl : L.length ≤ n + 1) : L.map Prod.fst = v :: ws := by
  apply List.ext_getElem?
  intro i
  rw [List.getElem?_map]
  cases i with
  | zero => rw [h0]; rfl
  | succ i =>
    rw [List.getElem?_cons_succ]
    rcases Nat.lt_or_ge i n with h | h
    · rw [← hw i h, Nat.add_comm]
    · rw [List.getElem?_eq_none (by omega), List.getElem?_eq_none (by omega)]; rfl
theorem told_ok {L : List (ByteArray × Nat)} {fin : Nat} {r : Option Cmd × Nat × Int} {c : Cmd} {i : Int} (h : told L fin r = (some c, i, 0)) (h2 : r.2.2 = -1 ∨ 0 ≤ r.2.2) : r.1 = some c ∧ r.2.2 = -1 ∧ L.length ≤ r.2.1 ∧ i = 0 := by
  unfold told at h
  split at h
  · cases h
  · split at h
    · cases h
    · simp only [Prod.mk.injEq] at h
      exact ⟨h.1, by omega, by omega, h.2.1.symm⟩
end Go.Proofs.YtjhlpmigkbaegaaDoor
