/- Row of the reference, PutRow. -/
import Derived.Test.YtnkndpgaoplamaaPut2
import Derived.StillTailTactics
namespace Go.Proofs.Ytnkndpgaoplamaa
open Go.RowKit
set_option linter.unusedVariables false

/-- Numbers folded, as bytes, one behind the other. -/
def rowB (l : List Int) : List Int := l.flatMap fun n => enc (zg n).toNat
def In64 (l : List Int) : Prop := ∀ x ∈ l, -9223372036854775808 ≤ x ∧ x ≤ 9223372036854775807
theorem rowB_snoc {l : List Int} {k : Nat} {x : Int} (h : l[k]? = some x) : rowB (l.take (k + 1)) = rowB (l.take k) ++ enc (zg x).toNat := by
  rw [List.take_add_one, h]; simp [rowB]
theorem zg_nat {x : Int} (h : -9223372036854775808 ≤ x ∧ x ≤ 9223372036854775807) : ((zg x).toNat : Int) = zg x ∧ (zg x).toNat < 18446744073709551616 := by
  have := zg_range h.1 h.2
  omega
theorem rowB_len {l : List Int} (h : In64 l) : (rowB l).length ≤ 10 * l.length := by
  induction l with
  | nil => simp [rowB]
  | cons x r ih =>
    have h1 := enc_ten (zg_nat (h x (by simp))).2
    have h2 := ih fun y hy => h y (List.mem_cons_of_mem _ hy)
    simp only [rowB, List.flatMap_cons, List.length_append, List.length_cons] at *
    omega
theorem rowB_take {l : List Int} (h : In64 l) (k : Nat) : (rowB (l.take k)).length ≤ 10 * k := by
  have := rowB_len (l := l.take k) fun y hy => h y (List.mem_of_mem_take hy)
  rw [List.length_take] at this
  omega
set_option maxRecDepth 100000 in
set_option maxHeartbeats 1000000 in
theorem rrow_any (l : List Int) (a : Option Addr) (n c : Nat) (w : World) (hr : Row w a n (l.map iv)) (hin : In64 l) (hn : n ≤ 1048576) :
    Calls Try.prog 17 #[.slice a n c] w (Rowed w 5 ((rowB l).map bv)) := by
  obtain ⟨i0, hi, hz0, hz1, hz2⟩ := info_parts info5
  have HL := Lib.hid (show l.length = n from by simpa using hr.1)
  have HR := Lib.hid hr; clear hr
  have HI := Lib.hid hin; clear hin
  have O0 := Lib.hid (owns_empty w 5)
  have B0 := Lib.hid ((Below.refl w.heap.size w).alloc (Nat.le_refl _) (.cells #[] 5))
  go_enter Try.func17, Try.ntmps17
  go_wp2
  go_loopw [3, 4] (fun v i wr => ∃ k : Nat, k ≤ n ∧ i = .int .i64 k ∧ wr.ownsRow w.heap.size 5 1 v (rowB (l.take k)).length ((rowB (l.take k)).map bv) ∧ Below w.heap.size w wr) (fun _ i _ => n - (intOf i).toNat)
  case atStart => exact ⟨0, by omega, rfl, O0.out, B0.out⟩
  case round =>
    obtain ⟨k, hk, rfl, hown, hb⟩ := hrel
    have HO := Lib.hid hown; have HB := Lib.hid hb
    obtain ⟨va, vc, rfl, _⟩ := Row.own hown
    have hlk := rowB_take HI.out k
    clear hown hb O0 B0
    by_cases hlt : k < n
    · obtain ⟨x, hx⟩ : ∃ x, l[k]? = some x := ⟨l[k]'(by rw [HL.out]; exact hlt), by rw [List.getElem?_eq_getElem]⟩
      obtain ⟨b, o, rfl, hc0, hbl⟩ := HR.out.2 k (iv x) (by simp [hx])
      have hc : wr.cell? ⟨b, o + k, none⟩ = some (.int .i64 x) := by rw [HB.out.cell hbl]; exact hc0
      clear hc0 hbl
      have hxr := HI.out x (List.mem_of_getElem? hx)
      have HS := Lib.hid (rowB_snoc hx)
      obtain ⟨z1, z2⟩ := zg_nat hxr
      have KZ := Lib.hid (fun w => rzig_any x w hxr.1 hxr.2)
      have KB := Lib.hid (fun w => bytes_any (zg x).toNat w z2)
      rw [z1] at KB
      have hel := enc_ten z2
      have hone := bv_one (enc (zg x).toNat)
      generalize enc (zg x).toNat = es at *
      have hm1 : (rowB (l.take k)).length + es.length ≤ maxLen := by unfold maxLen; omega
      have hm2 : ((rowB (l.take k)).length + es.length) * 1 ≤ 140737488355328 := by omega
      clear hx z1 z2 hxr hel hlk
      go_wp2_with fail
      refine (KZ.out _).mono ?_
      rintro e w1 ⟨rfl, rfl⟩
      go_wp2_with fail
      refine (KB.out _).mono ?_
      rintro e w2 ⟨v2, rfl, ho2, hb2⟩
      obtain ⟨a2, c2, rfl, r2⟩ := Row.own ho2
      have hcap2 : a2 = none → c2 = 0 := by
        rintro rfl
        rcases ho2.2 with ⟨h, _⟩ | ⟨g, cap, cur, h, _⟩
        · simp at h; exact h.2
        · simp at h
      rw [List.length_map] at r2 ⊢
      have R2 := Lib.hid r2; have HO2 := Lib.hid (own_below HO.out hb2); have HB2 := Lib.hid (HB.out.then hb2)
      clear r2 ho2 hb2
      go_wp2_with (at_builtin; refine wpList_append_copy rfl (.tmp 12) (.tmp 18) 27 rfl w.heap.size 5 i0 (.int .u8 0) 1 Try.underlying27 hi hz0 hz1 hz2 rfl _ (rowB (l.take k)).length ((rowB (l.take k)).map bv) rfl HO2.out a2 es.length c2 (es.map bv) rfl R2.out hcap2 hone hm1 hm2 HB2.out.size ?_; intro v3 w3 hown3 hb3 hnil3)
      have HO3 := Lib.hid hown3
      have HB3 := Lib.hid (HB2.out.trans hb3)
      clear hown3 hb3 hnil3
      go_wp2
      go_roundw
      case rel => exact ⟨k + 1, by omega, by go_num, by rw [HS.out, List.length_append, List.map_append]; exact HO3.out, HB3.out⟩
      case measure => simp [intOf]; omega
    · obtain rfl : k = n := by omega
      have hfin : l.take k = l := List.take_of_length_le (by rw [HL.out]; exact Nat.le_refl _)
      rw [hfin] at HO
      go_wp2
      go_ret
      exact ⟨_, rfl, by rw [List.length_map]; rw [hfin]; exact HO.out, HB.out⟩
end Go.Proofs.Ytnkndpgaoplamaa
