/- PutRow. -/
import Derived.Test.YtnkndpgaoplamaaRow
import Derived.Laws.EntriesVeiled
import Derived.OneCell
namespace Go.Proofs.Ytnkndpgaoplamaa
open Go.RowKit
set_option linter.unusedVariables false

set_option maxRecDepth 100000 in
set_option maxHeartbeats 2000000 in
theorem putrow_core (s : Value) (xs : List Int) (l : List Int) (a : Option Addr) (n c : Nat) (w : World) (hK : Calls Try.prog 23 #[s] w (Rowed w 5 (xs.map bv))) (hx : xs.length ≤ 65536) (hr : Row w a n (l.map iv)) (hin : In64 l) (hn : n ≤ 65536) :
    Calls Try.prog 16 #[s, .slice a n c] w (Rowed w 5 ((xs ++ rowB l).map bv)) := by
  have HL := Lib.hid (show l.length = n from by simpa using hr.1)
  have HR := Lib.hid hr; clear hr
  have HI := Lib.hid hin; clear hin
  have HX := Lib.hid hx; clear hx
  go_enter Try.func16, Try.ntmps16
  go_wp2_with fail
  refine hK.mono ?_
  clear hK
  rintro e w1 ⟨v1, rfl, ho1, hb1⟩
  obtain ⟨a1, c1, rfl, _⟩ := Row.own ho1
  have O0 := Lib.hid ho1
  have B0 := Lib.hid hb1
  rw [List.length_map] at O0 ⊢
  clear ho1 hb1
  have hne0 : (Value.slice a1 xs.length c1).ownBlock ≠ some w1.heap.size := by
    intro h
    have := O0.out.lt _ h
    omega
  have HV := Lib.hid (heap_alloc_new w1 (.cells #[.slice a1 xs.length c1, .func (Fn.func 24) #[] #[]] 46))
  have O1 := Lib.hid (O0.out.alloc (.cells #[.slice a1 xs.length c1, .func (Fn.func 24) #[] #[]] 46))
  have B1 := Lib.hid (B0.out.alloc B0.out.size (.cells #[.slice a1 xs.length c1, .func (Fn.func 24) #[] #[]] 46))
  have HNE := Lib.hid hne0
  have VB := Lib.hid B0.out.size
  clear O0 B0 hne0
  go_wp2_with fail
  generalize w1.alloc (.cells #[.slice a1 xs.length c1, .func (Fn.func 24) #[] #[]] 46) = w2 at *
  obtain ⟨V, hV⟩ : ∃ V, w1.heap.size = V := ⟨_, rfl⟩
  rw [hV] at HV HNE VB
  simp only [hV]
  clear hV
  go_loopw [14] (fun i wr => ∃ (k : Nat) (va : Option Addr) (vn vc : Nat), k ≤ n ∧ i = .int .i64 k ∧ wr.heap[V]? = some (.cells #[.slice va vn vc, .func (Fn.func 24) #[] #[]] 46 (0, 0)) ∧ wr.ownsRow w.heap.size 5 1 (.slice va vn vc) (xs ++ rowB (l.take k)).length ((xs ++ rowB (l.take k)).map bv) ∧ (Value.slice va vn vc).ownBlock ≠ some V ∧ Below w.heap.size w wr) (fun i _ => n - (intOf i).toNat)
  case atStart => exact ⟨0, a1, xs.length, c1, by omega, rfl, HV.out, by simpa [rowB] using O1.out, HNE.out, B1.out⟩
  case round =>
    clear HV O1 HNE B1
    obtain ⟨k, va, vn, vc, hk, rfl, hv, hown, hne, hb⟩ := hrel
    have HV := Lib.hid hv; have HO := Lib.hid hown; have HNE := Lib.hid hne; have HB := Lib.hid hb
    clear hv hown hne hb
    have c0 : wr.cell? ⟨V, 0, none⟩ = some (.slice va vn vc) := (cell_of_row _ _ _ _ _ _ HV.out).trans rfl
    have c1' : wr.cell? ⟨V, 1, none⟩ = some (.func (Fn.func 24) #[] #[]) := (cell_of_row _ _ _ _ _ _ HV.out).trans rfl
    by_cases hlt : k < n
    · obtain ⟨x, hx⟩ : ∃ x, l[k]? = some x := ⟨l[k]'(by rw [HL.out]; exact hlt), by rw [List.getElem?_eq_getElem]⟩
      obtain ⟨b, o, rfl, hc0, hbl⟩ := HR.out.2 k (iv x) (by simp [hx])
      have hc : wr.cell? ⟨b, o + k, none⟩ = some (.int .i64 x) := by rw [HB.out.cell hbl]; exact hc0
      clear hc0 hbl
      have hxr := HI.out x (List.mem_of_getElem? hx)
      have HS := Lib.hid (rowB_snoc hx)
      obtain ⟨z1, z2⟩ := zg_nat hxr
      have KZ := Lib.hid (fun w => (zig_any x w hxr.1 hxr.2).mono (fun _ _ h => (⟨h.1, h.2.symm⟩ : _ ∧ _)))
      have hlk := rowB_take HI.out k
      have KC := Lib.hid (fun ww h => clos_any w.heap.size (.slice va vn vc) (xs ++ rowB (l.take k)) (zg x).toNat ww h (by have := HX.out; rw [List.length_append]; omega) z2)
      rw [z1] at KC
      clear hx z1 z2 hxr hlk
      go_wp2_with fail
      go_still_tail 6, (by kernel_rfl)
      still_call (KZ.out _)
      refine wpStill_nil ?_
      change wpList _ _ _ _ _ wr.drew
      go_wp2_with fail
      refine (KC.out _ HO.out.drew HB.out.size).mono ?_
      rintro e w3 ⟨v3, rfl, ho3, hg3, hm3⟩
      obtain ⟨va3, vc3, rfl, _⟩ := Row.own ho3
      have hn3 : (Value.slice va3 (List.map bv (xs ++ rowB (l.take k) ++ enc (zg x).toNat)).length vc3).ownBlock ≠ some V := by
        rcases hm3 with h | ⟨j, hj, hjk⟩
        · rw [h]; exact HNE.out
        · rw [hj]
          intro h
          have h1 : j = V := by simpa using h
          have h2 : V < wr.heap.size := lt_of_block HV.out
          have h3 : wr.heap.size ≤ j := hjk
          omega
      have hv3 : w3.heap[V]? = some (.cells #[.slice va vn vc, .func (Fn.func 24) #[] #[]] 46 (0, 0)) := (hg3.block V (lt_of_block HV.out) (fun h => HNE.out h.symm)).trans HV.out
      have hb3 : Below w.heap.size w w3 := HB.out.drew.grown hg3 HB.out.size (fun j hj => (HO.out.lt j hj).1)
      rw [List.length_map] at *
      generalize hme : (xs ++ rowB (l.take k) ++ enc (zg x).toNat).length = m3 at *
      have HME := Lib.hid hme; clear hme
      have HV3 := Lib.hid hv3; have HO3 := Lib.hid ho3; have HN3 := Lib.hid hn3; have HB3 := Lib.hid hb3
      have d0 : w3.cell? ⟨V, 0, none⟩ = some (.slice va vn vc) := (cell_of_row _ _ _ _ _ _ hv3).trans rfl
      have f0 : w3.frozen? ⟨V, 0, none⟩ = false := frozen_of_row _ _ _ _ _ hv3
      clear hv3 ho3 hn3 hb3 hg3 hm3 c0 c1'
      go_wp2
      go_roundw
      case rel =>
        refine ⟨k + 1, va3, _, vc3, by omega, by go_num, (heap_setCell_same _ _ _ _ _ _ HV3.out).trans rfl, ?_, HN3.out, HB3.out.setCell VB.out _⟩
        rw [HS.out, ← List.append_assoc, HME.out]
        exact ownsRow_setCell_other HO3.out HN3.out _
      case measure => simp [intOf]; omega
    · obtain rfl : k = n := by omega
      have hfin : l.take k = l := List.take_of_length_le (by rw [HL.out]; exact Nat.le_refl _)
      rw [hfin] at HO
      go_wp2
      go_ret
      refine ⟨_, rfl, ?_, HB.out⟩
      rw [List.length_map]
      exact HO.out
end Go.Proofs.Ytnkndpgaoplamaa
