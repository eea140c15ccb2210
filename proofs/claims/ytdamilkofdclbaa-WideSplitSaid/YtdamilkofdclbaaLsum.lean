/- Sum, Add of the reference. -/
import Derived.Test.YtdamilkofdclbaaLint
import Derived.Test.YtdamilkofdclbaaSum
import Derived.Test.YtdamilkofdclbaaBlk
import Derived.Deep.RegionWith
namespace Go.Proofs.Ytdamilkofdclbaa
open Go.RowKit
set_option linter.unusedVariables false

/-- Ten cells stored, one behind the other. -/
theorem At.ten {w : World} {k : Nat} {f : Nat → Int} (h : At w k f) (g : Nat → Int) :
    At ((((((((((w.setCell ⟨k, 0, none⟩ (.int .i64 (g 0))).setCell ⟨k, 1, none⟩ (.int .i64 (g 1))).setCell ⟨k, 2, none⟩ (.int .i64 (g 2))).setCell ⟨k, 3, none⟩ (.int .i64 (g 3))).setCell ⟨k, 4, none⟩ (.int .i64 (g 4))).setCell ⟨k, 5, none⟩ (.int .i64 (g 5))).setCell ⟨k, 6, none⟩ (.int .i64 (g 6))).setCell ⟨k, 7, none⟩ (.int .i64 (g 7))).setCell ⟨k, 8, none⟩ (.int .i64 (g 8))).setCell ⟨k, 9, none⟩ (.int .i64 (g 9))) k g := by
  refine ((((((((((h.set 0 _).set 1 _).set 2 _).set 3 _).set 4 _).set 5 _).set 6 _).set 7 _).set 8 _).set 9 _).congr fun i hi => ?_
  match i, hi with
  | 0, _ => rfl
  | 1, _ => rfl
  | 2, _ => rfl
  | 3, _ => rfl
  | 4, _ => rfl
  | 5, _ => rfl
  | 6, _ => rfl
  | 7, _ => rfl
  | 8, _ => rfl
  | 9, _ => rfl
theorem below_ten {B : Nat} {w0 w : World} (h : Below B w0 w) {k : Nat} (hk : B ≤ k) (g : Nat → Int) :
    Below B w0 ((((((((((w.setCell ⟨k, 0, none⟩ (.int .i64 (g 0))).setCell ⟨k, 1, none⟩ (.int .i64 (g 1))).setCell ⟨k, 2, none⟩ (.int .i64 (g 2))).setCell ⟨k, 3, none⟩ (.int .i64 (g 3))).setCell ⟨k, 4, none⟩ (.int .i64 (g 4))).setCell ⟨k, 5, none⟩ (.int .i64 (g 5))).setCell ⟨k, 6, none⟩ (.int .i64 (g 6))).setCell ⟨k, 7, none⟩ (.int .i64 (g 7))).setCell ⟨k, 8, none⟩ (.int .i64 (g 8))).setCell ⟨k, 9, none⟩ (.int .i64 (g 9))) :=
  (((((((((h.setCell hk _).setCell hk _).setCell hk _).setCell hk _).setCell hk _).setCell hk _).setCell hk _).setCell hk _).setCell hk _).setCell hk _
theorem At.drew {w : World} {k : Nat} {f : Nat → Int} (h : At w k f) : At w.drew k f := h
theorem fits_mid2 {a b : Int} (ha : Small a) (hb : Small b) : Mid (a + b) := by unfold Small at *; unfold Mid; omega
set_option maxRecDepth 100000 in
set_option maxHeartbeats 1000000 in
theorem ladd_any (a b : Int) (w : World) (ha : Small a) (hb : Small b) :
    Calls Try.prog 31 #[.int .i64 a, .int .i64 b] w fun e w' => e = .returned (smallV (a + b)) ∧ Below w.heap.size w w' := by
  have KA := Lib.hid (fun w => lofint_any a w ha.1 ha.2)
  have KB := Lib.hid (fun w => lofint_any b w hb.1 hb.2)
  have KP := Lib.hid (lplus_any a b)
  have ki := fun w => lint_any (a + b) w (fits_mid2 ha hb)
  obtain ⟨r, d, hsv⟩ : ∃ r d, smallV (a + b) = .tuple #[.int .i64 r, .bool d] := ⟨_, _, rfl⟩
  rw [hsv] at ki ⊢
  have KI := Lib.hid ki
  clear ki hsv ha hb
  unfold L at *
  go_enter Try.func31, Try.ntmps31
  go_wp2_with fail
  refine (KA.out _).mono ?_
  rintro e w1 ⟨rfl, hb1⟩
  go_wp2_with fail
  refine (KB.out _).mono ?_
  rintro e w2 ⟨rfl, hb2⟩
  have B2 := Lib.hid (hb1.then hb2); clear hb1 hb2
  go_wp2_with fail
  refine (KP.out _).mono ?_
  rintro e w3 ⟨rfl, hb3⟩
  have B3 := Lib.hid (B2.out.then hb3); clear B2 hb3
  go_wp2_with fail
  refine (KI.out _).mono ?_
  rintro e w4 ⟨rfl, hb4⟩
  have B4 := Lib.hid (B3.out.then hb4); clear B3 hb4
  go_wp2
  go_ret2
  exact ⟨rfl, B4.out⟩
theorem sm_mid {l : List Int} (h : In64 l) (k : Nat) (hk : k ≤ 65536) : Mid (sm (l.take k)) := fits_mid (sm_fits h k hk)

set_option maxRecDepth 100000 in
set_option maxHeartbeats 1000000 in
theorem lsum_any (l : List Int) (ad : Option Addr) (n c : Nat) (w : World) (hr : Row w ad n (l.map iv)) (hin : In64 l) (hn : n ≤ 65535) :
    Calls Try.prog 28 #[.slice ad n c] w fun e w' => e = .returned (smallV (sm l)) ∧ Below w.heap.size w w' := by
  have hz := zero30
  have hlen : l.length = n := by simpa using hr.1
  have HL := Lib.hid hlen; clear hlen
  have HR := Lib.hid hr; clear hr
  have HI := Lib.hid hin; clear hin
  have ki := fun w => lint_any (sm l) w (by have := sm_mid HI.out n (by omega); rwa [List.take_of_length_le (by rw [HL.out]; omega)] at this)
  obtain ⟨r, d, hsv⟩ : ∃ r d, smallV (sm l) = .tuple #[.int .i64 r, .bool d] := ⟨_, _, rfl⟩
  rw [hsv] at ki ⊢
  clear hsv
  unfold L at ki
  have KI := Lib.hid ki
  clear ki
  have O0 := Lib.hid (At.new w (fun _ => 0) rfl)
  have H0 := Lib.hid ((Below.refl w.heap.size w).alloc (Nat.le_refl _) (.cells (arr fun _ => 0) 30))
  go_enter Try.func28, Try.ntmps28
  go_wp2
  clear hz
  generalize w.alloc (.cells (arr fun _ => 0) 30) = w0 at *
  go_loopw [5] (fun i wr => ∃ k : Nat, k ≤ n ∧ i = .int .i64 k ∧ At wr w.heap.size (dg (sm (l.take k))) ∧ Below w.heap.size w wr) (fun i _ => n - (intOf i).toNat)
  case atStart => exact ⟨0, by omega, rfl, O0.out.congr fun i _ => by simp [sm, dg], H0.out⟩
  case round =>
    obtain ⟨k, hk, rfl, hO, hb⟩ := hrel
    have HO := Lib.hid hO; have HB := Lib.hid hb
    clear hO hb O0 H0
    by_cases hlt : k < n
    · obtain ⟨x, hx⟩ : ∃ x, l[k]? = some x := ⟨l[k]'(by rw [HL.out]; exact hlt), by rw [List.getElem?_eq_getElem]⟩
      obtain ⟨b, o, rfl, hc, hbl⟩ := HR.out.2 k (iv x) (by simp [hx])
      have hcx : wr.cell? ⟨b, o + k, none⟩ = some (.int .i64 x) := by rw [HB.out.cell hbl]; exact hc
      have hxr := HI.out x (List.mem_of_getElem? hx)
      have HS := Lib.hid (sm_take hx)
      have KX := Lib.hid (fun w => lofint_any x w hxr.1 hxr.2)
      have KP := Lib.hid (lplus_any (sm (l.take k)) x)
      unfold L at KX KP
      have i0 : (0 : Int) ≤ (k : Int) := by omega
      have i1 : (k : Int) < (n : Int) := by omega
      clear hx hc hxr
      generalize sm (l.take k) = s at *
      have hbl := Lib.hid hbl
      go_wp2_with fail
      rw [arr_ten (dg s), arr_ten (dg (s + x))] at KP
      have a0 := HO.out.cell (show 0 < 10 by omega)
      have a1 := HO.out.cell (show 1 < 10 by omega)
      have a2 := HO.out.cell (show 2 < 10 by omega)
      have a3 := HO.out.cell (show 3 < 10 by omega)
      have a4 := HO.out.cell (show 4 < 10 by omega)
      have a5 := HO.out.cell (show 5 < 10 by omega)
      have a6 := HO.out.cell (show 6 < 10 by omega)
      have a7 := HO.out.cell (show 7 < 10 by omega)
      have a8 := HO.out.cell (show 8 < 10 by omega)
      have a9 := HO.out.cell (show 9 < 10 by omega)
      go_region_with (first
        | (go_at_call 20; refine (KX.out _).mono ?_; rintro e w1 ⟨rfl, hb1⟩; have HO1 : Hid (At w1 w.heap.size (dg s)) := Lib.hid (by first | with_reducible exact HO.out.drew.below hb1 | with_reducible exact HO.out.below hb1); have HB1 : Hid (Below w.heap.size w w1) := Lib.hid (by first | with_reducible exact then_draw HB.out hb1 | with_reducible exact Below.then HB.out hb1); clear hb1; have b0 := HO1.out.cell (show 0 < 10 by omega); have b1 := HO1.out.cell (show 1 < 10 by omega); have b2 := HO1.out.cell (show 2 < 10 by omega); have b3 := HO1.out.cell (show 3 < 10 by omega); have b4 := HO1.out.cell (show 4 < 10 by omega); have b5 := HO1.out.cell (show 5 < 10 by omega); have b6 := HO1.out.cell (show 6 < 10 by omega); have b7 := HO1.out.cell (show 7 < 10 by omega); have b8 := HO1.out.cell (show 8 < 10 by omega); have b9 := HO1.out.cell (show 9 < 10 by omega))
        | (go_at_call 15; refine (KP.out _).mono ?_; rintro e w2 ⟨rfl, hb2⟩; have HO2 : Hid (At w2 w.heap.size (dg s)) := Lib.hid (HO1.out.below hb2); have HB2 : Hid (Below w.heap.size w w2) := Lib.hid (HB1.out.then hb2); clear hb2; have c0 := HO2.out.cell (show 0 < 10 by omega); have f0 := HO2.out.frozen 0; have c1 := HO2.out.cell (show 1 < 10 by omega); have f1 := HO2.out.frozen 1; have c2 := HO2.out.cell (show 2 < 10 by omega); have f2 := HO2.out.frozen 2; have c3 := HO2.out.cell (show 3 < 10 by omega); have f3 := HO2.out.frozen 3; have c4 := HO2.out.cell (show 4 < 10 by omega); have f4 := HO2.out.frozen 4; have c5 := HO2.out.cell (show 5 < 10 by omega); have f5 := HO2.out.frozen 5; have c6 := HO2.out.cell (show 6 < 10 by omega); have f6 := HO2.out.frozen 6; have c7 := HO2.out.cell (show 7 < 10 by omega); have f7 := HO2.out.frozen 7; have c8 := HO2.out.cell (show 8 < 10 by omega); have f8 := HO2.out.frozen 8; have c9 := HO2.out.cell (show 9 < 10 by omega); have f9 := HO2.out.frozen 9))
      all_goals go_wp2
      all_goals go_roundw
      all_goals first
        | (simp [intOf]; omega; done)
        | skip
      all_goals
        exact ⟨k + 1, by omega, by go_num, by rw [HS.out]; exact HO2.out.ten _, below_ten HB2.out (Nat.le_refl _) _⟩
    · obtain rfl : k = n := by omega
      have hfin : l.take k = l := List.take_of_length_le (by rw [HL.out]; exact Nat.le_refl _)
      rw [hfin] at HO
      go_wp2_with (first | (refine wpList_load_row rfl 30 (.tmp 4) rfl w.heap.size rfl 30 _ _ _ HO.out Try.underlying30 rfl (by rw [arr_size]; exact info30) ?_))
      refine (KI.out _).mono ?_
      rintro e w1 ⟨rfl, hb1⟩
      have HW := Lib.hid (HB.out.then hb1)
      clear hb1
      go_wp2
      go_ret2
      exact ⟨rfl, HW.out⟩
end Go.Proofs.Ytdamilkofdclbaa
