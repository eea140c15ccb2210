/- Text of an add walked. -/
import Derived.Test.YtjhlpmigkbaegaaDoorText
import Derived.Deep.RegionHeld3
namespace Go.Proofs.YtjhlpmigkbaegaaDoor
open Go.RowKit
set_option linter.unusedVariables false
theorem keep_alloc {w W : World} {B : Nat} {h d : Value} {o : Obj} (H : W.cell? ⟨B, 0, none⟩ = some h ∧ W.cell? ⟨B, 4, none⟩ = some d ∧ B < W.heap.size ∧ Below w.heap.size w W) :
    (W.alloc o).cell? ⟨B, 0, none⟩ = some h ∧ (W.alloc o).cell? ⟨B, 4, none⟩ = some d ∧ B < (W.alloc o).heap.size ∧ Below w.heap.size w (W.alloc o) := by
  obtain ⟨h0, h4, hl, hb⟩ := H
  have hn : Below W.heap.size W (W.alloc o) := (Below.refl _ _).alloc (Nat.le_refl _) o
  exact ⟨by rw [hn.cell (p := ⟨B, 0, none⟩) hl]; exact h0, by rw [hn.cell (p := ⟨B, 4, none⟩) hl]; exact h4, by simp; omega, hb.then hn⟩
theorem keep_below {w W w1 : World} {B : Nat} {h d : Value} (H : W.cell? ⟨B, 0, none⟩ = some h ∧ W.cell? ⟨B, 4, none⟩ = some d ∧ B < W.heap.size ∧ Below w.heap.size w W) (hn : Below W.heap.size W w1) :
    w1.cell? ⟨B, 0, none⟩ = some h ∧ w1.cell? ⟨B, 4, none⟩ = some d ∧ B < w1.heap.size ∧ Below w.heap.size w w1 := by
  obtain ⟨h0, h4, hl, hb⟩ := H
  exact ⟨by rw [hn.cell (p := ⟨B, 0, none⟩) hl]; exact h0, by rw [hn.cell (p := ⟨B, 4, none⟩) hl]; exact h4, Nat.lt_of_lt_of_le hl hn.size, hb.then hn⟩
theorem keep_drew {w W : World} {B : Nat} {h d : Value} (H : W.cell? ⟨B, 0, none⟩ = some h ∧ W.cell? ⟨B, 4, none⟩ = some d ∧ B < W.heap.size ∧ Below w.heap.size w W) :
    W.drew.cell? ⟨B, 0, none⟩ = some h ∧ W.drew.cell? ⟨B, 4, none⟩ = some d ∧ B < W.drew.heap.size ∧ Below w.heap.size w W.drew := keep_below H (below_drewN (Below.refl _ _) 1)
theorem line_cell (w : World) (hT : Tabs w) (B : Nat) (h d : Value) (v : ByteArray) (x : Int) (hv : v.size ≤ 1099511627776) (hx : I64 x) (W : World) (s : Nat)
    (H : W.cell? ⟨B, 0, none⟩ = some h ∧ W.cell? ⟨B, 4, none⟩ = some d ∧ B < W.heap.size ∧ Below w.heap.size w W) (hc : W.cell? ⟨s, 0, none⟩ = some (.int .i64 x)) (hs : s < W.heap.size) :
    Calls Tryd.prog 26 #[.string v, .slice (some ⟨s, 0, none⟩) 1 1] W (fun e w1 => e = .returned (.string (lineS v [x])) ∧ (w1.cell? ⟨B, 0, none⟩ = some h ∧ w1.cell? ⟨B, 4, none⟩ = some d ∧ B < w1.heap.size ∧ Below w.heap.size w w1) ∧ Below W.heap.size W w1) := by
  have hr : Row W (some ⟨s, 0, none⟩) [x].length ([x].map i64v) := by
    refine ⟨rfl, fun i y hy => ⟨s, 0, rfl, ?_, hs⟩⟩
    match i, hy with
    | 0, hy => cases hy; exact hc
  exact (line_any v [x] _ 1 W (hT.below H.2.2.2) hr (by simp) hv (by simpa [I64] using hx)).mono fun e w1 hh => ⟨hh.1, keep_below H hh.2, hh.2⟩
set_option maxRecDepth 100000 in
set_option maxHeartbeats 4000000 in
theorem text_add_yes (w : World) (hT : Tabs w) (h d key : Int) (name : ByteArray) (hh : I64 h) (hd : I64 d) (hn : name.size ≤ 1048576) (s1 s2 s3 : ByteArray)
    (e1 : lineS ⟨#[97, 100, 100]⟩ [h] = s1) (e2 : (s1 ++ ⟨#[32]⟩) ++ ((⟨#[34]⟩ ++ name) ++ ⟨#[34]⟩) = s2) (e3 : lineS s2 [d] = s3) :
    Calls Tryd.prog 11 #[.iface 58 (.agg #[.int .i64 h, .bool true, .string name, .int .u64 key, .int .i64 d])] w (TPost w s3) := by
  have hbN := (Below.refl w.heap.size w).alloc (Nat.le_refl _) (.cells #[.int .i64 h, .bool true, .string name, .int .u64 key, .int .i64 d] 58)
  have z0 := lineS_size ⟨#[97, 100, 100]⟩ [h] (by simpa using hh)
  have z1 : s1.size ≤ 25 := by rw [e1] at z0; exact z0
  have z4 := Lib.itoa_length_le (wrap64 key) (wrap64_I64 key).1 (wrap64_I64 key).2
  have z2 : s2.size ≤ 2000000 := by
    rw [← e2]
    simp only [ByteArray.size_append]
    change s1.size + 1 + (1 + name.size + 1) ≤ _
    omega
  have KF := Lib.hid (Tryd.strconv_FormatInt_10 (wrap64 key) (wrap64_I64 key).1 (wrap64_I64 key).2 _ (hT.below hbN).pow)
  have KL1 := line_cell w hT w.heap.size (.int .i64 h) (.int .i64 d) ⟨#[97, 100, 100]⟩ h (by decide) hh
  have KL2 := line_cell w hT w.heap.size (.int .i64 h) (.int .i64 d) s2 d (by omega) hd
  rw [e1] at KL1
  rw [e3] at KL2
  rw [← e2] at KL2
  skip
  have KL1 := Lib.hid KL1
  have KL2 := Lib.hid KL2
  have H0 := Lib.hid (show (w.alloc (.cells #[.int .i64 h, .bool true, .string name, .int .u64 key, .int .i64 d] 58)).cell? ⟨w.heap.size, 0, none⟩ = some (.int .i64 h) ∧ (w.alloc (.cells #[.int .i64 h, .bool true, .string name, .int .u64 key, .int .i64 d] 58)).cell? ⟨w.heap.size, 4, none⟩ = some (.int .i64 d) ∧ w.heap.size < (w.alloc (.cells #[.int .i64 h, .bool true, .string name, .int .u64 key, .int .i64 d] 58)).heap.size ∧ Below w.heap.size w (w.alloc (.cells #[.int .i64 h, .bool true, .string name, .int .u64 key, .int .i64 d] 58)) from
    ⟨cell_of_row _ _ _ _ _ _ (heap_alloc_new w _), cell_of_row _ _ _ _ _ _ (heap_alloc_new w _), by simp, hbN⟩)
  have hc1 := cell_of_row _ _ 1 _ _ _ (heap_alloc_new w (.cells #[.int .i64 h, .bool true, .string name, .int .u64 key, .int .i64 d] 58))
  have hc2 := cell_of_row _ _ 2 _ _ _ (heap_alloc_new w (.cells #[.int .i64 h, .bool true, .string name, .int .u64 key, .int .i64 d] 58))
  have HC := Lib.hid (And.intro hc1 hc2)
  have q1 : ¬ 9223372036854775807 < s1.size + 1 := by omega
  have q2 : ¬ 9223372036854775807 < s1.size + 1 + (1 + name.size + 1) := by omega
  clear e1 e2 e3 z0 hbN hT hc1 hc2
  go_enter Tryd.func11, Tryd.ntmps11
  go_wp2_with fail
  refine KF.out.mono ?_
  rintro e w2 ⟨rfl, kk, os, hw2⟩
  have hbl : Below (w.alloc (.cells #[.int .i64 h, .bool true, .string name, .int .u64 key, .int .i64 d] 58)).heap.size (w.alloc (.cells #[.int .i64 h, .bool true, .string name, .int .u64 key, .int .i64 d] 58)) w2 := hw2 ▸ below_grow _ kk os
  have hS := keep_below H0.out hbl
  have c1 : w2.cell? ⟨w.heap.size, 1, none⟩ = some (.bool true) := by rw [hbl.cell (by simp)]; exact HC.out.1
  have c2 : w2.cell? ⟨w.heap.size, 2, none⟩ = some (.string name) := by rw [hbl.cell (by simp)]; exact HC.out.2
  clear hw2 hbl H0 HC KF
  go_wp2_with fail
  clear c1 c2
  go_region_held3 (fun w' => w'.cell? ⟨w.heap.size, 0, none⟩ = some (.int .i64 h) ∧ w'.cell? ⟨w.heap.size, 4, none⟩ = some (.int .i64 d) ∧ w.heap.size < w'.heap.size ∧ Below w.heap.size w w')
    (first | assumption | exact keep_drew (by assumption) | exact keep_alloc (by assumption) | exact keep_drew (keep_alloc (by assumption)))
    (first
      | (go_at_call 26; with_reducible refine Calls.mono (KL1.out _ _ ?_ ?_ ?_) ?_; (· assumption); (· first | (go_simp; done) | (refine (hb1.cell ?_).trans ?_ <;> go_simp)); (· first | (go_simp; done) | (refine Nat.lt_of_lt_of_le ?_ hb1.size; go_simp)); rintro e w1 ⟨rfl, hS1, hb1⟩)
      | (go_at_call 26; with_reducible refine Calls.mono (KL2.out _ _ ?_ ?_ ?_) ?_; (· assumption); (· first | (go_simp; done) | (refine (hb1.cell ?_).trans ?_ <;> go_simp)); (· first | (go_simp; done) | (refine Nat.lt_of_lt_of_le ?_ hb1.size; go_simp)); rintro e w1 ⟨rfl, hS1, hb1⟩))
  all_goals (go_wp2_with fail; go_ret)
  all_goals exact ⟨rfl, by first | exact hS1.2.2.2 | assumption⟩
set_option maxRecDepth 100000 in
set_option maxHeartbeats 4000000 in
theorem text_add_no (w : World) (hT : Tabs w) (h d key : Int) (name : ByteArray) (hh : I64 h) (hd : I64 d) (hn : name.size ≤ 1048576) (s1 s2 s3 : ByteArray)
    (e1 : lineS ⟨#[97, 100, 100]⟩ [h] = s1) (e2 : (s1 ++ ⟨#[32]⟩) ++ (numS (wrap64 key)) = s2) (e3 : lineS s2 [d] = s3) :
    Calls Tryd.prog 11 #[.iface 58 (.agg #[.int .i64 h, .bool false, .string name, .int .u64 key, .int .i64 d])] w (TPost w s3) := by
  have hbN := (Below.refl w.heap.size w).alloc (Nat.le_refl _) (.cells #[.int .i64 h, .bool false, .string name, .int .u64 key, .int .i64 d] 58)
  have z0 := lineS_size ⟨#[97, 100, 100]⟩ [h] (by simpa using hh)
  have z1 : s1.size ≤ 25 := by rw [e1] at z0; exact z0
  have z4 := Lib.itoa_length_le (wrap64 key) (wrap64_I64 key).1 (wrap64_I64 key).2
  have z2 : s2.size ≤ 2000000 := by
    rw [← e2]
    simp only [ByteArray.size_append]
    change s1.size + 1 + (Lib.itoa (wrap64 key)).length ≤ _
    omega
  have KF := Lib.hid (Tryd.strconv_FormatInt_10 (wrap64 key) (wrap64_I64 key).1 (wrap64_I64 key).2 _ (hT.below hbN).pow)
  have KL1 := line_cell w hT w.heap.size (.int .i64 h) (.int .i64 d) ⟨#[97, 100, 100]⟩ h (by decide) hh
  have KL2 := line_cell w hT w.heap.size (.int .i64 h) (.int .i64 d) s2 d (by omega) hd
  rw [e1] at KL1
  rw [e3] at KL2
  rw [← e2] at KL2
  rw [show numS (wrap64 key) = ⟨(Lib.itoa (wrap64 key)).toArray⟩ from rfl] at KL2
  have KL1 := Lib.hid KL1
  have KL2 := Lib.hid KL2
  have H0 := Lib.hid (show (w.alloc (.cells #[.int .i64 h, .bool false, .string name, .int .u64 key, .int .i64 d] 58)).cell? ⟨w.heap.size, 0, none⟩ = some (.int .i64 h) ∧ (w.alloc (.cells #[.int .i64 h, .bool false, .string name, .int .u64 key, .int .i64 d] 58)).cell? ⟨w.heap.size, 4, none⟩ = some (.int .i64 d) ∧ w.heap.size < (w.alloc (.cells #[.int .i64 h, .bool false, .string name, .int .u64 key, .int .i64 d] 58)).heap.size ∧ Below w.heap.size w (w.alloc (.cells #[.int .i64 h, .bool false, .string name, .int .u64 key, .int .i64 d] 58)) from
    ⟨cell_of_row _ _ _ _ _ _ (heap_alloc_new w _), cell_of_row _ _ _ _ _ _ (heap_alloc_new w _), by simp, hbN⟩)
  have hc1 := cell_of_row _ _ 1 _ _ _ (heap_alloc_new w (.cells #[.int .i64 h, .bool false, .string name, .int .u64 key, .int .i64 d] 58))
  have hc2 := cell_of_row _ _ 2 _ _ _ (heap_alloc_new w (.cells #[.int .i64 h, .bool false, .string name, .int .u64 key, .int .i64 d] 58))
  have HC := Lib.hid (And.intro hc1 hc2)
  have q1 : ¬ 9223372036854775807 < s1.size + 1 := by omega
  have q2 : ¬ 9223372036854775807 < s1.size + 1 + (Lib.itoa (wrap64 key)).length := by omega
  clear e1 e2 e3 z0 hbN hT hc1 hc2
  go_enter Tryd.func11, Tryd.ntmps11
  go_wp2_with fail
  refine KF.out.mono ?_
  rintro e w2 ⟨rfl, kk, os, hw2⟩
  have hbl : Below (w.alloc (.cells #[.int .i64 h, .bool false, .string name, .int .u64 key, .int .i64 d] 58)).heap.size (w.alloc (.cells #[.int .i64 h, .bool false, .string name, .int .u64 key, .int .i64 d] 58)) w2 := hw2 ▸ below_grow _ kk os
  have hS := keep_below H0.out hbl
  have c1 : w2.cell? ⟨w.heap.size, 1, none⟩ = some (.bool false) := by rw [hbl.cell (by simp)]; exact HC.out.1
  have c2 : w2.cell? ⟨w.heap.size, 2, none⟩ = some (.string name) := by rw [hbl.cell (by simp)]; exact HC.out.2
  clear hw2 hbl H0 HC KF
  go_wp2_with fail
  clear c1 c2
  go_region_held3 (fun w' => w'.cell? ⟨w.heap.size, 0, none⟩ = some (.int .i64 h) ∧ w'.cell? ⟨w.heap.size, 4, none⟩ = some (.int .i64 d) ∧ w.heap.size < w'.heap.size ∧ Below w.heap.size w w')
    (first | assumption | exact keep_drew (by assumption) | exact keep_alloc (by assumption) | exact keep_drew (keep_alloc (by assumption)))
    (first
      | (go_at_call 26; with_reducible refine Calls.mono (KL1.out _ _ ?_ ?_ ?_) ?_; (· assumption); (· first | (go_simp; done) | (refine (hb1.cell ?_).trans ?_ <;> go_simp)); (· first | (go_simp; done) | (refine Nat.lt_of_lt_of_le ?_ hb1.size; go_simp)); rintro e w1 ⟨rfl, hS1, hb1⟩)
      | (go_at_call 26; with_reducible refine Calls.mono (KL2.out _ _ ?_ ?_ ?_) ?_; (· assumption); (· first | (go_simp; done) | (refine (hb1.cell ?_).trans ?_ <;> go_simp)); (· first | (go_simp; done) | (refine Nat.lt_of_lt_of_le ?_ hb1.size; go_simp)); rintro e w1 ⟨rfl, hS1, hb1⟩))
  all_goals (go_wp2_with fail; go_ret)
  all_goals exact ⟨rfl, by first | exact hS1.2.2.2 | assumption⟩
end Go.Proofs.YtjhlpmigkbaegaaDoor
