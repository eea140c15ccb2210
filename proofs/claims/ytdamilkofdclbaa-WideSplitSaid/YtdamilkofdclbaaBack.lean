/- WideBack walked. -/
import Derived.Test.YtdamilkofdclbaaShow
import Derived.Deep.RegionWith
import Derived.Deep.RegionHeld3
import Derived.Deep.DeepCutAuto
namespace Go.Proofs.Ytdamilkofdclbaa
open Go.RowKit
set_option linter.unusedVariables false

theorem add_agg (a b : Int) (w : World) (ha : Fits a) (hb : Fits b) (hab : Fits (a + b)) :
    Calls Try.prog 12 #[.agg #[.int .i64 (hiOf a), .int .u64 (loOf a)], .agg #[.int .i64 (hiOf b), .int .u64 (loOf b)]] w fun e w' => e = .returned (.tuple #[.agg #[.int .i64 (hiOf (a + b)), .int .u64 (loOf (a + b))], .bool true]) ∧ Below w.heap.size w w' := add_fits a b w ha hb hab
theorem add_not (a b : Int) (w : World) (ha : Fits a) (hb : Fits b) (hab : ¬ Fits (a + b)) :
    Calls Try.prog 12 #[.agg #[.int .i64 (hiOf a), .int .u64 (loOf a)], .agg #[.int .i64 (hiOf b), .int .u64 (loOf b)]] w fun e w' => e = .returned (.tuple #[.agg #[.int .i64 0, .int .u64 0], .bool false]) ∧ Below w.heap.size w w' := by
  have := add_any a b w ha hb
  rwa [fitW_not hab] at this
theorem sub_agg (a b : Int) (w : World) (ha : Fits a) (hb : Fits b) (hab : Fits (a - b)) :
    Calls Try.prog 13 #[.agg #[.int .i64 (hiOf a), .int .u64 (loOf a)], .agg #[.int .i64 (hiOf b), .int .u64 (loOf b)]] w fun e w' => e = .returned (.tuple #[.agg #[.int .i64 (hiOf (a - b)), .int .u64 (loOf (a - b))], .bool true]) ∧ Below w.heap.size w w' := sub_fits a b w ha hb hab
theorem less_agg (a b : Int) (w : World) :
    Calls Try.prog 26 #[.agg #[.int .i64 (hiOf a), .int .u64 (loOf a)], .agg #[.int .i64 (hiOf b), .int .u64 (loOf b)]] w fun e w' => e = .returned (.bool (decide (a < b))) ∧ Below w.heap.size w w' := less_any a b w
theorem of_agg (n : Int) (w : World) (h1 : -9223372036854775808 ≤ n) (h2 : n ≤ 9223372036854775807) :
    Calls Try.prog 32 #[.int .i64 n] w fun e w' => e = .returned (.agg #[.int .i64 (hiOf n), .int .u64 (loOf n)]) ∧ Below w.heap.size w w' := of_any n w h1 h2
theorem int_agg (v : Int) (w : World) (h : Small v) :
    Calls Try.prog 21 #[.agg #[.int .i64 (hiOf v), .int .u64 (loOf v)]] w fun e w' => e = .returned (.tuple #[.int .i64 v, .bool true]) ∧ Below w.heap.size w w' := by
  have := int_any v w
  rwa [smallV_is h] at this

set_option maxRecDepth 100000 in
set_option maxHeartbeats 2000000 in
theorem back_walk (a b : Int) (w : World) (ha : Fits a) (h1 : -9223372036854775808 ≤ b) (h2 : b ≤ 9223372036854775807) :
    Calls Try.prog 8 #[.agg #[.int .i64 (hiOf a), .int .u64 (loOf a)], .int .i64 b] w fun e w' => e = .returned (.bool true) ∧ Below w.heap.size w w' := by
  have hb := fits_small h1 h2
  have H1 := Lib.hid h1; have H2 := Lib.hid h2
  have kof := fun w => of_agg b w h1 h2
  have kint := fun w => int_agg b w ⟨h1, h2⟩
  have KO := Lib.hid kof; have KI := Lib.hid kint
  have A0 := Lib.hid (WAt.new w a rfl)
  have B0 := Lib.hid ((Below.refl w.heap.size w).alloc (Nat.le_refl _) (.cells #[.int .i64 (hiOf a), .int .u64 (loOf a)] 24))
  clear kof kint h1 h2
  by_cases hab : Fits (a + b)
  · have ka := fun w => add_agg a b w ha hb hab
    have ks := fun w => sub_agg (a + b) b w hab hb (by rw [Int.add_sub_cancel]; exact ha)
    rw [Int.add_sub_cancel] at ks
    have kl1 := fun w => less_agg (a + b) a w
    have kl2 := fun w => less_agg a (a + b) w
    rw [show decide (a + b < a) = decide (b < 0) from by congr 1; apply propext; omega] at kl1
    rw [show decide (a < a + b) = decide (0 < b) from by congr 1; apply propext; omega] at kl2
    have KA := Lib.hid ka; have KS := Lib.hid ks; have KL1 := Lib.hid kl1; have KL2 := Lib.hid kl2
    clear ka ks kl1 kl2 ha hb hab
    unfold WAt at A0
    generalize hiOf (a + b) = sh at *
    generalize loOf (a + b) = sl at *
    generalize hiOf a = ah at *
    generalize loOf a = al at *
    generalize hiOf b = bh at *
    generalize loOf b = bl at *
    clear a
    go_enter Try.func8, Try.ntmps8
    go_wp2_with fail
    obtain ⟨g, hg⟩ : ∃ g, w.heap.size = g := ⟨_, rfl⟩
    rw [hg] at A0
    simp only [hg]
    generalize w.alloc (.cells #[.int .i64 ah, .int .u64 al] 24) = w0 at *
    have HG := Lib.hid hg; clear hg
    refine (shown_any _).mono ?_
    rintro e w1 ⟨rfl, hb1⟩
    have A1 := Lib.hid (held_plain A0.out hb1)
    have B1 := Lib.hid (B0.out.then hb1); clear A0 B0 hb1
    go_wp2_with fail
    refine (KO.out _).mono ?_
    rintro e w2 ⟨rfl, hb2⟩
    have A2 := Lib.hid (held_plain A1.out hb2)
    have B2 := Lib.hid (B1.out.then hb2); clear A1 B1 hb2
    go_wp2_with fail
    refine (KI.out _).mono ?_
    rintro e w3 ⟨rfl, hb3⟩
    have A3 := Lib.hid (held_plain A2.out hb3)
    have B3 := Lib.hid (B2.out.then hb3); clear A2 B2 hb3
    have c0 : w3.cell? ⟨g, 0, none⟩ = some (.int .i64 ah) := (cell_of_row _ _ _ _ _ _ A3.out).trans rfl
    have c1 : w3.cell? ⟨g, 1, none⟩ = some (.int .u64 al) := (cell_of_row _ _ _ _ _ _ A3.out).trans rfl
    have n0 : w3.heap.size ≠ g := World.new_ne w3 _ c0
    go_upto_region 5 with fail
    go_cut [8, 9] (fun s8 s9 wx => ∃ q : Nat, s8 = .pointer (some ⟨q, 0, none⟩) ∧ s9 = .bool true ∧ wx.heap[q]? = some (.cells #[.int .i64 sh, .int .u64 sl] 24 (0, 0)) ∧ wx.heap[g]? = some (.cells #[.int .i64 ah, .int .u64 al] 24 (0, 0)) ∧ Below w.heap.size w wx)
    case first =>
      go_region_held3 (fun w' => w'.cell? ⟨g, 0, none⟩ = some (.int .i64 ah) ∧ w'.cell? ⟨g, 1, none⟩ = some (.int .u64 al)) (first | exact ⟨c0, c1⟩ | exact ⟨d0, d1⟩ | exact ⟨e0, e1⟩ | go_keep) (first
        | (go_at_call 32; refine (KO.out _).mono ?_; rintro e w4 ⟨rfl, hb4⟩; have A4 : Hid (w4.heap[g]? = some (.cells #[.int .i64 ah, .int .u64 al] 24 (0, 0))) := Lib.hid (by first | with_reducible exact held_draw A3.out hb4 | with_reducible exact held_make_draw A3.out hb4); have B4 : Hid (Below w.heap.size w w4) := Lib.hid (by first | with_reducible exact then_draw B3.out hb4 | with_reducible exact then_make_draw B3.out hb4); (try (have Z4 : Hid (w4.heap[w3.heap.size]? = some (.cells #[.int .i64 0, .int .u64 0] 24 (0, 0))) := Lib.hid (by with_reducible exact new_make_draw hb4))); clear hb4; have d0 : w4.cell? ⟨g, 0, none⟩ = some (.int .i64 ah) := (cell_of_row _ _ _ _ _ _ A4.out).trans rfl; have d1 : w4.cell? ⟨g, 1, none⟩ = some (.int .u64 al) := (cell_of_row _ _ _ _ _ _ A4.out).trans rfl; have n2 : w4.heap.size ≠ g := World.new_ne w4 _ d0)
        | (go_at_call 12; refine (KA.out _).mono ?_; rintro e w5 ⟨rfl, hb5⟩; have A5 : Hid (w5.heap[g]? = some (.cells #[.int .i64 ah, .int .u64 al] 24 (0, 0))) := Lib.hid (by first | with_reducible exact held_plain A4.out hb5 | with_reducible exact held_make A4.out hb5); have e0 : w5.cell? ⟨g, 0, none⟩ = some (.int .i64 ah) := (cell_of_row _ _ _ _ _ _ A5.out).trans rfl; have e1 : w5.cell? ⟨g, 1, none⟩ = some (.int .u64 al) := (cell_of_row _ _ _ _ _ _ A5.out).trans rfl; have n5 : w5.heap.size ≠ g := World.new_ne w5 _ e0; have B5 : Hid (Below w.heap.size w w5) := Lib.hid (by first | with_reducible exact Below.then B4.out hb5 | with_reducible exact then_make B4.out hb5); (first | (have Z5 := Lib.hid (held_plain Z4.out hb5); have z0 := cell_of_row _ _ 0 _ _ _ Z5.out; have z1 := cell_of_row _ _ 1 _ _ _ Z5.out; have f0 := frozen_of_row _ _ 0 _ _ Z5.out; have f1 := frozen_of_row _ _ 1 _ _ Z5.out) | (have Z5 : Hid (w5.heap[w4.heap.size]? = some (.cells #[.int .i64 0, .int .u64 0] 24 (0, 0))) := Lib.hid (by with_reducible exact new_make hb5); have z0 := cell_of_row _ _ 0 _ _ _ Z5.out; have z1 := cell_of_row _ _ 1 _ _ _ Z5.out; have f0 := frozen_of_row _ _ 0 _ _ Z5.out; have f1 := frozen_of_row _ _ 1 _ _ Z5.out) | skip); clear hb5))
      all_goals go_wp2_with fail
      all_goals go_meet
      all_goals first
        | exact ⟨_, rfl, rfl, heap_alloc_new _ _, (heap_alloc_old _ _ (lt_of_block A5.out)).trans A5.out, B5.out.alloc B5.out.size _⟩
        | exact ⟨_, rfl, rfl, two_set Z5.out, two_other A5.out (Ne.symm n2), (B5.out.setCell B4.out.size _).setCell B4.out.size _⟩
        | exact ⟨_, rfl, rfl, two_set Z5.out, two_other A5.out (Ne.symm n0), (B5.out.setCell B3.out.size _).setCell B3.out.size _⟩
    case rest =>
      obtain ⟨q, rfl, rfl, hq, ha, hb⟩ := hcut
      have Q3 := Lib.hid hq; have A3 := Lib.hid ha; have B3 := Lib.hid hb
      clear hq ha hb c0 c1 n0
      have c0 : wc.cell? ⟨q, 0, none⟩ = some (.int .i64 sh) := (cell_of_row _ _ _ _ _ _ Q3.out).trans rfl
      have c1 : wc.cell? ⟨q, 1, none⟩ = some (.int .u64 sl) := (cell_of_row _ _ _ _ _ _ Q3.out).trans rfl
      have n0 : wc.heap.size ≠ q := World.new_ne wc _ c0
      have m0 : wc.heap.size ≠ g := Nat.ne_of_gt (lt_of_block A3.out)
      go_upto_region 8 with fail
      go_cut [10, 11] (fun s8 s9 wx => ∃ r : Nat, s8 = .pointer (some ⟨r, 0, none⟩) ∧ s9 = .bool true ∧ wx.heap[r]? = some (.cells #[.int .i64 ah, .int .u64 al] 24 (0, 0)) ∧ wx.heap[q]? = some (.cells #[.int .i64 sh, .int .u64 sl] 24 (0, 0)) ∧ wx.heap[g]? = some (.cells #[.int .i64 ah, .int .u64 al] 24 (0, 0)) ∧ Below w.heap.size w wx)
      case first =>
        go_region_held3 (fun w' => w'.cell? ⟨q, 0, none⟩ = some (.int .i64 sh) ∧ w'.cell? ⟨q, 1, none⟩ = some (.int .u64 sl)) (first | exact ⟨c0, c1⟩ | exact ⟨d0, d1⟩ | exact ⟨e0, e1⟩ | go_keep) (first
          | (go_at_call 32; refine (KO.out _).mono ?_; rintro e w4 ⟨rfl, hb4⟩; have A4 : Hid (w4.heap[g]? = some (.cells #[.int .i64 ah, .int .u64 al] 24 (0, 0))) := Lib.hid (by first | with_reducible exact held_draw A3.out hb4 | with_reducible exact held_make_draw A3.out hb4); have Q4 : Hid (w4.heap[q]? = some (.cells #[.int .i64 sh, .int .u64 sl] 24 (0, 0))) := Lib.hid (by first | with_reducible exact held_draw Q3.out hb4 | with_reducible exact held_make_draw Q3.out hb4); have B4 : Hid (Below w.heap.size w w4) := Lib.hid (by first | with_reducible exact then_draw B3.out hb4 | with_reducible exact then_make_draw B3.out hb4); (try (have Z4 : Hid (w4.heap[wc.heap.size]? = some (.cells #[.int .i64 0, .int .u64 0] 24 (0, 0))) := Lib.hid (by with_reducible exact new_make_draw hb4))); clear hb4; have d0 : w4.cell? ⟨q, 0, none⟩ = some (.int .i64 sh) := (cell_of_row _ _ _ _ _ _ Q4.out).trans rfl; have d1 : w4.cell? ⟨q, 1, none⟩ = some (.int .u64 sl) := (cell_of_row _ _ _ _ _ _ Q4.out).trans rfl; have n2 : w4.heap.size ≠ q := World.new_ne w4 _ d0; have m2 : w4.heap.size ≠ g := Nat.ne_of_gt (lt_of_block A4.out))
          | (go_at_call 13; refine (KS.out _).mono ?_; rintro e w5 ⟨rfl, hb5⟩; have A5 : Hid (w5.heap[g]? = some (.cells #[.int .i64 ah, .int .u64 al] 24 (0, 0))) := Lib.hid (by first | with_reducible exact held_plain A4.out hb5 | with_reducible exact held_make A4.out hb5); have Q5 : Hid (w5.heap[q]? = some (.cells #[.int .i64 sh, .int .u64 sl] 24 (0, 0))) := Lib.hid (by first | with_reducible exact held_plain Q4.out hb5 | with_reducible exact held_make Q4.out hb5); have e0 : w5.cell? ⟨q, 0, none⟩ = some (.int .i64 sh) := (cell_of_row _ _ _ _ _ _ Q5.out).trans rfl; have e1 : w5.cell? ⟨q, 1, none⟩ = some (.int .u64 sl) := (cell_of_row _ _ _ _ _ _ Q5.out).trans rfl; have n5 : w5.heap.size ≠ q := World.new_ne w5 _ e0; have B5 : Hid (Below w.heap.size w w5) := Lib.hid (by first | with_reducible exact Below.then B4.out hb5 | with_reducible exact then_make B4.out hb5); (first | (have Z5 := Lib.hid (held_plain Z4.out hb5); have z0 := cell_of_row _ _ 0 _ _ _ Z5.out; have z1 := cell_of_row _ _ 1 _ _ _ Z5.out; have f0 := frozen_of_row _ _ 0 _ _ Z5.out; have f1 := frozen_of_row _ _ 1 _ _ Z5.out) | (have Z5 : Hid (w5.heap[w4.heap.size]? = some (.cells #[.int .i64 0, .int .u64 0] 24 (0, 0))) := Lib.hid (by with_reducible exact new_make hb5); have z0 := cell_of_row _ _ 0 _ _ _ Z5.out; have z1 := cell_of_row _ _ 1 _ _ _ Z5.out; have f0 := frozen_of_row _ _ 0 _ _ Z5.out; have f1 := frozen_of_row _ _ 1 _ _ Z5.out) | skip); clear hb5))
        all_goals go_wp2_with fail
        all_goals go_meet
        all_goals first
          | exact ⟨_, rfl, rfl, heap_alloc_new _ _, (heap_alloc_old _ _ (lt_of_block Q5.out)).trans Q5.out, (heap_alloc_old _ _ (lt_of_block A5.out)).trans A5.out, B5.out.alloc B5.out.size _⟩
          | exact ⟨_, rfl, rfl, two_set Z5.out, two_other Q5.out (Ne.symm n2), two_other A5.out (Ne.symm m2), (B5.out.setCell B4.out.size _).setCell B4.out.size _⟩
          | exact ⟨_, rfl, rfl, two_set Z5.out, two_other Q5.out (Ne.symm n0), two_other A5.out (Ne.symm m0), (B5.out.setCell B3.out.size _).setCell B3.out.size _⟩
      case rest =>
        obtain ⟨r, rfl, rfl, hr, hq, ha, hb⟩ := hcut
        have Q3 := Lib.hid hq; have A3 := Lib.hid ha; have B3 := Lib.hid hb; have R3 := Lib.hid hr
        clear hq ha hb hr c0 c1 n0 m0
        have c0 : wc.cell? ⟨q, 0, none⟩ = some (.int .i64 sh) := (cell_of_row _ _ _ _ _ _ Q3.out).trans rfl
        have c1 : wc.cell? ⟨q, 1, none⟩ = some (.int .u64 sl) := (cell_of_row _ _ _ _ _ _ Q3.out).trans rfl
        have a0 : wc.cell? ⟨g, 0, none⟩ = some (.int .i64 ah) := (cell_of_row _ _ _ _ _ _ A3.out).trans rfl
        have a1 : wc.cell? ⟨g, 1, none⟩ = some (.int .u64 al) := (cell_of_row _ _ _ _ _ _ A3.out).trans rfl
        have r0 : wc.cell? ⟨r, 0, none⟩ = some (.int .i64 ah) := (cell_of_row _ _ _ _ _ _ R3.out).trans rfl
        have r1 : wc.cell? ⟨r, 1, none⟩ = some (.int .u64 al) := (cell_of_row _ _ _ _ _ _ R3.out).trans rfl
        go_wp2_with fail
        refine (KL1.out _).mono ?_
        rintro e w6 ⟨rfl, hb6⟩
        have Q4 := Lib.hid (held_plain Q3.out hb6)
        have A4 := Lib.hid (held_plain A3.out hb6)
        have B4 := Lib.hid (B3.out.then hb6)
        clear hb6 c0 c1 a0 a1 r0 r1
        have c0 : w6.cell? ⟨q, 0, none⟩ = some (.int .i64 sh) := (cell_of_row _ _ _ _ _ _ Q4.out).trans rfl
        have c1 : w6.cell? ⟨q, 1, none⟩ = some (.int .u64 sl) := (cell_of_row _ _ _ _ _ _ Q4.out).trans rfl
        have a0 : w6.cell? ⟨g, 0, none⟩ = some (.int .i64 ah) := (cell_of_row _ _ _ _ _ _ A4.out).trans rfl
        have a1 : w6.cell? ⟨g, 1, none⟩ = some (.int .u64 al) := (cell_of_row _ _ _ _ _ _ A4.out).trans rfl
        go_wp2_with fail
        refine (KL2.out _).mono ?_
        rintro e w7 ⟨rfl, hb7⟩
        have B5 := Lib.hid (B4.out.then hb7)
        clear hb7
        go_wp2
        go_ret
        exact ⟨rfl, B5.out⟩
  · have ka := fun w => add_not a b w ha hb hab
    have hsg : (decide (0 < b) = true ∧ decide (0 ≤ hiOf a) = true) ∨ (decide (0 < b) = false ∧ decide (0 ≤ hiOf a) = false) := by
      have h1 := H1.out
      have h2 := H2.out
      unfold Fits at ha hab
      rw [decide_eq_true_iff, decide_eq_true_iff, decide_eq_false_iff_not, decide_eq_false_iff_not]
      unfold hiOf; omega
    have HSG := Lib.hid hsg; clear hsg
    have KA := Lib.hid ka
    clear ka ha hb hab
    unfold WAt at A0
    generalize hiOf a = ah at *
    generalize loOf a = al at *
    generalize hiOf b = bh at *
    generalize loOf b = bl at *
    clear a
    go_enter Try.func8, Try.ntmps8
    go_wp2_with fail
    obtain ⟨g, hg⟩ : ∃ g, w.heap.size = g := ⟨_, rfl⟩
    rw [hg] at A0
    simp only [hg]
    generalize w.alloc (.cells #[.int .i64 ah, .int .u64 al] 24) = w0 at *
    have HG := Lib.hid hg; clear hg
    refine (shown_any _).mono ?_
    rintro e w1 ⟨rfl, hb1⟩
    have A1 := Lib.hid (held_plain A0.out hb1)
    have B1 := Lib.hid (B0.out.then hb1); clear A0 B0 hb1
    go_wp2_with fail
    refine (KO.out _).mono ?_
    rintro e w2 ⟨rfl, hb2⟩
    have A2 := Lib.hid (held_plain A1.out hb2)
    have B2 := Lib.hid (B1.out.then hb2); clear A1 B1 hb2
    go_wp2_with fail
    refine (KI.out _).mono ?_
    rintro e w3 ⟨rfl, hb3⟩
    have A3 := Lib.hid (held_plain A2.out hb3)
    have B3 := Lib.hid (B2.out.then hb3); clear A2 B2 hb3
    have c0 : w3.cell? ⟨g, 0, none⟩ = some (.int .i64 ah) := (cell_of_row _ _ _ _ _ _ A3.out).trans rfl
    have c1 : w3.cell? ⟨g, 1, none⟩ = some (.int .u64 al) := (cell_of_row _ _ _ _ _ _ A3.out).trans rfl
    have n0 : w3.heap.size ≠ g := World.new_ne w3 _ c0
    go_upto_region 5 with fail
    go_cut [8, 9] (fun s8 s9 wx => ∃ q : Nat, s8 = .pointer (some ⟨q, 0, none⟩) ∧ s9 = .bool false ∧ wx.heap[q]? = some (.cells #[.int .i64 0, .int .u64 0] 24 (0, 0)) ∧ wx.heap[g]? = some (.cells #[.int .i64 ah, .int .u64 al] 24 (0, 0)) ∧ Below w.heap.size w wx)
    case first =>
      go_region_held3 (fun w' => w'.cell? ⟨g, 0, none⟩ = some (.int .i64 ah) ∧ w'.cell? ⟨g, 1, none⟩ = some (.int .u64 al)) (first | exact ⟨c0, c1⟩ | exact ⟨d0, d1⟩ | exact ⟨e0, e1⟩ | go_keep) (first
        | (go_at_call 32; refine (KO.out _).mono ?_; rintro e w4 ⟨rfl, hb4⟩; have A4 : Hid (w4.heap[g]? = some (.cells #[.int .i64 ah, .int .u64 al] 24 (0, 0))) := Lib.hid (by first | with_reducible exact held_draw A3.out hb4 | with_reducible exact held_make_draw A3.out hb4); have B4 : Hid (Below w.heap.size w w4) := Lib.hid (by first | with_reducible exact then_draw B3.out hb4 | with_reducible exact then_make_draw B3.out hb4); (try (have Z4 : Hid (w4.heap[w3.heap.size]? = some (.cells #[.int .i64 0, .int .u64 0] 24 (0, 0))) := Lib.hid (by with_reducible exact new_make_draw hb4))); clear hb4; have d0 : w4.cell? ⟨g, 0, none⟩ = some (.int .i64 ah) := (cell_of_row _ _ _ _ _ _ A4.out).trans rfl; have d1 : w4.cell? ⟨g, 1, none⟩ = some (.int .u64 al) := (cell_of_row _ _ _ _ _ _ A4.out).trans rfl; have n2 : w4.heap.size ≠ g := World.new_ne w4 _ d0)
        | (go_at_call 12; refine (KA.out _).mono ?_; rintro e w5 ⟨rfl, hb5⟩; have A5 : Hid (w5.heap[g]? = some (.cells #[.int .i64 ah, .int .u64 al] 24 (0, 0))) := Lib.hid (by first | with_reducible exact held_plain A4.out hb5 | with_reducible exact held_make A4.out hb5); have e0 : w5.cell? ⟨g, 0, none⟩ = some (.int .i64 ah) := (cell_of_row _ _ _ _ _ _ A5.out).trans rfl; have e1 : w5.cell? ⟨g, 1, none⟩ = some (.int .u64 al) := (cell_of_row _ _ _ _ _ _ A5.out).trans rfl; have n5 : w5.heap.size ≠ g := World.new_ne w5 _ e0; have B5 : Hid (Below w.heap.size w w5) := Lib.hid (by first | with_reducible exact Below.then B4.out hb5 | with_reducible exact then_make B4.out hb5); (first | (have Z5 := Lib.hid (held_plain Z4.out hb5); have z0 := cell_of_row _ _ 0 _ _ _ Z5.out; have z1 := cell_of_row _ _ 1 _ _ _ Z5.out; have f0 := frozen_of_row _ _ 0 _ _ Z5.out; have f1 := frozen_of_row _ _ 1 _ _ Z5.out) | (have Z5 : Hid (w5.heap[w4.heap.size]? = some (.cells #[.int .i64 0, .int .u64 0] 24 (0, 0))) := Lib.hid (by with_reducible exact new_make hb5); have z0 := cell_of_row _ _ 0 _ _ _ Z5.out; have z1 := cell_of_row _ _ 1 _ _ _ Z5.out; have f0 := frozen_of_row _ _ 0 _ _ Z5.out; have f1 := frozen_of_row _ _ 1 _ _ Z5.out) | skip); clear hb5))
      all_goals go_wp2_with fail
      all_goals go_meet
      all_goals first
        | exact ⟨_, rfl, rfl, heap_alloc_new _ _, (heap_alloc_old _ _ (lt_of_block A5.out)).trans A5.out, B5.out.alloc B5.out.size _⟩
        | exact ⟨_, rfl, rfl, two_set Z5.out, two_other A5.out (Ne.symm n2), (B5.out.setCell B4.out.size _).setCell B4.out.size _⟩
        | exact ⟨_, rfl, rfl, two_set Z5.out, two_other A5.out (Ne.symm n0), (B5.out.setCell B3.out.size _).setCell B3.out.size _⟩
    case rest =>
      obtain ⟨q, rfl, rfl, hq, ha, hb⟩ := hcut
      have Q3 := Lib.hid hq; have A3 := Lib.hid ha; have B3 := Lib.hid hb
      clear hq ha hb c0 c1 n0
      have c0 : wc.cell? ⟨q, 0, none⟩ = some (.int .i64 0) := (cell_of_row _ _ _ _ _ _ Q3.out).trans rfl
      have c1 : wc.cell? ⟨q, 1, none⟩ = some (.int .u64 0) := (cell_of_row _ _ _ _ _ _ Q3.out).trans rfl
      have a0 : wc.cell? ⟨g, 0, none⟩ = some (.int .i64 ah) := (cell_of_row _ _ _ _ _ _ A3.out).trans rfl
      have a1 : wc.cell? ⟨g, 1, none⟩ = some (.int .u64 al) := (cell_of_row _ _ _ _ _ _ A3.out).trans rfl
      rcases HSG.out with ⟨s1, s2⟩ | ⟨s1, s2⟩
      all_goals go_wp2
      all_goals go_ret
      all_goals exact ⟨rfl, B3.out⟩
end Go.Proofs.Ytdamilkofdclbaa
