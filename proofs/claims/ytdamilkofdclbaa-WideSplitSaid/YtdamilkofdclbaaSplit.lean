/- WideSplit walked. -/
import Derived.Test.YtdamilkofdclbaaLaws1
namespace Go.Proofs.Ytdamilkofdclbaa
open Go.RowKit
set_option linter.unusedVariables false

theorem row_one (w : World) (x : Int) : Row (w.alloc (.cells #[iv x] 2)) (some ⟨w.heap.size, 0, none⟩) 1 [iv x] := by
  refine ⟨rfl, fun i y hy => ⟨w.heap.size, 0, rfl, ?_, by simp⟩⟩
  rw [Nat.zero_add, cell_of_row _ _ _ _ _ _ (heap_alloc_new w _)]
  rcases i with _ | i
  · simpa using hy
  · simp at hy
theorem sm_perm {a b : List Int} (h : a.Perm b) : sm a = sm b := by
  induction h with
  | nil => rfl
  | cons x _ ih => simp [sm, ih]
  | swap x y l => simp [sm]; omega
  | trans _ _ h1 h2 => exact h1.trans h2
theorem split_bound {x y : Int} (hx : -2147483648 ≤ x ∧ x ≤ 2147483647) (hy : -2147483648 ≤ y ∧ y ≤ 2147483647) : Fits (x * y) := by
  have := prod_bound (a := x) (b := y) (by omega) (by omega) (by omega) (by omega)
  unfold Fits; omega
set_option maxRecDepth 100000 in
set_option maxHeartbeats 16000000 in
theorem split_walk (a : Option Addr) (len cap : Nat) (l : List Int) (y p q r : Int) (w : World) (hl : Row w a len (l.map iv)) (hin : In64 l) (hcap : len ≤ cap) (hcm : cap ≤ 9223372036854775807) (hnil : a = none → cap = 0)
    (hp : -2147483648 ≤ p ∧ p ≤ 2147483647) (hq : -2147483648 ≤ q ∧ q ≤ 2147483647) (hr : -2147483648 ≤ r ∧ r ≤ 2147483647) :
    Calls Try.prog 10 #[.slice a len cap, .int .i64 y, .agg #[.int .i32 p, .int .i32 q, .int .i32 r]] w fun e w' => e = .returned (.bool true) ∧ Below w.heap.size w w' := by
  obtain ⟨i0, hi, hz0, hz1, hz2⟩ := info_parts info2
  have K0 := Lib.hid shown_any
  have KT1 := Lib.hid (fun w => times_any p (q + r) w (by omega) (by omega) (by omega) (by omega))
  have KT2 := Lib.hid (fun w => times_any p q w (by omega) (by omega) (by omega) (by omega))
  have KT3 := Lib.hid (fun w => times_any p r w (by omega) (by omega) (by omega) (by omega))
  have KT4 := Lib.hid (fun w => times_any q p w (by omega) (by omega) (by omega) (by omega))
  have kad := fun w => add_fits (p * q) (p * r) w (split_bound hp hq) (split_bound hp hr) (by rw [← Int.mul_add]; have := prod_bound (a := p) (b := q + r) (by omega) (by omega) (by omega) (by omega); unfold Fits; omega)
  rw [← Int.mul_add] at kad
  rw [Int.mul_comm q p] at KT4
  unfold W at KT1 KT2 KT3 KT4 kad
  have KAD := Lib.hid kad; clear kad
  generalize p * (q + r) = s1 at *
  generalize p * q = s2 at *
  generalize p * r = s3 at *
  generalize hiOf s1 = s1h at *
  generalize loOf s1 = s1l at *
  generalize hiOf s2 = s2h at *
  generalize loOf s2 = s2l at *
  generalize hiOf s3 = s3h at *
  generalize loOf s3 = s3l at *
  have E1 := Lib.hid (pair_eq s1h s1l)
  have E2 := Lib.hid (pair_eq s2h s2l)
  have hb0 : Below w.heap.size w (w.alloc (.cells #[.int .i32 p, .int .i32 q, .int .i32 r] 51)) := (Below.refl _ _).alloc (Nat.le_refl _) _
  have hl0 : Row (w.alloc (.cells #[.int .i32 p, .int .i32 q, .int .i32 r] 51)) a len (l.map iv) := hl.below hb0
  have hX : (w.alloc (.cells #[.int .i32 p, .int .i32 q, .int .i32 r] 51)).heap[w.heap.size]? = some (.cells #[.int .i32 p, .int .i32 q, .int .i32 r] 51 (0, 0)) := heap_alloc_new w _
  have X0 := Lib.hid hX; clear hX
  have HP := Lib.hid hp; have HQ := Lib.hid hq; have HR0 := Lib.hid hr
  have H0 := Lib.hid hb0; clear hb0 hp hq hr
  by_cases hle : len ≤ 500
  · have hm : len * 8 ≤ 140737488355328 := by omega
    have hm2 : len ≤ maxLen := by unfold maxLen; omega
    have hl2 := hl0
    generalize l = L at hl2 hin
    have hmin : min (len : Int) 500 = (len : Int) := by omega
    have hone := iv_one L
    have HLn := Lib.hid (show L.length = len from by simpa using hl2.1)
    have HIN := Lib.hid hin
    clear hl hin hl0
    obtain ⟨k, hkdef⟩ : ∃ k : Nat, (y % 65536).toNat % (len + 1) = k := ⟨_, rfl⟩
    have hk : k ≤ len := by have := Nat.mod_lt (y % 65536).toNat (show 0 < len + 1 by omega); omega
    have hand := and_65535 y
    have hrem : (((y % 65536).toNat : Nat) : Int).tmod ((len : Int) + 1) = (k : Int) := by rw [Int.tmod_eq_emod_of_nonneg (by omega), ← hkdef, Int.natCast_emod]; rfl
    clear hkdef
    generalize (y % 65536).toNat = q0 at *
    have HAND := Lib.hid hand; have HREM := Lib.hid hrem; clear hand hrem
    have k1 := fun ad cc (ww : World) hr => sum_any L ad len cc ww hr HIN.out (by omega)
    have k2 := fun ad cc (ww : World) hr => sum_any L.reverse ad len cc ww hr (fun x hx => HIN.out x (by simpa using hx)) (by omega)
    have k3 := fun ad cc (ww : World) hr => sum_any (L.take k) ad k cc ww hr (fun x hx => HIN.out x (List.mem_of_mem_take hx)) (by omega)
    have k4 := fun ad cc (ww : World) hr => sum_any (L.drop k) ad (len - k) cc ww hr (fun x hx => HIN.out x (List.mem_of_mem_drop hx)) (by omega)
    rw [sm_perm (List.reverse_perm L)] at k2
    have hsum : sm (L.take k) + sm (L.drop k) = sm L := by rw [← sm_append, List.take_append_drop]
    have hcs : (Small (sm (L.take k)) ∧ Small (sm (L.drop k))) ∨ (¬ Small (sm (L.take k))) ∨ (Small (sm (L.take k)) ∧ ¬ Small (sm (L.drop k))) := by
      by_cases h1 : Small (sm (L.take k))
      · by_cases h2 : Small (sm (L.drop k))
        · exact .inl ⟨h1, h2⟩
        · exact .inr (.inr ⟨h1, h2⟩)
      · exact .inr (.inl h1)
    have k5 : ∀ ww, Small (sm (L.take k)) → Small (sm (L.drop k)) → Calls Try.prog 29 #[.int .i64 (sm (L.take k)), .int .i64 (sm (L.drop k))] ww fun e w' => e = .returned (smallV (sm L)) ∧ Below ww.heap.size ww w' := fun ww h1 h2 => by
      have := plus_any _ _ ww h1.1 h1.2 h2.1 h2.2
      rwa [hsum] at this
    obtain ⟨rr, d, hs⟩ : ∃ r d, smallV (sm L) = .tuple #[.int .i64 r, .bool d] := ⟨_, _, rfl⟩
    rw [hs] at k1 k2 k5
    have K1 := Lib.hid k1; have K2 := Lib.hid k2; have K3 := Lib.hid k3; have K4 := Lib.hid k4; have K5 := Lib.hid k5
    have HCS := Lib.hid hcs
    clear k1 k2 k3 k4 k5 hs hsum hcs
    go_enter Try.func10, Try.ntmps10
    go_wp2_with fail
    generalize w.alloc (.cells #[.int .i32 p, .int .i32 q, .int .i32 r] 51) = w0 at *
    refine (K0.out _).mono ?_
    rintro e w1 ⟨rfl, hb1⟩
    have X1 := Lib.hid (held_plain X0.out hb1)
    have H1 := Lib.hid (H0.out.then hb1)
    go_wp2_with (at_builtin; refine wpList_append_fresh rfl (.tmp 27) (.tmp 32) 44 rfl w1.heap.size 2 i0 (.int .i64 0) 8 Try.underlying44 hi hz0 hz1 hz2 rfl _ _ rfl (owns_empty w1 2) a len cap (L.map iv) rfl (hl2.below (hb1.alloc hb1.size _)) hnil hone hm2 hm (by simp) ?_)
    intro g c1 w2 hgB hnc hcm1 hrow hown hb2
    have b12 : Below w1.heap.size w1 w2 := ((Below.refl _ _).alloc (Nat.le_refl _) _).trans hb2
    have X2 := Lib.hid (held_plain X1.out b12)
    have H2 := Lib.hid (H1.out.then b12)
    have R2 := Lib.hid hrow
    clear hrow hown hb2 b12 hb1 X1 H1 X0 H0 hl2
    go_wp2_with fail
    rw [HAND.out, HREM.out]
    have R3 := Lib.hid (R2.out.below ((Below.refl w2.heap.size w2).alloc (Nat.le_refl _) (.cells #[] 2)))
    have X3 := Lib.hid ((heap_alloc_old w2 (.cells #[] 2) (lt_of_block X2.out)).trans X2.out)
    have H3 := Lib.hid (H2.out.alloc H2.out.size (.cells #[] 2))
    have O3 := Lib.hid (owns_empty w2 2)
    have T3 := Lib.hid ((Below.refl w2.heap.size w2).alloc (Nat.le_refl _) (.cells #[] 2))
    go_loopw [8, 9] (fun v i wr => ∃ m : Nat, m ≤ len ∧ i = .int .i64 ((m : Int) - 1) ∧ wr.ownsRow w2.heap.size 2 1 v (len - m) ((L.drop m).reverse.map iv) ∧ Below w2.heap.size w2 wr) (fun _ i _ => (intOf i + 1).toNat)
    case atStart => exact ⟨len, Nat.le_refl _, rfl, by rw [Nat.sub_self, List.drop_of_length_le (by rw [HLn.out]; exact Nat.le_refl _)]; exact O3.out, T3.out⟩
    case round =>
      clear R3 X3 H3 O3 T3
      obtain ⟨m, hmn, rfl, hown, hbr⟩ := hrel
      have HO := Lib.hid hown; have HB := Lib.hid hbr
      obtain ⟨va, vc, rfl, hrow⟩ := Row.own hown
      have HR := Lib.hid hrow
      clear hown hbr hrow
      rcases m with _ | t
      · rw [show (((0 : Nat) : Int) - 1) = -1 from rfl]
        have hkc : k ≤ c1 := by omega
        have hki : (k : Int) ≤ (len : Int) := by omega
        have RL := Lib.hid (R2.out.below HB.out)
        have X4 := Lib.hid (held_plain X2.out HB.out)
        have H4 := Lib.hid (H2.out.trans (HB.out.mono H2.out.size))
        have RB := Lib.hid (show Row wr va len (L.reverse.map iv) from HR.out)
        rw [show len - 0 = len from rfl]
        clear HO HB HR R2 X2 H2
        go_wp2_with fail
        refine (K1.out _ _ _ RL.out).mono ?_
        rintro e w4 ⟨rfl, hb4⟩
        have RL := Lib.hid (RL.out.below hb4)
        have RB := Lib.hid (RB.out.below hb4)
        have X4 := Lib.hid (held_plain X4.out hb4)
        have H4 := Lib.hid (H4.out.then hb4)
        clear hb4
        go_wp2_with fail
        refine (K2.out _ _ _ RB.out).mono ?_
        rintro e w5 ⟨rfl, hb5⟩
        have RL := Lib.hid (RL.out.below hb5)
        have X4 := Lib.hid (held_plain X4.out hb5)
        have H4 := Lib.hid (H4.out.then hb5)
        clear hb5 RB
        have RT := Lib.hid (show Row w5 (some ⟨g, 0, none⟩) k ((L.take k).map iv) from by have := RL.out.take k hk; rwa [← List.map_take] at this)
        rcases (show (c1 = k) ∨ (¬ c1 = k) from by omega) with hck | hck <;> rcases HCS.out with ⟨h1, h2⟩ | h1 | ⟨h1, h2⟩ <;> cases d
        all_goals (first | rw [smallV_is h1] at K3 | rw [smallV_not h1] at K3)
        all_goals (first | rw [smallV_is h2] at K4 | rw [smallV_not h2] at K4 | skip)
        all_goals (obtain ⟨r4, d4, hs4⟩ : ∃ r d, smallV (sm (L.drop k)) = .tuple #[.int .i64 r, .bool d] := ⟨_, _, rfl⟩)
        all_goals (try rw [hs4] at K4)
        all_goals clear hs4
        all_goals (try (have K5 := Lib.hid (fun ww => K5.out ww h1 h2)))
        all_goals (try clear h1)
        all_goals (try clear h2)
        all_goals (try subst hck)
        all_goals go_wp2_with fail
        all_goals refine (K3.out _ _ _ RT.out).mono ?_
        all_goals rintro e w6 ⟨rfl, hb6⟩
        all_goals have RL := Lib.hid (RL.out.below hb6)
        all_goals have X4 := Lib.hid (held_plain X4.out hb6)
        all_goals have H4 := Lib.hid (H4.out.then hb6)
        all_goals clear hb6 RT
        all_goals go_wp2_with fail
        all_goals (try rw [show len - c1 = 0 from by omega] at K4)
        all_goals first
          | ((with_reducible refine (K4.out (some ⟨g, 0, none⟩) 0 _ ?_).mono ?_); (focus (rw [List.drop_of_length_le (by rw [HLn.out]; omega)]; exact Row.nil _ _)))
          | ((with_reducible refine (K4.out (some ⟨g, k, none⟩) (c1 - k) _ ?_).mono ?_); (focus (have hrd := RL.out.drop k hk; rw [Nat.zero_add, ← List.map_drop] at hrd; exact hrd)))
        all_goals rintro e w7 ⟨rfl, hb7⟩
        all_goals have X4 := Lib.hid (held_plain X4.out hb7)
        all_goals have H4 := Lib.hid (H4.out.then hb7)
        all_goals clear hb7 RL
        all_goals (have xc0 : w7.cell? ⟨w.heap.size, 0, none⟩ = some (.int .i32 p) := (cell_of_row _ _ _ _ _ _ X4.out).trans rfl; have xc1 : w7.cell? ⟨w.heap.size, 1, none⟩ = some (.int .i32 q) := (cell_of_row _ _ _ _ _ _ X4.out).trans rfl; have xc2 : w7.cell? ⟨w.heap.size, 2, none⟩ = some (.int .i32 r) := (cell_of_row _ _ _ _ _ _ X4.out).trans rfl)
        all_goals have hp := HP.out
        all_goals have hq := HQ.out
        all_goals have hr := HR0.out
        all_goals go_wp2_with fail
        all_goals (try (go_at_call 29; ((with_reducible refine (K5.out _).mono ?_)); rintro e w7 ⟨rfl, hb7⟩; clear xc0 xc1 xc2; (have X4 := Lib.hid (held_plain X4.out hb7)); (have H4 := Lib.hid (H4.out.then hb7)); clear hb7; have xc0 : w7.cell? ⟨w.heap.size, 0, none⟩ = some (.int .i32 p) := (cell_of_row _ _ _ _ _ _ X4.out).trans rfl; have xc1 : w7.cell? ⟨w.heap.size, 1, none⟩ = some (.int .i32 q) := (cell_of_row _ _ _ _ _ _ X4.out).trans rfl; have xc2 : w7.cell? ⟨w.heap.size, 2, none⟩ = some (.int .i32 r) := (cell_of_row _ _ _ _ _ _ X4.out).trans rfl; go_wp2_with fail))
        all_goals clear xc0 xc1 xc2
        all_goals refine (KT1.out _).mono ?_
        all_goals rintro e w8 ⟨rfl, hb8⟩
        all_goals have H8 := Lib.hid (H4.out.then hb8)
        all_goals have S8 := Lib.hid (PAt.new w8 s1h s1l rfl)
        all_goals have H9 := Lib.hid (H8.out.alloc H8.out.size (.cells #[.int .i64 s1h, .int .u64 s1l] 24))
        all_goals clear hb8 H4 X4 H8
        all_goals go_wp2_with fail
        all_goals generalize w8.heap.size = gs at *
        all_goals generalize w8.alloc (.cells #[.int .i64 s1h, .int .u64 s1l] 24) = w9 at *
        all_goals refine (KT2.out _).mono ?_
        all_goals rintro e w10 ⟨rfl, hb10⟩
        all_goals have S10 := Lib.hid (S8.out.below hb10)
        all_goals have H10 := Lib.hid (H9.out.then hb10)
        all_goals clear hb10 S8 H9
        all_goals go_wp2_with fail
        all_goals refine (KT3.out _).mono ?_
        all_goals rintro e w11 ⟨rfl, hb11⟩
        all_goals have S11 := Lib.hid (S10.out.below hb11)
        all_goals have H11 := Lib.hid (H10.out.then hb11)
        all_goals clear hb11 S10 H10
        all_goals go_wp2_with fail
        all_goals refine (KAD.out _).mono ?_
        all_goals rintro e w12 ⟨rfl, hb12⟩
        all_goals have sc := (S11.out.below hb12).alloc (.cells #[.int .i64 s1h, .int .u64 s1l] 24)
        all_goals have tc := PAt.new w12 s1h s1l rfl
        all_goals have H12 := Lib.hid ((H11.out.then hb12).alloc (H11.out.then hb12).size (.cells #[.int .i64 s1h, .int .u64 s1l] 24))
        all_goals have s0 := sc.c0
        all_goals have s1 := sc.c1
        all_goals have t0 := tc.c0
        all_goals have t1 := tc.c1
        all_goals have e1 := E1.out
        all_goals clear hb12 S11 H11 sc tc
        all_goals go_wp2_with fail
        all_goals clear s0 s1 t0 t1 e1
        all_goals generalize w12.alloc (.cells #[.int .i64 s1h, .int .u64 s1l] 24) = w13 at *
        all_goals refine (KT2.out _).mono ?_
        all_goals rintro e w14 ⟨rfl, hb14⟩
        all_goals have H14 := Lib.hid (H12.out.then hb14)
        all_goals clear hb14 H12
        all_goals go_wp2_with fail
        all_goals refine (KT4.out _).mono ?_
        all_goals rintro e w15 ⟨rfl, hb15⟩
        all_goals have H15 := Lib.hid (H14.out.then hb15)
        all_goals have e2 := E2.out
        all_goals clear hb15 H14
        all_goals go_wp2
        all_goals go_ret
        all_goals exact ⟨rfl, H15.out⟩
      · rw [show (((t + 1 : Nat) : Int) - 1) = (t : Int) by omega]
        obtain ⟨x, hx⟩ : ∃ x, L[t]? = some x := ⟨L[t]'(by rw [HLn.out]; omega), by rw [List.getElem?_eq_getElem]⟩
        have hcx : wr.cell? ⟨g, t, none⟩ = some (.int .i64 x) := by
          obtain ⟨b', o', e', hc', hlt'⟩ := (R2.out.below HB.out).2 t (iv x) (by simp [hx])
          simp only [Option.some.injEq, Addr.mk.injEq, and_true] at e'
          obtain ⟨rfl, rfl⟩ := e'
          rw [Nat.zero_add] at hc'
          exact hc'
        have hrv : (L.drop t).reverse.map iv = (L.drop (t + 1)).reverse.map iv ++ [iv x] := by
          rw [List.drop_eq_getElem_cons (by rw [HLn.out]; omega)]
          have : L[t]'(by rw [HLn.out]; omega) = x := by
            rw [List.getElem?_eq_getElem (by rw [HLn.out]; omega)] at hx
            simpa using hx
          rw [this]
          simp
        have HRV := Lib.hid hrv
        have hnm : len - t = len - (t + 1) + 1 := by omega
        have HNM := Lib.hid hnm
        have i0' : (0 : Int) ≤ (t : Int) := by omega
        have i1' : (t : Int) < (len : Int) := by omega
        have hm3 : len - (t + 1) + 1 ≤ maxLen := by unfold maxLen; omega
        have hm4 : (len - (t + 1) + 1) * 8 ≤ 140737488355328 := by omega
        clear hx hrv hnm
        go_wp2_with (at_builtin; refine wpList_append_copy rfl (.tmp 48) (.tmp 53) 44 rfl w2.heap.size 2 i0 (.int .i64 0) 8 Try.underlying44 hi hz0 hz1 hz2 rfl _ (len - (t + 1)) ((L.drop (t + 1)).reverse.map iv) rfl (HO.out.alloc _) (some ⟨wr.heap.size, 0, none⟩) 1 1 [iv x] rfl (row_one wr x) (by simp) (one_int .i64 _) hm3 hm4 (HB.out.alloc HB.out.size _).size ?_; intro v3 w3 hown3 hb3 hnil3)
        rw [← HRV.out, ← HNM.out] at hown3
        have HO3 := Lib.hid hown3
        have HB3 := Lib.hid ((HB.out.alloc HB.out.size _).trans hb3)
        clear hown3 hb3 hnil3
        go_wp2
        go_roundw
        case rel => exact ⟨t, by omega, rfl, HO3.out, HB3.out⟩
        case measure => simp [intOf]
  · have hm : 500 * 8 ≤ 140737488355328 := by omega
    have hm2 : 500 ≤ maxLen := by unfold maxLen; omega
    obtain ⟨b, o, rfl, _⟩ := hl.some_of (by omega)
    have hgt : (500 : Int) < (len : Int) := by omega
    have hl2 : Row (w.alloc (.cells #[.int .i32 p, .int .i32 q, .int .i32 r] 51)) (some ⟨b, o, none⟩) 500 ((l.take 500).map iv) := by
      have := hl0.take 500 (by omega)
      rwa [← List.map_take] at this
    have hcc : 500 ≤ cap := by omega
    have hin : In64 (l.take 500) := fun x hx => hin x (List.mem_of_mem_take hx)
    generalize l.take 500 = L at hl2 hin
    have hmin : min (len : Int) 500 = 500 := by omega
    have hone := iv_one L
    have HLn := Lib.hid (show L.length = 500 from by simpa using hl2.1)
    have HIN := Lib.hid hin
    clear hl hin hl0
    obtain ⟨k, hkdef⟩ : ∃ k : Nat, (y % 65536).toNat % (500 + 1) = k := ⟨_, rfl⟩
    have hk : k ≤ 500 := by have := Nat.mod_lt (y % 65536).toNat (show 0 < 500 + 1 by omega); omega
    have hand := and_65535 y
    have hrem : (((y % 65536).toNat : Nat) : Int).tmod 501 = (k : Int) := by rw [Int.tmod_eq_emod_of_nonneg (by omega), ← hkdef, Int.natCast_emod]; rfl
    clear hkdef
    generalize (y % 65536).toNat = q0 at *
    have HAND := Lib.hid hand; have HREM := Lib.hid hrem; clear hand hrem
    have k1 := fun ad cc (ww : World) hr => sum_any L ad 500 cc ww hr HIN.out (by omega)
    have k2 := fun ad cc (ww : World) hr => sum_any L.reverse ad 500 cc ww hr (fun x hx => HIN.out x (by simpa using hx)) (by omega)
    have k3 := fun ad cc (ww : World) hr => sum_any (L.take k) ad k cc ww hr (fun x hx => HIN.out x (List.mem_of_mem_take hx)) (by omega)
    have k4 := fun ad cc (ww : World) hr => sum_any (L.drop k) ad (500 - k) cc ww hr (fun x hx => HIN.out x (List.mem_of_mem_drop hx)) (by omega)
    rw [sm_perm (List.reverse_perm L)] at k2
    have hsum : sm (L.take k) + sm (L.drop k) = sm L := by rw [← sm_append, List.take_append_drop]
    have hcs : (Small (sm (L.take k)) ∧ Small (sm (L.drop k))) ∨ (¬ Small (sm (L.take k))) ∨ (Small (sm (L.take k)) ∧ ¬ Small (sm (L.drop k))) := by
      by_cases h1 : Small (sm (L.take k))
      · by_cases h2 : Small (sm (L.drop k))
        · exact .inl ⟨h1, h2⟩
        · exact .inr (.inr ⟨h1, h2⟩)
      · exact .inr (.inl h1)
    have k5 : ∀ ww, Small (sm (L.take k)) → Small (sm (L.drop k)) → Calls Try.prog 29 #[.int .i64 (sm (L.take k)), .int .i64 (sm (L.drop k))] ww fun e w' => e = .returned (smallV (sm L)) ∧ Below ww.heap.size ww w' := fun ww h1 h2 => by
      have := plus_any _ _ ww h1.1 h1.2 h2.1 h2.2
      rwa [hsum] at this
    obtain ⟨rr, d, hs⟩ : ∃ r d, smallV (sm L) = .tuple #[.int .i64 r, .bool d] := ⟨_, _, rfl⟩
    rw [hs] at k1 k2 k5
    have K1 := Lib.hid k1; have K2 := Lib.hid k2; have K3 := Lib.hid k3; have K4 := Lib.hid k4; have K5 := Lib.hid k5
    have HCS := Lib.hid hcs
    clear k1 k2 k3 k4 k5 hs hsum hcs
    go_enter Try.func10, Try.ntmps10
    go_wp2_with fail
    generalize w.alloc (.cells #[.int .i32 p, .int .i32 q, .int .i32 r] 51) = w0 at *
    refine (K0.out _).mono ?_
    rintro e w1 ⟨rfl, hb1⟩
    have X1 := Lib.hid (held_plain X0.out hb1)
    have H1 := Lib.hid (H0.out.then hb1)
    go_wp2_with (at_builtin; refine wpList_append_fresh rfl (.tmp 27) (.tmp 32) 44 rfl w1.heap.size 2 i0 (.int .i64 0) 8 Try.underlying44 hi hz0 hz1 hz2 rfl _ _ rfl (owns_empty w1 2) (some ⟨b, o, none⟩) 500 cap (L.map iv) rfl (hl2.below (hb1.alloc hb1.size _)) (by simp) hone hm2 hm (by simp) ?_)
    intro g c1 w2 hgB hnc hcm1 hrow hown hb2
    have b12 : Below w1.heap.size w1 w2 := ((Below.refl _ _).alloc (Nat.le_refl _) _).trans hb2
    have X2 := Lib.hid (held_plain X1.out b12)
    have H2 := Lib.hid (H1.out.then b12)
    have R2 := Lib.hid hrow
    clear hrow hown hb2 b12 hb1 X1 H1 X0 H0 hl2
    go_wp2_with fail
    rw [HAND.out, HREM.out]
    have R3 := Lib.hid (R2.out.below ((Below.refl w2.heap.size w2).alloc (Nat.le_refl _) (.cells #[] 2)))
    have X3 := Lib.hid ((heap_alloc_old w2 (.cells #[] 2) (lt_of_block X2.out)).trans X2.out)
    have H3 := Lib.hid (H2.out.alloc H2.out.size (.cells #[] 2))
    have O3 := Lib.hid (owns_empty w2 2)
    have T3 := Lib.hid ((Below.refl w2.heap.size w2).alloc (Nat.le_refl _) (.cells #[] 2))
    go_loopw [8, 9] (fun v i wr => ∃ m : Nat, m ≤ 500 ∧ i = .int .i64 ((m : Int) - 1) ∧ wr.ownsRow w2.heap.size 2 1 v (500 - m) ((L.drop m).reverse.map iv) ∧ Below w2.heap.size w2 wr) (fun _ i _ => (intOf i + 1).toNat)
    case atStart => exact ⟨500, Nat.le_refl _, rfl, by rw [Nat.sub_self, List.drop_of_length_le (by rw [HLn.out]; exact Nat.le_refl _)]; exact O3.out, T3.out⟩
    case round =>
      clear R3 X3 H3 O3 T3
      obtain ⟨m, hmn, rfl, hown, hbr⟩ := hrel
      have HO := Lib.hid hown; have HB := Lib.hid hbr
      obtain ⟨va, vc, rfl, hrow⟩ := Row.own hown
      have HR := Lib.hid hrow
      clear hown hbr hrow
      rcases m with _ | t
      · rw [show (((0 : Nat) : Int) - 1) = -1 from rfl]
        have hkc : k ≤ c1 := by omega
        have hki : (k : Int) ≤ 500 := by omega
        have RL := Lib.hid (R2.out.below HB.out)
        have X4 := Lib.hid (held_plain X2.out HB.out)
        have H4 := Lib.hid (H2.out.trans (HB.out.mono H2.out.size))
        have RB := Lib.hid (show Row wr va 500 (L.reverse.map iv) from HR.out)
        rw [show 500 - 0 = 500 from rfl]
        clear HO HB HR R2 X2 H2
        go_wp2_with fail
        refine (K1.out _ _ _ RL.out).mono ?_
        rintro e w4 ⟨rfl, hb4⟩
        have RL := Lib.hid (RL.out.below hb4)
        have RB := Lib.hid (RB.out.below hb4)
        have X4 := Lib.hid (held_plain X4.out hb4)
        have H4 := Lib.hid (H4.out.then hb4)
        clear hb4
        go_wp2_with fail
        refine (K2.out _ _ _ RB.out).mono ?_
        rintro e w5 ⟨rfl, hb5⟩
        have RL := Lib.hid (RL.out.below hb5)
        have X4 := Lib.hid (held_plain X4.out hb5)
        have H4 := Lib.hid (H4.out.then hb5)
        clear hb5 RB
        have RT := Lib.hid (show Row w5 (some ⟨g, 0, none⟩) k ((L.take k).map iv) from by have := RL.out.take k hk; rwa [← List.map_take] at this)
        rcases (show (c1 = k) ∨ (¬ c1 = k) from by omega) with hck | hck <;> rcases HCS.out with ⟨h1, h2⟩ | h1 | ⟨h1, h2⟩ <;> cases d
        all_goals (first | rw [smallV_is h1] at K3 | rw [smallV_not h1] at K3)
        all_goals (first | rw [smallV_is h2] at K4 | rw [smallV_not h2] at K4 | skip)
        all_goals (obtain ⟨r4, d4, hs4⟩ : ∃ r d, smallV (sm (L.drop k)) = .tuple #[.int .i64 r, .bool d] := ⟨_, _, rfl⟩)
        all_goals (try rw [hs4] at K4)
        all_goals clear hs4
        all_goals (try (have K5 := Lib.hid (fun ww => K5.out ww h1 h2)))
        all_goals (try clear h1)
        all_goals (try clear h2)
        all_goals (try subst hck)
        all_goals go_wp2_with fail
        all_goals refine (K3.out _ _ _ RT.out).mono ?_
        all_goals rintro e w6 ⟨rfl, hb6⟩
        all_goals have RL := Lib.hid (RL.out.below hb6)
        all_goals have X4 := Lib.hid (held_plain X4.out hb6)
        all_goals have H4 := Lib.hid (H4.out.then hb6)
        all_goals clear hb6 RT
        all_goals go_wp2_with fail
        all_goals (try rw [show 500 - c1 = 0 from by omega] at K4)
        all_goals first
          | ((with_reducible refine (K4.out (some ⟨g, 0, none⟩) 0 _ ?_).mono ?_); (focus (rw [List.drop_of_length_le (by rw [HLn.out]; omega)]; exact Row.nil _ _)))
          | ((with_reducible refine (K4.out (some ⟨g, k, none⟩) (c1 - k) _ ?_).mono ?_); (focus (have hrd := RL.out.drop k hk; rw [Nat.zero_add, ← List.map_drop] at hrd; exact hrd)))
        all_goals rintro e w7 ⟨rfl, hb7⟩
        all_goals have X4 := Lib.hid (held_plain X4.out hb7)
        all_goals have H4 := Lib.hid (H4.out.then hb7)
        all_goals clear hb7 RL
        all_goals (have xc0 : w7.cell? ⟨w.heap.size, 0, none⟩ = some (.int .i32 p) := (cell_of_row _ _ _ _ _ _ X4.out).trans rfl; have xc1 : w7.cell? ⟨w.heap.size, 1, none⟩ = some (.int .i32 q) := (cell_of_row _ _ _ _ _ _ X4.out).trans rfl; have xc2 : w7.cell? ⟨w.heap.size, 2, none⟩ = some (.int .i32 r) := (cell_of_row _ _ _ _ _ _ X4.out).trans rfl)
        all_goals have hp := HP.out
        all_goals have hq := HQ.out
        all_goals have hr := HR0.out
        all_goals go_wp2_with fail
        all_goals (try (go_at_call 29; ((with_reducible refine (K5.out _).mono ?_)); rintro e w7 ⟨rfl, hb7⟩; clear xc0 xc1 xc2; (have X4 := Lib.hid (held_plain X4.out hb7)); (have H4 := Lib.hid (H4.out.then hb7)); clear hb7; have xc0 : w7.cell? ⟨w.heap.size, 0, none⟩ = some (.int .i32 p) := (cell_of_row _ _ _ _ _ _ X4.out).trans rfl; have xc1 : w7.cell? ⟨w.heap.size, 1, none⟩ = some (.int .i32 q) := (cell_of_row _ _ _ _ _ _ X4.out).trans rfl; have xc2 : w7.cell? ⟨w.heap.size, 2, none⟩ = some (.int .i32 r) := (cell_of_row _ _ _ _ _ _ X4.out).trans rfl; go_wp2_with fail))
        all_goals clear xc0 xc1 xc2
        all_goals refine (KT1.out _).mono ?_
        all_goals rintro e w8 ⟨rfl, hb8⟩
        all_goals have H8 := Lib.hid (H4.out.then hb8)
        all_goals have S8 := Lib.hid (PAt.new w8 s1h s1l rfl)
        all_goals have H9 := Lib.hid (H8.out.alloc H8.out.size (.cells #[.int .i64 s1h, .int .u64 s1l] 24))
        all_goals clear hb8 H4 X4 H8
        all_goals go_wp2_with fail
        all_goals generalize w8.heap.size = gs at *
        all_goals generalize w8.alloc (.cells #[.int .i64 s1h, .int .u64 s1l] 24) = w9 at *
        all_goals refine (KT2.out _).mono ?_
        all_goals rintro e w10 ⟨rfl, hb10⟩
        all_goals have S10 := Lib.hid (S8.out.below hb10)
        all_goals have H10 := Lib.hid (H9.out.then hb10)
        all_goals clear hb10 S8 H9
        all_goals go_wp2_with fail
        all_goals refine (KT3.out _).mono ?_
        all_goals rintro e w11 ⟨rfl, hb11⟩
        all_goals have S11 := Lib.hid (S10.out.below hb11)
        all_goals have H11 := Lib.hid (H10.out.then hb11)
        all_goals clear hb11 S10 H10
        all_goals go_wp2_with fail
        all_goals refine (KAD.out _).mono ?_
        all_goals rintro e w12 ⟨rfl, hb12⟩
        all_goals have sc := (S11.out.below hb12).alloc (.cells #[.int .i64 s1h, .int .u64 s1l] 24)
        all_goals have tc := PAt.new w12 s1h s1l rfl
        all_goals have H12 := Lib.hid ((H11.out.then hb12).alloc (H11.out.then hb12).size (.cells #[.int .i64 s1h, .int .u64 s1l] 24))
        all_goals have s0 := sc.c0
        all_goals have s1 := sc.c1
        all_goals have t0 := tc.c0
        all_goals have t1 := tc.c1
        all_goals have e1 := E1.out
        all_goals clear hb12 S11 H11 sc tc
        all_goals go_wp2_with fail
        all_goals clear s0 s1 t0 t1 e1
        all_goals generalize w12.alloc (.cells #[.int .i64 s1h, .int .u64 s1l] 24) = w13 at *
        all_goals refine (KT2.out _).mono ?_
        all_goals rintro e w14 ⟨rfl, hb14⟩
        all_goals have H14 := Lib.hid (H12.out.then hb14)
        all_goals clear hb14 H12
        all_goals go_wp2_with fail
        all_goals refine (KT4.out _).mono ?_
        all_goals rintro e w15 ⟨rfl, hb15⟩
        all_goals have H15 := Lib.hid (H14.out.then hb15)
        all_goals have e2 := E2.out
        all_goals clear hb15 H14
        all_goals go_wp2
        all_goals go_ret
        all_goals exact ⟨rfl, H15.out⟩
      · rw [show (((t + 1 : Nat) : Int) - 1) = (t : Int) by omega]
        obtain ⟨x, hx⟩ : ∃ x, L[t]? = some x := ⟨L[t]'(by rw [HLn.out]; omega), by rw [List.getElem?_eq_getElem]⟩
        have hcx : wr.cell? ⟨g, t, none⟩ = some (.int .i64 x) := by
          obtain ⟨b', o', e', hc', hlt'⟩ := (R2.out.below HB.out).2 t (iv x) (by simp [hx])
          simp only [Option.some.injEq, Addr.mk.injEq, and_true] at e'
          obtain ⟨rfl, rfl⟩ := e'
          rw [Nat.zero_add] at hc'
          exact hc'
        have hrv : (L.drop t).reverse.map iv = (L.drop (t + 1)).reverse.map iv ++ [iv x] := by
          rw [List.drop_eq_getElem_cons (by rw [HLn.out]; omega)]
          have : L[t]'(by rw [HLn.out]; omega) = x := by
            rw [List.getElem?_eq_getElem (by rw [HLn.out]; omega)] at hx
            simpa using hx
          rw [this]
          simp
        have HRV := Lib.hid hrv
        have hnm : 500 - t = 500 - (t + 1) + 1 := by omega
        have HNM := Lib.hid hnm
        have i0' : (0 : Int) ≤ (t : Int) := by omega
        have i1' : (t : Int) < 500 := by omega
        have hm3 : 500 - (t + 1) + 1 ≤ maxLen := by unfold maxLen; omega
        have hm4 : (500 - (t + 1) + 1) * 8 ≤ 140737488355328 := by omega
        clear hx hrv hnm
        go_wp2_with (at_builtin; refine wpList_append_copy rfl (.tmp 48) (.tmp 53) 44 rfl w2.heap.size 2 i0 (.int .i64 0) 8 Try.underlying44 hi hz0 hz1 hz2 rfl _ (500 - (t + 1)) ((L.drop (t + 1)).reverse.map iv) rfl (HO.out.alloc _) (some ⟨wr.heap.size, 0, none⟩) 1 1 [iv x] rfl (row_one wr x) (by simp) (one_int .i64 _) hm3 hm4 (HB.out.alloc HB.out.size _).size ?_; intro v3 w3 hown3 hb3 hnil3)
        rw [← HRV.out, ← HNM.out] at hown3
        have HO3 := Lib.hid hown3
        have HB3 := Lib.hid ((HB.out.alloc HB.out.size _).trans hb3)
        clear hown3 hb3 hnil3
        go_wp2
        go_roundw
        case rel => exact ⟨t, by omega, rfl, HO3.out, HB3.out⟩
        case measure => simp [intOf]
end Go.Proofs.Ytdamilkofdclbaa
