/- WideOrder walked: its core. -/
import Derived.Test.YtdamilkofdclbaaOrder0
namespace Go.Proofs.Ytdamilkofdclbaa
open Go.RowKit
set_option linter.unusedVariables false

set_option maxRecDepth 100000 in
set_option maxHeartbeats 4000000 in
theorem order_core (ah al bh bl ch cl xh xl yh yl : Int) (l m lbc lac o1 o2 : Bool) (w : World)
    (k1 : ∀ w, Calls Try.prog 26 #[P2 ah al, P2 bh bl] w fun e w' => e = .returned (.bool l) ∧ Below w.heap.size w w')
    (k2 : ∀ w, Calls Try.prog 26 #[P2 bh bl, P2 ah al] w fun e w' => e = .returned (.bool m) ∧ Below w.heap.size w w')
    (k3 : ∀ w, Calls Try.prog 12 #[P2 ah al, P2 ch cl] w fun e w' => e = .returned (.tuple #[P2 xh xl, .bool o1]) ∧ Below w.heap.size w w')
    (k4 : ∀ w, Calls Try.prog 12 #[P2 bh bl, P2 ch cl] w fun e w' => e = .returned (.tuple #[P2 yh yl, .bool o2]) ∧ Below w.heap.size w w')
    (k5 : o1 = true → o2 = true → ∀ w, Calls Try.prog 26 #[P2 xh xl, P2 yh yl] w fun e w' => e = .returned (.bool l) ∧ Below w.heap.size w w')
    (k6 : ∀ w, Calls Try.prog 26 #[P2 bh bl, P2 ch cl] w fun e w' => e = .returned (.bool lbc) ∧ Below w.heap.size w w')
    (k7 : ∀ w, Calls Try.prog 26 #[P2 ah al, P2 ch cl] w fun e w' => e = .returned (.bool lac) ∧ Below w.heap.size w w')
    (hl : l = true → lbc = true → lac = true)
    (hE : (l = true ∧ m = false ∧ ¬ (ah = bh ∧ al = bl)) ∨ (l = false ∧ m = true ∧ ¬ (ah = bh ∧ al = bl)) ∨ (l = false ∧ m = false ∧ ah = bh ∧ al = bl)) :
    Calls Try.prog 9 #[P2 ah al, P2 bh bl, P2 ch cl] w fun e w' => e = .returned (.bool true) ∧ Below w.heap.size w w' := by
  have hq : ∃ b, ((l = true ∧ m = false ∧ b = false) ∨ (l = false ∧ m = true ∧ b = false) ∨ (l = false ∧ m = false ∧ b = true)) ∧ ∀ w, (Op.equalIn 10000 24 (P2 ah al) (P2 bh bl)).run Try.prog w = .ok b w := by
    rcases hE with ⟨h1, h2, h3⟩ | ⟨h1, h2, h3⟩ | ⟨h1, h2, h3, h4⟩
    · exact ⟨false, .inl ⟨h1, h2, rfl⟩, pair_ne h3⟩
    · exact ⟨false, .inr (.inl ⟨h1, h2, rfl⟩), pair_ne h3⟩
    · subst h3 h4; exact ⟨true, .inr (.inr ⟨h1, h2, rfl⟩), pair_eq _ _⟩
  clear hE
  obtain ⟨b, hE, hq⟩ := hq
  have K1 := Lib.hid k1; have K2 := Lib.hid k2; have K3 := Lib.hid k3; have K4 := Lib.hid k4; have K5 := Lib.hid k5; have K6 := Lib.hid k6; have K7 := Lib.hid k7; have HQ := Lib.hid hq; have HL := Lib.hid hl
  clear k1 k2 k3 k4 k5 k6 k7 hq hl
  have A0 := Lib.hid (((PAt.new w ah al rfl).alloc (.cells #[.int .i64 bh, .int .u64 bl] 24)).alloc (.cells #[.int .i64 ch, .int .u64 cl] 24))
  have B0 := Lib.hid ((PAt.new (w.alloc (.cells #[.int .i64 ah, .int .u64 al] 24)) bh bl (b := w.heap.size + 1) (by simp)).alloc (.cells #[.int .i64 ch, .int .u64 cl] 24))
  have C0 := Lib.hid (PAt.new ((w.alloc (.cells #[.int .i64 ah, .int .u64 al] 24)).alloc (.cells #[.int .i64 bh, .int .u64 bl] 24)) ch cl (b := w.heap.size + 1 + 1) (by simp))
  have H0 := Lib.hid (show Below w.heap.size w (((w.alloc (.cells #[.int .i64 ah, .int .u64 al] 24)).alloc (.cells #[.int .i64 bh, .int .u64 bl] 24)).alloc (.cells #[.int .i64 ch, .int .u64 cl] 24)) from (((Below.refl _ _).alloc (Nat.le_refl _) _).alloc (by simp) _).alloc (by simp; omega) _)
  obtain ⟨g0, hg0⟩ : ∃ g, w.heap.size = g := ⟨_, rfl⟩
  obtain ⟨g1, hg1⟩ : ∃ g, w.heap.size + 1 = g := ⟨_, rfl⟩
  obtain ⟨g2, hg2⟩ : ∃ g, w.heap.size + 1 + 1 = g := ⟨_, rfl⟩
  rw [hg2] at C0
  rw [hg1] at B0
  rw [hg0] at A0
  have G0 := Lib.hid hg0; have G1 := Lib.hid hg1; have G2 := Lib.hid hg2
  clear hg0 hg1 hg2
  have hcs : (l = true ∧ m = false ∧ b = false ∧ lbc = true ∧ lac = true) ∨ (l = true ∧ m = false ∧ b = false ∧ lbc = false) ∨ (l = false ∧ m = true ∧ b = false) ∨ (l = false ∧ m = false ∧ b = true) := by
    rcases hE with ⟨h1, h2, h3⟩ | ⟨h1, h2, h3⟩ | ⟨h1, h2, h3⟩
    · cases hb : lbc
      · exact .inr (.inl ⟨h1, h2, h3, rfl⟩)
      · exact .inl ⟨h1, h2, h3, rfl, HL.out h1 hb⟩
    · exact .inr (.inr (.inl ⟨h1, h2, h3⟩))
    · exact .inr (.inr (.inr ⟨h1, h2, h3⟩))
  clear hE HL
  rcases hcs with ⟨rfl, rfl, rfl, rfl, rfl⟩ | ⟨rfl, rfl, rfl, rfl⟩ | ⟨rfl, rfl, rfl⟩ | ⟨rfl, rfl, rfl⟩ <;> cases o1 <;> cases o2
  all_goals
    go_enter Try.func9, Try.ntmps9
    go_wp2_with fail
    rw [G2.out, G1.out, G0.out]
    generalize (((w.alloc (.cells #[.int .i64 ah, .int .u64 al] 24)).alloc (.cells #[.int .i64 bh, .int .u64 bl] 24)).alloc (.cells #[.int .i64 ch, .int .u64 cl] 24)) = w0 at *
    refine (shown_any _).mono ?_
    rintro e w1 ⟨rfl, hb1⟩
    have A1 := Lib.hid (A0.out.below hb1)
    have B1 := Lib.hid (B0.out.below hb1)
    have C1 := Lib.hid (C0.out.below hb1)
    have H1 := Lib.hid (H0.out.then hb1)
    clear hb1 A0 B0 C0 H0
    have ac0 := A1.out.c0
    have ac1 := A1.out.c1
    have bc0 := B1.out.c0
    have bc1 := B1.out.c1
    have cc0 := C1.out.c0
    have cc1 := C1.out.c1
    go_wp2_with fail
    refine (K1.out _).mono ?_
    rintro e w2 ⟨rfl, hb2⟩
    clear ac0 ac1 bc0 bc1 cc0 cc1
    have A2 := Lib.hid (A1.out.below hb2)
    have B2 := Lib.hid (B1.out.below hb2)
    have C2 := Lib.hid (C1.out.below hb2)
    have H2 := Lib.hid (H1.out.then hb2)
    clear hb2 A1 B1 C1 H1
    have ac0 := A2.out.c0
    have ac1 := A2.out.c1
    have bc0 := B2.out.c0
    have bc1 := B2.out.c1
    have cc0 := C2.out.c0
    have cc1 := C2.out.c1
    go_wp2_with fail
    refine (K2.out _).mono ?_
    rintro e w3 ⟨rfl, hb3⟩
    clear ac0 ac1 bc0 bc1 cc0 cc1
    have A3 := Lib.hid (A2.out.below hb3)
    have B3 := Lib.hid (B2.out.below hb3)
    have C3 := Lib.hid (C2.out.below hb3)
    have H3 := Lib.hid (H2.out.then hb3)
    clear hb3 A2 B2 C2 H2
    have ac0 := A3.out.c0
    have ac1 := A3.out.c1
    have bc0 := B3.out.c0
    have bc1 := B3.out.c1
    have cc0 := C3.out.c0
    have cc1 := C3.out.c1
    have hq := HQ.out
    go_wp2_with fail
    refine (K3.out _).mono ?_
    rintro e w4 ⟨rfl, hb4⟩
    clear hq
    clear ac0 ac1 bc0 bc1 cc0 cc1
    have A4 := Lib.hid (A3.out.below hb4)
    have B4 := Lib.hid (B3.out.below hb4)
    have C4 := Lib.hid (C3.out.below hb4)
    have H4 := Lib.hid (H3.out.then hb4)
    clear hb4 A3 B3 C3 H3
    have X5 := Lib.hid (PAt.new w4 xh xl rfl)
    have A5 := Lib.hid (A4.out.alloc (.cells #[.int .i64 xh, .int .u64 xl] 24))
    have B5 := Lib.hid (B4.out.alloc (.cells #[.int .i64 xh, .int .u64 xl] 24))
    have C5 := Lib.hid (C4.out.alloc (.cells #[.int .i64 xh, .int .u64 xl] 24))
    have H5 := Lib.hid (H4.out.alloc H4.out.size (.cells #[.int .i64 xh, .int .u64 xl] 24))
    clear A4 B4 C4 H4
    have ac0 := A5.out.c0
    have ac1 := A5.out.c1
    have bc0 := B5.out.c0
    have bc1 := B5.out.c1
    have cc0 := C5.out.c0
    have cc1 := C5.out.c1
    go_wp2_with fail
    generalize w4.heap.size = gx at *
    generalize w4.alloc (.cells #[.int .i64 xh, .int .u64 xl] 24) = w5 at *
    refine (K4.out _).mono ?_
    rintro e w6 ⟨rfl, hb6⟩
    clear ac0 ac1 bc0 bc1 cc0 cc1
    have A6 := Lib.hid (A5.out.below hb6)
    have B6 := Lib.hid (B5.out.below hb6)
    have C6 := Lib.hid (C5.out.below hb6)
    have X6 := Lib.hid (X5.out.below hb6)
    have H6 := Lib.hid (H5.out.then hb6)
    clear hb6 A5 B5 C5 X5 H5
    have Y7 := Lib.hid (PAt.new w6 yh yl rfl)
    have A7 := Lib.hid (A6.out.alloc (.cells #[.int .i64 yh, .int .u64 yl] 24))
    have B7 := Lib.hid (B6.out.alloc (.cells #[.int .i64 yh, .int .u64 yl] 24))
    have C7 := Lib.hid (C6.out.alloc (.cells #[.int .i64 yh, .int .u64 yl] 24))
    have X7 := Lib.hid (X6.out.alloc (.cells #[.int .i64 yh, .int .u64 yl] 24))
    have H7 := Lib.hid (H6.out.alloc H6.out.size (.cells #[.int .i64 yh, .int .u64 yl] 24))
    clear A6 B6 C6 X6 H6
    have ac0 := A7.out.c0
    have ac1 := A7.out.c1
    have bc0 := B7.out.c0
    have bc1 := B7.out.c1
    have cc0 := C7.out.c0
    have cc1 := C7.out.c1
    have xc0 := X7.out.c0
    have xc1 := X7.out.c1
    have yc0 := Y7.out.c0
    have yc1 := Y7.out.c1
    go_wp2_with fail
    generalize w6.heap.size = gy at *
    generalize w6.alloc (.cells #[.int .i64 yh, .int .u64 yl] 24) = w7 at *
    (try (go_at_call 26; ((with_reducible refine (K5.out (by trivial) (by trivial) _).mono ?_)); rintro e w8 ⟨rfl, hb8⟩; clear ac0 ac1 bc0 bc1 cc0 cc1 xc0 xc1 yc0 yc1; (have A7 := Lib.hid (A7.out.below hb8)); (have B7 := Lib.hid (B7.out.below hb8)); (have C7 := Lib.hid (C7.out.below hb8)); (have H7 := Lib.hid (H7.out.then hb8)); clear hb8; (have ac0 := A7.out.c0); (have ac1 := A7.out.c1); (have bc0 := B7.out.c0); (have bc1 := B7.out.c1); (have cc0 := C7.out.c0); (have cc1 := C7.out.c1); go_wp2_with fail))
    (try (go_at_call 26; ((with_reducible refine (K6.out _).mono ?_)); rintro e w9 ⟨rfl, hb9⟩; clear ac0 ac1 bc0 bc1 cc0 cc1; (have A7 := Lib.hid (A7.out.below hb9)); (have B7 := Lib.hid (B7.out.below hb9)); (have C7 := Lib.hid (C7.out.below hb9)); (have H7 := Lib.hid (H7.out.then hb9)); clear hb9; (have ac0 := A7.out.c0); (have ac1 := A7.out.c1); (have cc0 := C7.out.c0); (have cc1 := C7.out.c1); go_wp2_with fail))
    (try (go_at_call 26; ((with_reducible refine (K7.out _).mono ?_)); rintro e w10 ⟨rfl, hb10⟩; (have H7 := Lib.hid (H7.out.then hb10)); clear hb10; go_wp2_with fail))
    go_wp2
    go_ret
    exact ⟨rfl, H7.out⟩

theorem add_pair (a b : Int) (w : World) (ha : Fits a) (hb : Fits b) : Calls Try.prog 12 #[P2 (hiOf a) (loOf a), P2 (hiOf b) (loOf b)] w fun e w' => e = .returned (.tuple #[P2 (hiOf (if Fits (a + b) then a + b else 0)) (loOf (if Fits (a + b) then a + b else 0)), .bool (decide (Fits (a + b)))]) ∧ Below w.heap.size w w' := add_any a b w ha hb
theorem order_walk (a b c : Int) (w : World) (ha : Fits a) (hb : Fits b) (hc : Fits c) :
    Calls Try.prog 9 #[.agg #[.int .i64 (hiOf a), .int .u64 (loOf a)], .agg #[.int .i64 (hiOf b), .int .u64 (loOf b)], .agg #[.int .i64 (hiOf c), .int .u64 (loOf c)]] w fun e w' => e = .returned (.bool true) ∧ Below w.heap.size w w' := by
  refine order_core _ _ _ _ _ _ _ _ _ _ (decide (a < b)) (decide (b < a)) (decide (b < c)) (decide (a < c)) _ _ w (less_agg a b) (less_agg b a) (fun w => add_pair a c w ha hc) (fun w => add_pair b c w hb hc) ?_ (less_agg b c) (less_agg a c) ?_ ?_
  · intro h1 h2 w
    rw [decide_eq_true_iff] at h1 h2
    rw [if_pos h1, if_pos h2]
    have := less_agg (a + c) (b + c) w
    rwa [show decide (a + c < b + c) = decide (a < b) from by congr 1; apply propext; omega] at this
  · intro h1 h2
    rw [decide_eq_true_iff] at *
    omega
  · rcases Int.lt_trichotomy a b with h | h | h
    · refine .inl ⟨by simpa using h, by simp; omega, fun ⟨h1, h2⟩ => ?_⟩
      have : a = b := by unfold hiOf at h1; unfold loOf at h2; omega
      omega
    · subst h
      exact .inr (.inr ⟨by simp, by simp, rfl, rfl⟩)
    · refine .inr (.inl ⟨by simp; omega, by simpa using h, fun ⟨h1, h2⟩ => ?_⟩)
      have : a = b := by unfold hiOf at h1; unfold loOf at h2; omega
      omega
end Go.Proofs.Ytdamilkofdclbaa
