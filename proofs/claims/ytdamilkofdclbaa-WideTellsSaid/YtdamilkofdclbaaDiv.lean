/- Div64 by ten. -/
import Derived.Test.YtdamilkofdclbaaRows
import Derived.Test.YtdamilkofdclbaaKit
import Derived.Test.YtdamilkofdclbaaShelf
import Derived.Deep.QuietTactic
import Derived.BigQuiet
import Derived.Laws.BitsLemmas
namespace Go.Proofs.Ytdamilkofdclbaa
open Go.RowKit
set_option linter.unusedVariables false

theorem lead10 (w : World) : Calls Try.prog 39 #[.int .u64 10] w fun e w' => e = .returned (.int .i64 60) ∧ w' = w := by
  have := Try.bits_LeadingZeros64 10 w (by omega) (by omega)
  rwa [show (64 - (Lib.bitLen (10 : Int).toNat : Int)) = 60 from by decide] at this
theorem wraps_u64 (n : Int) (h₀ : 0 ≤ n) (h₁ : n < 2 ^ 64) : IntKind.u64.wrap n = n := by rw [IntKind.wrap_u64]; omega
theorem and0 : bits .and .u64 11529215046068469760 4294967295 = 0 := by decide
theorem or_join {hi lo : Int} (h1 : 0 ≤ hi) (h2 : hi < 10) (h3 : 0 ≤ lo) (h4 : lo ≤ 18446744073709551615) : bits .or .u64 (hi * 1152921504606846976) (lo / 16) = hi * 1152921504606846976 + lo / 16 :=
  bits_join .u64 64 (by decide) wraps_u64 60 _ _ (by omega) (by omega) (by omega) (by omega) (by omega) (by omega)
theorem and_low {x : Int} (h1 : 0 ≤ x) (h2 : x ≤ 18446744073709551615) : bits .and .u64 x 4294967295 = x % 4294967296 :=
  bits_mask .u64 64 (by decide) wraps_u64 32 (by decide) x h1 (by omega)
/-- What Div64 reckons on its way, by ten. -/
structure Way (hi lo U D u1 q1 m1 r1 e1 n21 v1 v2 v3 q0 m2 r2 t1 Q v4 v5 R : Int) : Prop where
  hU : hi * 1152921504606846976 + lo / 16 = U
  hD : (lo * 1152921504606846976) % 18446744073709551616 = D
  hu1 : D / 4294967296 = u1
  hq1 : U / 2684354560 = q1
  hm1 : q1 * 2684354560 = m1
  hr1 : U - m1 = r1
  he1 : 4294967296 * r1 = e1
  hn21 : e1 + u1 = n21
  hv1 : (U * 4294967296) % 18446744073709551616 = v1
  hv2 : (v1 + u1) % 18446744073709551616 = v2
  hv3 : (q1 * 11529215046068469760) % 18446744073709551616 = v3
  hq0 : n21 / 2684354560 = q0
  hm2 : q0 * 2684354560 = m2
  hr2 : n21 - m2 = r2
  ht1 : q1 * 4294967296 = t1
  hQ : t1 + q0 = Q
  hv4 : (n21 * 4294967296) % 18446744073709551616 = v4
  hv5 : (q0 * 11529215046068469760) % 18446744073709551616 = v5
  hR : ((v4 - v5) % 18446744073709551616) / 1152921504606846976 = R
theorem Way.ranges {hi lo U D u1 q1 m1 r1 e1 n21 v1 v2 v3 q0 m2 r2 t1 Q v4 v5 R : Int} (h1 : 0 ≤ hi) (h2 : hi < 10) (h3 : 0 ≤ lo) (h4 : lo ≤ 18446744073709551615)
    (h : Way hi lo U D u1 q1 m1 r1 e1 n21 v1 v2 v3 q0 m2 r2 t1 Q v4 v5 R) :
    (0 ≤ U ∧ U ≤ 18446744073709551615) ∧ (0 ≤ D ∧ D ≤ 18446744073709551615) ∧ D % 4294967296 = 0 ∧ (0 ≤ u1 ∧ u1 ≤ 4294967295) ∧ (0 ≤ q1 ∧ q1 ≤ 4294967295) ∧ (0 ≤ m1 ∧ m1 ≤ 18446744073709551615) ∧ (0 ≤ r1 ∧ r1 < 2684354560) ∧
      (0 ≤ e1 ∧ e1 ≤ 18446744073709551615) ∧ (0 ≤ n21 ∧ n21 ≤ 18446744073709551615) ∧ (v2 - v3) % 18446744073709551616 = n21 := by
  obtain ⟨a1, a2, a3, a4, a5, a6, a7, a8, a9, a10, a11, a12, a13, a14, a15, a16, a17, a18, a19⟩ := h
  have b1 : U * 4294967296 + u1 - q1 * 11529215046068469760 = n21 := by omega
  refine ⟨by omega, by omega, by omega, by omega, by omega, by omega, by omega, by omega, by omega, ?_⟩
  omega
theorem Way.ranges2 {hi lo U D u1 q1 m1 r1 e1 n21 v1 v2 v3 q0 m2 r2 t1 Q v4 v5 R : Int} (h1 : 0 ≤ hi) (h2 : hi < 10) (h3 : 0 ≤ lo) (h4 : lo ≤ 18446744073709551615)
    (h : Way hi lo U D u1 q1 m1 r1 e1 n21 v1 v2 v3 q0 m2 r2 t1 Q v4 v5 R) :
    (0 ≤ q0 ∧ q0 ≤ 4294967295) ∧ (0 ≤ m2 ∧ m2 ≤ 18446744073709551615) ∧ (0 ≤ r2 ∧ r2 < 2684354560) ∧ (0 ≤ t1 ∧ t1 ≤ 18446744073709551615) ∧
      Q = (hi * 18446744073709551616 + lo) / 10 ∧ (0 ≤ Q ∧ Q ≤ 18446744073709551615) ∧ R = (hi * 18446744073709551616 + lo) % 10 := by
  have hr := h.ranges h1 h2 h3 h4
  obtain ⟨a1, a2, a3, a4, a5, a6, a7, a8, a9, a10, a11, a12, a13, a14, a15, a16, a17, a18, a19⟩ := h
  obtain ⟨c1, c2, c3, c4, c5, c6, c7, c8, c9, c10⟩ := hr
  have b1 : U * 4294967296 + u1 - q1 * 11529215046068469760 = n21 := by omega
  have b2 : n21 * 4294967296 - q0 * 11529215046068469760 = ((hi * 18446744073709551616 + lo) - Q * 10) * 1152921504606846976 := by omega
  have b3 : 0 ≤ r2 ∧ r2 < 2684354560 := by omega
  have b4 : r2 * 4294967296 = n21 * 4294967296 - q0 * 11529215046068469760 := by omega
  have b5 : Q = (hi * 18446744073709551616 + lo) / 10 := by omega
  refine ⟨by omega, by omega, b3, by omega, b5, by omega, ?_⟩
  omega

set_option maxRecDepth 100000 in
set_option maxHeartbeats 2000000 in
theorem div_any (hi lo : Int) (w : World) (h1 : 0 ≤ hi) (h2 : hi < 10) (h3 : 0 ≤ lo) (h4 : lo ≤ 18446744073709551615) :
    Calls Try.prog 37 #[.int .u64 hi, .int .u64 lo, .int .u64 10] w fun e w' => e = .returned (.tuple #[.int .u64 ((hi * 18446744073709551616 + lo) / 10), .int .u64 ((hi * 18446744073709551616 + lo) % 10)]) ∧ Below w.heap.size w w' := by
  by_cases h0 : hi = 0
  · subst h0
    rw [Int.zero_mul, Int.zero_add]
    have g1 : 0 ≤ lo / 10 := by omega
    go_enter Try.func37, Try.ntmps37
    go_wp2_with fail
    go_quiet (fail)
    go_wp2
    go_ret2
    exact ⟨rfl, rfl, rfl, rfl, Nat.le_refl _, fun _ _ => rfl⟩
  · have d1 : (hi == 0) = false := by simpa using h0
    have d2 : decide (10 ≤ hi) = false := by simp; omega
    have f2 := or_join h1 h2 h3 h4
    have f3 : IntKind.u64.wrap (lo * 1152921504606846976) = (lo * 1152921504606846976) % 18446744073709551616 := IntKind.wrap_u64 _
    obtain ⟨U, hU⟩ : ∃ x, hi * 1152921504606846976 + lo / 16 = x := ⟨_, rfl⟩
    obtain ⟨D, hD⟩ : ∃ x, (lo * 1152921504606846976) % 18446744073709551616 = x := ⟨_, rfl⟩
    obtain ⟨u1, hu1⟩ : ∃ x, D / 4294967296 = x := ⟨_, rfl⟩
    obtain ⟨q1, hq1⟩ : ∃ x, U / 2684354560 = x := ⟨_, rfl⟩
    obtain ⟨m1, hm1⟩ : ∃ x, q1 * 2684354560 = x := ⟨_, rfl⟩
    obtain ⟨r1, hr1⟩ : ∃ x, U - m1 = x := ⟨_, rfl⟩
    obtain ⟨e1, he1⟩ : ∃ x, 4294967296 * r1 = x := ⟨_, rfl⟩
    obtain ⟨n21, hn21⟩ : ∃ x, e1 + u1 = x := ⟨_, rfl⟩
    obtain ⟨v1, hv1⟩ : ∃ x, (U * 4294967296) % 18446744073709551616 = x := ⟨_, rfl⟩
    obtain ⟨v2, hv2⟩ : ∃ x, (v1 + u1) % 18446744073709551616 = x := ⟨_, rfl⟩
    obtain ⟨v3, hv3⟩ : ∃ x, (q1 * 11529215046068469760) % 18446744073709551616 = x := ⟨_, rfl⟩
    obtain ⟨q0, hq0⟩ : ∃ x, n21 / 2684354560 = x := ⟨_, rfl⟩
    obtain ⟨m2, hm2⟩ : ∃ x, q0 * 2684354560 = x := ⟨_, rfl⟩
    obtain ⟨r2, hr2⟩ : ∃ x, n21 - m2 = x := ⟨_, rfl⟩
    obtain ⟨t1, ht1⟩ : ∃ x, q1 * 4294967296 = x := ⟨_, rfl⟩
    obtain ⟨Q, hQ⟩ : ∃ x, t1 + q0 = x := ⟨_, rfl⟩
    obtain ⟨v4, hv4⟩ : ∃ x, (n21 * 4294967296) % 18446744073709551616 = x := ⟨_, rfl⟩
    obtain ⟨v5, hv5⟩ : ∃ x, (q0 * 11529215046068469760) % 18446744073709551616 = x := ⟨_, rfl⟩
    obtain ⟨R, hR⟩ : ∃ x, ((v4 - v5) % 18446744073709551616) / 1152921504606846976 = x := ⟨_, rfl⟩
    have way : Way hi lo U D u1 q1 m1 r1 e1 n21 v1 v2 v3 q0 m2 r2 t1 Q v4 v5 R := ⟨hU, hD, hu1, hq1, hm1, hr1, he1, hn21, hv1, hv2, hv3, hq0, hm2, hr2, ht1, hQ, hv4, hv5, hR⟩
    obtain ⟨⟨c1, c1'⟩, ⟨c2, c2'⟩, c3, ⟨c4, c4'⟩, ⟨c5, c5'⟩, ⟨c6, c6'⟩, ⟨c7, c7'⟩, ⟨c8, c8'⟩, ⟨c9, c9'⟩, c10⟩ := way.ranges h1 h2 h3 h4
    obtain ⟨⟨k1, k1'⟩, ⟨k2, k2'⟩, ⟨k3, k3'⟩, ⟨k4, k4'⟩, k5, ⟨k6, k6'⟩, k7⟩ := way.ranges2 h1 h2 h3 h4
    rw [hU] at f2
    rw [hD] at f3
    rw [← k5, ← k7]
    have f5 := and_low c2 c2'
    rw [c3] at f5
    have f0 := and0
    have a5 : IntKind.u64.wrap (U * 4294967296) = v1 := by rw [IntKind.wrap_u64]; exact hv1
    have a6 : IntKind.u64.wrap (v1 + u1) = v2 := by rw [IntKind.wrap_u64]; exact hv2
    have a7 : IntKind.u64.wrap (q1 * 11529215046068469760) = v3 := by rw [IntKind.wrap_u64]; exact hv3
    have a8 : IntKind.u64.wrap (v2 - v3) = n21 := by rw [IntKind.wrap_u64]; exact c10
    have a9 : IntKind.u64.wrap (n21 * 4294967296) = v4 := by rw [IntKind.wrap_u64]; exact hv4
    have a10 : IntKind.u64.wrap (q0 * 11529215046068469760) = v5 := by rw [IntKind.wrap_u64]; exact hv5
    obtain ⟨v6, hv6⟩ : ∃ x, (v4 - v5) % 18446744073709551616 = x := ⟨_, rfl⟩
    have hv6r : 0 ≤ v6 ∧ v6 ≤ 18446744073709551615 := by omega
    have a11 : IntKind.u64.wrap (v4 - v5) = v6 := by rw [IntKind.wrap_u64]; exact hv6
    rw [hv6] at hR
    obtain ⟨r4, r4'⟩ : 0 ≤ v4 ∧ v4 ≤ 18446744073709551615 := by omega
    obtain ⟨hv6a, hv6b⟩ := hv6r
    have g1 : decide (4294967296 ≤ q1) = false := by simp; omega
    have g2 : decide (4294967296 ≤ q0) = false := by simp; omega
    have g3 : decide (n21 < 0) = false := by simp; omega
    have hlo : 0 ≤ lo / 16 := by omega
    clear way k5 k7 hU hD hv1 hv2 hv3 hv4 hv5 hv6 c10 c3 h0
    go_enter Try.func37, Try.ntmps37
    go_wp2_with fail
    refine (lead10 _).mono ?_
    rintro e w1 ⟨rfl, rfl⟩
    go_wp2
    rw [hq1]
    go_loop [15, 16] (fun a b => a = .int .u64 q1 ∧ b = .int .u64 r1) (fun _ _ => 0)
    case atStart => exact ⟨rfl, rfl⟩
    case round =>
      obtain ⟨rfl, rfl⟩ := hrel
      go_wp2
      go_loop [16, 18] (fun a b => a = .int .u64 r2 ∧ b = .int .u64 q0) (fun _ _ => 0)
      case atStart => exact ⟨rfl, rfl⟩
      case round =>
        obtain ⟨rfl, rfl⟩ := hrel
        go_wp2
        go_ret2
        exact ⟨rfl, Below.refl _ _⟩
end Go.Proofs.Ytdamilkofdclbaa
