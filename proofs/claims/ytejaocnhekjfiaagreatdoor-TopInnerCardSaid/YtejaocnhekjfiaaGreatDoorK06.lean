/- Walks and plain laws, part 6: S02Div S02Text S02Rev S02Rev2 S02Text2 S02Rev3 S02Text3 Txt Txt2 S21Zig S22Plain S22Parts S22Steps S22Clos S22Ext Txt3 S25Cat. -/
import Derived.Test.YtejaocnhekjfiaaGreatDoorK01
import Derived.Test.YtejaocnhekjfiaaGreatDoorK02
import Derived.Test.YtejaocnhekjfiaaGreatDoorK04
import Derived.Test.YtejaocnhekjfiaaGreatDoorK05
import Derived.Test.YtejaocnhekjfiaaGreatDoorRows
import Derived.Deep.QuietTactic
import Derived.BigQuiet
import Derived.Laws.BitsLemmas
import Derived.Laws.BytesArg
import Derived.Lib.ItoaLen
namespace Go.Proofs.YtejaocnhekjfiaaGreatDoor.S02
open Go.RowKit
set_option linter.unusedVariables false
theorem lead10 (w : World) : Calls Tryz.prog 152 #[.int .u64 10] w fun e w' => e = .returned (.int .i64 60) ∧ w' = w:=by
 have:=Tryz.bits_LeadingZeros64 10 w (by omega) (by omega)
 rwa [show (64 - (Lib.bitLen (10 : Int).toNat : Int)) = 60 from by decide] at this
theorem wraps_u64 (n : Int) (h₀ : 0 ≤ n) (h₁ : n < 2 ^ 64) : IntKind.u64.wrap n = n:=by rw [IntKind.wrap_u64]; omega
theorem and0 : bits .and .u64 11529215046068469760 4294967295 = 0:=by decide
theorem or_join {hi lo : Int} (h1 : 0 ≤ hi) (h2 : hi < 10) (h3 : 0 ≤ lo) (h4 : lo ≤ 18446744073709551615) : bits .or .u64 (hi * 1152921504606846976) (lo / 16) = hi * 1152921504606846976 + lo / 16:=
 bits_join .u64 64 (by decide) wraps_u64 60 _ _ (by omega) (by omega) (by omega) (by omega) (by omega) (by omega)
theorem and_low {x : Int} (h1 : 0 ≤ x) (h2 : x ≤ 18446744073709551615) : bits .and .u64 x 4294967295 = x % 4294967296:=
 bits_mask .u64 64 (by decide) wraps_u64 32 (by decide) x h1 (by omega)
structure Way (hi lo U D u1 q1 m1 r1 e1 n21 v1 v2 v3 q0 m2 r2 t1 Q v4 v5 R : Int) : Prop where
 hU : hi * 1152921504606846976 + lo / 16 = U
 hD : (lo * 1152921504606846976) % 18446744073709551616 = D
 hu1 : D / 4294967296 = u1
 hq1 : U / 2684354560 = q1
 hm1 : q1 * 2684354560 = m1
 hr1 : U - m1 = r1
 he1 : 4294967296 * r1 = e1
 hn21 : e1 + u1 = n21
 hv1 : (U * 4294967296) % 18446744073709551616 = v1
 hv2 : (v1 + u1) % 18446744073709551616 = v2
 hv3 : (q1 * 11529215046068469760) % 18446744073709551616 = v3
 hq0 : n21 / 2684354560 = q0
 hm2 : q0 * 2684354560 = m2
 hr2 : n21 - m2 = r2
 ht1 : q1 * 4294967296 = t1
 hQ : t1 + q0 = Q
 hv4 : (n21 * 4294967296) % 18446744073709551616 = v4
 hv5 : (q0 * 11529215046068469760) % 18446744073709551616 = v5
 hR : ((v4 - v5) % 18446744073709551616) / 1152921504606846976 = R
theorem Way.ranges {hi lo U D u1 q1 m1 r1 e1 n21 v1 v2 v3 q0 m2 r2 t1 Q v4 v5 R : Int} (h1 : 0 ≤ hi) (h2 : hi < 10) (h3 : 0 ≤ lo) (h4 : lo ≤ 18446744073709551615)
   (h : Way hi lo U D u1 q1 m1 r1 e1 n21 v1 v2 v3 q0 m2 r2 t1 Q v4 v5 R) :
   (0 ≤ U ∧ U ≤ 18446744073709551615) ∧ (0 ≤ D ∧ D ≤ 18446744073709551615) ∧ D % 4294967296 = 0 ∧ (0 ≤ u1 ∧ u1 ≤ 4294967295) ∧ (0 ≤ q1 ∧ q1 ≤ 4294967295) ∧ (0 ≤ m1 ∧ m1 ≤ 18446744073709551615) ∧ (0 ≤ r1 ∧ r1 < 2684354560) ∧
     (0 ≤ e1 ∧ e1 ≤ 18446744073709551615) ∧ (0 ≤ n21 ∧ n21 ≤ 18446744073709551615) ∧ (v2 - v3) % 18446744073709551616 = n21:=by
 obtain ⟨a1,a2,a3,a4,a5,a6,a7,a8,a9,a10,a11,a12,a13,a14,a15,a16,a17,a18,a19⟩:=h
 have b1 : U * 4294967296 + u1 - q1 * 11529215046068469760 = n21:=by omega
 refine ⟨by omega,by omega,by omega,by omega,by omega,by omega,by omega,by omega,by omega,?_⟩
 omega
theorem Way.ranges2 {hi lo U D u1 q1 m1 r1 e1 n21 v1 v2 v3 q0 m2 r2 t1 Q v4 v5 R : Int} (h1 : 0 ≤ hi) (h2 : hi < 10) (h3 : 0 ≤ lo) (h4 : lo ≤ 18446744073709551615)
   (h : Way hi lo U D u1 q1 m1 r1 e1 n21 v1 v2 v3 q0 m2 r2 t1 Q v4 v5 R) :
   (0 ≤ q0 ∧ q0 ≤ 4294967295) ∧ (0 ≤ m2 ∧ m2 ≤ 18446744073709551615) ∧ (0 ≤ r2 ∧ r2 < 2684354560) ∧ (0 ≤ t1 ∧ t1 ≤ 18446744073709551615) ∧
     Q = (hi * 18446744073709551616 + lo) / 10 ∧ (0 ≤ Q ∧ Q ≤ 18446744073709551615) ∧ R = (hi * 18446744073709551616 + lo) % 10:=by
 have hr:=h.ranges h1 h2 h3 h4
 obtain ⟨a1,a2,a3,a4,a5,a6,a7,a8,a9,a10,a11,a12,a13,a14,a15,a16,a17,a18,a19⟩:=h
 obtain ⟨c1,c2,c3,c4,c5,c6,c7,c8,c9,c10⟩:=hr
 have b1 : U * 4294967296 + u1 - q1 * 11529215046068469760 = n21:=by omega
 have b2 : n21 * 4294967296 - q0 * 11529215046068469760 = ((hi * 18446744073709551616 + lo) - Q * 10) * 1152921504606846976:=by omega
 have b3 : 0 ≤ r2 ∧ r2 < 2684354560:=by omega
 have b4 : r2 * 4294967296 = n21 * 4294967296 - q0 * 11529215046068469760:=by omega
 have b5 : Q = (hi * 18446744073709551616 + lo) / 10:=by omega
 refine ⟨by omega,by omega,b3,by omega,b5,by omega,?_⟩
 omega
set_option maxRecDepth 100000 in
set_option maxHeartbeats 2000000 in
theorem div_any (hi lo : Int) (w : World) (h1 : 0 ≤ hi) (h2 : hi < 10) (h3 : 0 ≤ lo) (h4 : lo ≤ 18446744073709551615) :
   Calls Tryz.prog 106 #[.int .u64 hi,.int .u64 lo,.int .u64 10] w fun e w' => e = .returned (.tuple #[.int .u64 ((hi * 18446744073709551616 + lo) / 10),.int .u64 ((hi * 18446744073709551616 + lo) % 10)]) ∧ Below w.heap.size w w':=by
 by_cases h0 : hi = 0
 · subst h0
   rw [Int.zero_mul,Int.zero_add]
   have g1 : 0 ≤ lo / 10:=by omega
   go_enter Tryz.func106,Tryz.ntmps106
   go_wp2_with fail
   go_quiet (fail)
   go_wp2
   go_ret2
   exact ⟨rfl,rfl,rfl,rfl,Nat.le_refl _,fun _ _ => rfl⟩
 · have d1 : (hi == 0) = false:=by simpa using h0
   have d2 : decide (10 ≤ hi) = false:=by simp; omega
   have f2:=or_join h1 h2 h3 h4
   have f3 : IntKind.u64.wrap (lo * 1152921504606846976) = (lo * 1152921504606846976) % 18446744073709551616:=IntKind.wrap_u64 _
   obtain ⟨U,hU⟩ : ∃ x,hi * 1152921504606846976 + lo / 16 = x:=⟨_,rfl⟩
   obtain ⟨D,hD⟩ : ∃ x,(lo * 1152921504606846976) % 18446744073709551616 = x:=⟨_,rfl⟩
   obtain ⟨u1,hu1⟩ : ∃ x,D / 4294967296 = x:=⟨_,rfl⟩
   obtain ⟨q1,hq1⟩ : ∃ x,U / 2684354560 = x:=⟨_,rfl⟩
   obtain ⟨m1,hm1⟩ : ∃ x,q1 * 2684354560 = x:=⟨_,rfl⟩
   obtain ⟨r1,hr1⟩ : ∃ x,U - m1 = x:=⟨_,rfl⟩
   obtain ⟨e1,he1⟩ : ∃ x,4294967296 * r1 = x:=⟨_,rfl⟩
   obtain ⟨n21,hn21⟩ : ∃ x,e1 + u1 = x:=⟨_,rfl⟩
   obtain ⟨v1,hv1⟩ : ∃ x,(U * 4294967296) % 18446744073709551616 = x:=⟨_,rfl⟩
   obtain ⟨v2,hv2⟩ : ∃ x,(v1 + u1) % 18446744073709551616 = x:=⟨_,rfl⟩
   obtain ⟨v3,hv3⟩ : ∃ x,(q1 * 11529215046068469760) % 18446744073709551616 = x:=⟨_,rfl⟩
   obtain ⟨q0,hq0⟩ : ∃ x,n21 / 2684354560 = x:=⟨_,rfl⟩
   obtain ⟨m2,hm2⟩ : ∃ x,q0 * 2684354560 = x:=⟨_,rfl⟩
   obtain ⟨r2,hr2⟩ : ∃ x,n21 - m2 = x:=⟨_,rfl⟩
   obtain ⟨t1,ht1⟩ : ∃ x,q1 * 4294967296 = x:=⟨_,rfl⟩
   obtain ⟨Q,hQ⟩ : ∃ x,t1 + q0 = x:=⟨_,rfl⟩
   obtain ⟨v4,hv4⟩ : ∃ x,(n21 * 4294967296) % 18446744073709551616 = x:=⟨_,rfl⟩
   obtain ⟨v5,hv5⟩ : ∃ x,(q0 * 11529215046068469760) % 18446744073709551616 = x:=⟨_,rfl⟩
   obtain ⟨R,hR⟩ : ∃ x,((v4 - v5) % 18446744073709551616) / 1152921504606846976 = x:=⟨_,rfl⟩
   have way : Way hi lo U D u1 q1 m1 r1 e1 n21 v1 v2 v3 q0 m2 r2 t1 Q v4 v5 R:=⟨hU,hD,hu1,hq1,hm1,hr1,he1,hn21,hv1,hv2,hv3,hq0,hm2,hr2,ht1,hQ,hv4,hv5,hR⟩
   obtain ⟨⟨c1,c1'⟩,⟨c2,c2'⟩,c3,⟨c4,c4'⟩,⟨c5,c5'⟩,⟨c6,c6'⟩,⟨c7,c7'⟩,⟨c8,c8'⟩,⟨c9,c9'⟩,c10⟩:=way.ranges h1 h2 h3 h4
   obtain ⟨⟨k1,k1'⟩,⟨k2,k2'⟩,⟨k3,k3'⟩,⟨k4,k4'⟩,k5,⟨k6,k6'⟩,k7⟩:=way.ranges2 h1 h2 h3 h4
   rw [hU] at f2
   rw [hD] at f3
   rw [← k5,← k7]
   have f5:=and_low c2 c2'
   rw [c3] at f5
   have f0:=and0
   have a5 : IntKind.u64.wrap (U * 4294967296) = v1:=by rw [IntKind.wrap_u64]; exact hv1
   have a6 : IntKind.u64.wrap (v1 + u1) = v2:=by rw [IntKind.wrap_u64]; exact hv2
   have a7 : IntKind.u64.wrap (q1 * 11529215046068469760) = v3:=by rw [IntKind.wrap_u64]; exact hv3
   have a8 : IntKind.u64.wrap (v2 - v3) = n21:=by rw [IntKind.wrap_u64]; exact c10
   have a9 : IntKind.u64.wrap (n21 * 4294967296) = v4:=by rw [IntKind.wrap_u64]; exact hv4
   have a10 : IntKind.u64.wrap (q0 * 11529215046068469760) = v5:=by rw [IntKind.wrap_u64]; exact hv5
   obtain ⟨v6,hv6⟩ : ∃ x,(v4 - v5) % 18446744073709551616 = x:=⟨_,rfl⟩
   have hv6r : 0 ≤ v6 ∧ v6 ≤ 18446744073709551615:=by omega
   have a11 : IntKind.u64.wrap (v4 - v5) = v6:=by rw [IntKind.wrap_u64]; exact hv6
   rw [hv6] at hR
   obtain ⟨r4,r4'⟩ : 0 ≤ v4 ∧ v4 ≤ 18446744073709551615:=by omega
   obtain ⟨hv6a,hv6b⟩:=hv6r
   have g1 : decide (4294967296 ≤ q1) = false:=by simp; omega
   have g2 : decide (4294967296 ≤ q0) = false:=by simp; omega
   have g3 : decide (n21 < 0) = false:=by simp; omega
   have hlo : 0 ≤ lo / 16:=by omega
   clear way k5 k7 hU hD hv1 hv2 hv3 hv4 hv5 hv6 c10 c3 h0
   go_enter Tryz.func106,Tryz.ntmps106
   go_wp2_with fail
   refine (lead10 _).mono ?_
   rintro e w1 ⟨rfl,rfl⟩
   go_wp2
   rw [hq1]
   go_loop [15,16] (fun a b => a = .int .u64 q1 ∧ b = .int .u64 r1) (fun _ _ => 0)
   case atStart => exact ⟨rfl,rfl⟩
   case round =>
     obtain ⟨rfl,rfl⟩:=hrel
     go_wp2
     go_loop [16,18] (fun a b => a = .int .u64 r2 ∧ b = .int .u64 q0) (fun _ _ => 0)
     case atStart => exact ⟨rfl,rfl⟩
     case round =>
       obtain ⟨rfl,rfl⟩:=hrel
       go_wp2
       go_ret2
       exact ⟨rfl,Below.refl _ _⟩
end Go.Proofs.YtejaocnhekjfiaaGreatDoor.S02
namespace Go.Proofs.YtejaocnhekjfiaaGreatDoor.S02
open Go.RowKit
set_option linter.unusedVariables false
theorem below_drewN (w : World) (n : Nat) : Below w.heap.size w (w.drewN n):=⟨rfl,rfl,rfl,Nat.le_refl _,fun _ _ => rfl⟩
theorem u64_i64_neg {a : Int} (h1 : -9223372036854775808 ≤ a) (h2 : a < 0) : IntKind.u64.wrap a = a + 18446744073709551616:=by rw [IntKind.wrap_u64]; omega
theorem xor_max {u : Int} (h1 : 0 ≤ u) (h2 : u ≤ 18446744073709551615) : bits .xor .u64 IntKind.u64.max u = 18446744073709551615 - u:=by
 obtain ⟨U,rfl⟩:=Int.eq_ofNat_of_zero_le h1
 have hU : U < 2 ^ 64:=by omega
 have e : (BitVec.ofInt 64 IntKind.u64.max) ^^^ (BitVec.ofInt 64 (U : Int)) = ~~~ (BitVec.ofNat 64 U):=by
   rw [BitVec.ofInt_natCast]
   have : (BitVec.ofInt 64 IntKind.u64.max) = BitVec.allOnes 64:=by decide
   rw [this,BitVec.allOnes_xor]
 show IntKind.u64.wrap (((BitVec.ofInt 64 IntKind.u64.max) ^^^ (BitVec.ofInt 64 (U : Int))).toNat : Int) = _
 rw [e,BitVec.toNat_not,BitVec.toNat_ofNat,Nat.mod_eq_of_lt hU,IntKind.wrap_u64]
 omega
set_option maxRecDepth 100000 in
set_option maxHeartbeats 1000000 in
theorem size_any (v : Int) (w : World) (hv : Fits v) :
   Calls Tryz.prog 105 #[W v] w fun e w' => e = .returned (.tuple #[.int .u64 (hiOf (v.natAbs : Int)),.int .u64 (loOf (v.natAbs : Int))]) ∧ Below w.heap.size w w':=by
 have hr:=hi_range hv
 have hl:=loOf_range v
 unfold W
 have c0 : (w.alloc (.cells #[.int .i64 (hiOf v),.int .u64 (loOf v)] 148)).cell? ⟨w.heap.size,0,none⟩ = some (.int .i64 (hiOf v)):=(cell_of_row _ _ _ _ _ _ (heap_alloc_new w _)).trans rfl
 have c1 : (w.alloc (.cells #[.int .i64 (hiOf v),.int .u64 (loOf v)] 148)).cell? ⟨w.heap.size,1,none⟩ = some (.int .u64 (loOf v)):=(cell_of_row _ _ _ _ _ _ (heap_alloc_new w _)).trans rfl
 by_cases h0 : v < 0
 · have d0 : decide (hiOf v < 0) = true:=by simp; unfold hiOf; omega
   have hn : hiOf v < 0:=by unfold hiOf; omega
   have hw:=u64_i64_neg hr.1 hn
   obtain ⟨U,hU⟩ : ∃ U,hiOf v + 18446744073709551616 = U:=⟨_,rfl⟩
   have hU1 : 0 ≤ U:=by omega
   have hU1' : U ≤ 18446744073709551615:=by omega
   have hx:=xor_max hU1 hU1'
   obtain ⟨N,hN⟩ : ∃ N,18446744073709551615 - U = N:=⟨_,rfl⟩
   have hN1 : 0 ≤ N:=by omega
   have hN1' : N ≤ 9223372036854775807:=by omega
   have hs : IntKind.u64.signed = false:=rfl
   by_cases hz : loOf v = 0
   · have e1 : hiOf (v.natAbs : Int) = N + 1:=by unfold hiOf at *; unfold loOf at hz; omega
     have e2 : loOf (v.natAbs : Int) = 0:=by unfold loOf at hz ⊢; omega
     rw [e1,e2]
     rw [hz] at c1 hl ⊢
     rw [hU] at hw
     rw [hN] at hx
     clear hz e1 e2 h0 hv hr hl hU hN
     generalize hiOf v = H at *
     go_enter Tryz.func105,Tryz.ntmps105
     go_wp2_with fail
     go_quiet (fail)
     go_wp2
     go_ret2
     exact ⟨rfl,((Below.refl _ _).alloc (Nat.le_refl _) _).trans ((below_drewN _ _).mono (by simp))⟩
   · have e1 : hiOf (v.natAbs : Int) = N:=by unfold hiOf at *; unfold loOf at hz; omega
     have e2 : loOf (v.natAbs : Int) = 18446744073709551616 - loOf v:=by unfold loOf at hz ⊢; omega
     have hng : IntKind.u64.wrap (-loOf v) = 18446744073709551616 - loOf v:=by rw [IntKind.wrap_u64]; omega
     have hz2 : ((18446744073709551616 - loOf v) == 0) = false:=by rw [beq_eq_false_iff_ne]; omega
     rw [e1,e2]
     rw [hU] at hw
     rw [hN] at hx
     generalize 18446744073709551616 - loOf v = M at *
     clear hz e1 e2 h0 hv hr hU hN
     generalize hiOf v = H at *
     generalize loOf v = L at *
     go_enter Tryz.func105,Tryz.ntmps105
     go_wp2_with fail
     go_quiet (fail)
     go_wp2
     go_ret2
     exact ⟨rfl,((Below.refl _ _).alloc (Nat.le_refl _) _).trans ((below_drewN _ _).mono (by simp))⟩
 · have d0 : decide (hiOf v < 0) = false:=by simp; unfold hiOf; omega
   have hn : 0 ≤ hiOf v:=by unfold hiOf; omega
   have e1 : (v.natAbs : Int) = v:=by omega
   rw [e1]
   clear e1 h0
   have hr2:=hr.2
   clear hr
   generalize hiOf v = H at *
   generalize loOf v = L at *
   go_enter Tryz.func105,Tryz.ntmps105
   go_wp2_with fail
   go_quiet (fail)
   go_wp2
   go_ret2
   exact ⟨rfl,((Below.refl _ _).alloc (Nat.le_refl _) _).trans ((below_drewN _ _).mono (by simp))⟩
end Go.Proofs.YtejaocnhekjfiaaGreatDoor.S02
namespace Go.Proofs.YtejaocnhekjfiaaGreatDoor.S02
open Go.RowKit
set_option linter.unusedVariables false
structure Swapped (old cur : Array Value) (n k : Nat) : Prop where
 size : cur.size = old.size
 ends : ∀ i,i < n → (i < k ∨ n - k ≤ i) → cur[i]? = old[n - 1 - i]?
 mid : ∀ i,k ≤ i → i < n - k → cur[i]? = old[i]?
 rest : ∀ i,n ≤ i → cur[i]? = old[i]?
theorem Swapped.start (old : Array Value) (n : Nat) : Swapped old old n 0:=⟨rfl,fun i h1 h2 => by omega,fun _ _ _ => rfl,fun _ _ => rfl⟩
theorem Swapped.step {old cur : Array Value} {n k : Nat} (h : Swapped old cur n k) (hk : 2 * k + 1 < n) (hn : n ≤ old.size) {x y : Value} (hx : old[k]? = some x) (hy : old[n - 1 - k]? = some y) :
   Swapped old ((cur.setIfInBounds k y).setIfInBounds (n - 1 - k) x) n (k + 1):=by
 have hs:=h.size
 refine ⟨by simp [hs],fun i h1 h2 => ?_,fun i h1 h2 => ?_,fun i h1 => ?_⟩
 · by_cases e1 : i = n - 1 - k
   · subst e1
     rw [Array.getElem?_setIfInBounds_self_of_lt (by simp; omega),show n - 1 - (n - 1 - k) = k from by omega,hx]
   · rw [Array.getElem?_setIfInBounds_ne (by omega)]
     by_cases e2 : i = k
     · subst e2
       rw [Array.getElem?_setIfInBounds_self_of_lt (by omega),hy]
     · rw [Array.getElem?_setIfInBounds_ne (by omega)]
       exact h.ends i h1 (by omega)
 · rw [Array.getElem?_setIfInBounds_ne (by omega),Array.getElem?_setIfInBounds_ne (by omega)]
   exact h.mid i (by omega) (by omega)
 · rw [Array.getElem?_setIfInBounds_ne (by omega),Array.getElem?_setIfInBounds_ne (by omega)]
   exact h.rest i h1
theorem Swapped.done {old cur : Array Value} {n k : Nat} (h : Swapped old cur n k) (hk : n ≤ 2 * k + 1) (hn : n ≤ old.size) : cur.toList.take n = (old.toList.take n).reverse:=by
 apply List.ext_getElem?
 intro i
 rw [List.getElem?_take]
 by_cases hi : i < n
 · rw [if_pos hi,List.getElem?_reverse (by simp; omega),List.getElem?_take]
   simp only [List.length_take,Array.length_toList,Nat.min_eq_left hn]
   rw [if_pos (by omega)]
   simp only [Array.getElem?_toList]
   by_cases e : i < k ∨ n - k ≤ i
   · exact h.ends i hi e
   · rw [h.mid i (by omega) (by omega),show n - 1 - i = i from by omega]
 · rw [if_neg hi,List.getElem?_eq_none (by simp; omega)]
set_option maxRecDepth 100000 in
set_option maxHeartbeats 1000000 in
theorem reverse_any (g n c : Nat) (old : Array Value) (w : World) (hh : w.heap[g]? = some (.cells old 5 (0,0))) (hn : n ≤ old.size) (hc : n ≤ c) (hlen : n ≤ 65535) (hu : ∀ (i : Nat) (x : Value),i < n → old[i]? = some x → ∃ b : Int,x = .int .u8 b) :
   Calls Tryz.prog 153 #[.slice (some ⟨g,0,none⟩) n c] w fun e w' => e = .returned (.tuple #[]) ∧ (∃ cur,cur.size = old.size ∧ cur.toList.take n = (old.toList.take n).reverse ∧ w'.heap[g]? = some (.cells cur 5 (0,0))) ∧ Only g w w':=by
 have HH:=Lib.hid hh; clear hh
 have HU:=Lib.hid hu; clear hu
 go_enter Tryz.func153,Tryz.ntmps153
 go_wp2
 go_loopw [2,3] (fun i j wr => ∃ (k : Nat) (cur : Array Value),2 * k ≤ n + 1 ∧ i = .int .i64 k ∧ j = .int .i64 ((n : Int) - 1 - (k : Int)) ∧ Swapped old cur n k ∧ wr.heap[g]? = some (.cells cur 5 (0,0)) ∧ Only g w wr) (fun i _ _ => n - (intOf i).toNat)
 case atStart => exact ⟨0,old,by omega,rfl,by go_num,Swapped.start old n,HH.out,Only.refl g w⟩
 case round =>
   obtain ⟨k,cur,hk,rfl,rfl,hsw,hh,ho⟩:=hrel
   have HW:=Lib.hid hh; clear hh
   have HS:=Lib.hid hsw; clear hsw
   have HO:=Lib.hid ho; clear ho
   by_cases hlt : 2 * k + 1 < n
   · obtain ⟨m,hm⟩ : ∃ m,m = n - 1 - k:=⟨_,rfl⟩
     have hmi : (n : Int) - 1 - (k : Int) = (m : Int):=by omega
     rw [hmi]
     have hsz:=HS.out.size
     obtain ⟨x,hx⟩ : ∃ x,old[k]? = some x:=⟨_,Array.getElem?_eq_getElem (by omega)⟩
     obtain ⟨y,hy⟩ : ∃ y,old[m]? = some y:=⟨_,Array.getElem?_eq_getElem (by omega)⟩
     obtain ⟨x,rfl⟩:=HU.out k _ (by omega) hx
     obtain ⟨y,rfl⟩:=HU.out m _ (by omega) hy
     have c0 : wr.cell? ⟨g,k,none⟩ = some (.int .u8 x):=by rw [cell_of_row _ _ _ _ _ _ HW.out,HS.out.mid k (by omega) (by omega)]; exact hx
     have c1 : wr.cell? ⟨g,m,none⟩ = some (.int .u8 y):=by rw [cell_of_row _ _ _ _ _ _ HW.out,HS.out.mid m (by omega) (by omega)]; exact hy
     have f0 : wr.frozen? ⟨g,k,none⟩ = false:=frozen_of_row _ _ _ _ _ HW.out
     have f1 : wr.frozen? ⟨g,m,none⟩ = false:=frozen_of_row _ _ _ _ _ HW.out
     have hst:=HS.out.step hlt hn hx (by rw [← hm]; exact hy)
     rw [← hm] at hst
     have HST:=Lib.hid hst
     have hkm : k ≠ m:=by omega
     have hkn : (k : Int) < (n : Int):=by omega
     have hmn : (m : Int) < (n : Int):=by omega
     have hlt2 : (k : Int) < (m : Int):=by omega
     have HM:=Lib.hid hm
     clear hst hx hy hsz hmi hm
     go_wp2_with fail
     go_region
     clear c0 c1 f0 f1
     have hmm : (m : Int) - 1 = (n : Int) - 1 - ((k : Int) + 1):=by have:=HM.out; omega
     go_wp2
     go_roundw
     case rel =>
       refine ⟨k + 1,_,by omega,by go_num,by go_num,HST.out,?_,?_⟩
       · exact heap_setCell_same _ _ _ _ _ _ (heap_setCell_same _ _ _ _ _ _ HW.out)
       · exact ((HO.out.trans (Only.store wr g k _)).trans (Only.store _ g m _)).drew
     case measure => simp [intOf]; omega
   · have hd : decide ((k : Int) < (n : Int) - 1 - (k : Int)) = false:=by simp; omega
     have hfin:=HS.out.done (by omega) hn
     have HF:=Lib.hid hfin
     have hsz:=HS.out.size
     have HSZ:=Lib.hid hsz
     clear hfin hsz hk
     go_wp2
     go_end0
     exact ⟨rfl,⟨cur,HSZ.out,HF.out,HW.out⟩,HO.out⟩
end Go.Proofs.YtejaocnhekjfiaaGreatDoor.S02
namespace Go.Proofs.YtejaocnhekjfiaaGreatDoor.S02
open Go.RowKit
set_option linter.unusedVariables false
def bv (n : Int) : Value:=.int .u8 n
set_option maxRecDepth 100000 in
set_option maxHeartbeats 1000000 in
theorem reversed_any (g n c : Nat) (old : Array Value) (xs : List Int) (w : World) (hh : w.heap[g]? = some (.cells old 5 (0,0))) (hn : n ≤ old.size) (hc : n ≤ c) (hlen : n ≤ 65535)
   (hx : old.toList.take n = xs.map bv) :
   Calls Tryz.prog 107 #[.slice (some ⟨g,0,none⟩) n c] w fun e w' => e = .returned (.string (strOfNums xs.reverse)) ∧ Only g w w':=by
 have hxl : xs.length = n:=by have:=congrArg List.length hx; simp at this; omega
 have kr:=reverse_any g n c old w hh hn hc hlen (fun i x hi hxi => by
   have h1 : (old.toList.take n)[i]? = some x:=by rw [List.getElem?_take,if_pos hi]; simpa using hxi
   rw [hx,List.getElem?_map] at h1
   obtain ⟨b,_,hb⟩:=Option.map_eq_some_iff.1 h1
   exact ⟨b,hb.symm⟩)
 have kc : ∀ (cur : Array Value) (w' : World),cur.toList.take n = (old.toList.take n).reverse → w'.heap[g]? = some (.cells cur 5 (0,0)) →
     (convert 92 9 (.slice (some ⟨g,0,none⟩) n c)).run Tryz.prog w' = .ok (.string (strOfNums xs.reverse)) w':=by
   intro cur w' h1 h2
   refine run_convert_bytes_arg w' 92 5 Tryz.underlying92 Tryz.underlying5 g 0 n c xs.reverse (by simp [hxl]) (fun i hi => ?_) 9 Tryz.underlying9
   rw [Nat.zero_add,cell_of_row _ _ _ _ _ _ h2]
   rw [hx,← List.map_reverse] at h1
   have h3 : (cur.toList.take n)[i]? = (xs.reverse.map bv)[i]?:=by rw [h1]
   rw [List.getElem?_take,if_pos hi,List.getElem?_map] at h3
   simp only [Array.getElem?_toList] at h3
   rw [h3,List.getElem?_eq_getElem (by simp; omega),List.getD_eq_getElem?_getD,List.getElem?_eq_getElem (by simp; omega)]
   rfl
 have KR:=Lib.hid kr
 have KC:=Lib.hid kc
 clear kr kc hh hx
 go_enter Tryz.func107,Tryz.ntmps107
 go_wp2_with fail
 refine KR.out.mono ?_
 rintro e w1 ⟨rfl,⟨cur,e1,e2,e3⟩,ho⟩
 have kc:=KC.out cur w1 e2 e3
 have HO:=Lib.hid ho
 clear ho e1 e2 e3
 go_wp2
 go_ret
 exact ⟨rfl,HO.out⟩
end Go.Proofs.YtejaocnhekjfiaaGreatDoor.S02
namespace Go.Proofs.YtejaocnhekjfiaaGreatDoor.S02
open Go.RowKit
set_option linter.unusedVariables false
def digs (n : Nat) : List Int:=if n < 10 then [48 + (n : Int)] else (48 + ((n % 10 : Nat) : Int)) :: digs (n / 10)
decreasing_by omega
def rest (n : Nat) (some : Bool) : List Int:=if n = 0 ∧ some = true then [] else digs n
theorem rest_step (n : Nat) (b : Bool) (h : n ≠ 0 ∨ b = false) : rest n b = (48 + ((n % 10 : Nat) : Int)) :: rest (n / 10) true:=by
 unfold rest
 rw [if_neg (by simp; intro h1; rcases h with h | h; exact absurd h1 h; exact h)]
 rw [digs]
 split
 · rename_i hn
   rw [if_pos ⟨by omega,rfl⟩,Nat.mod_eq_of_lt hn]
 · rw [if_neg (by simp; omega)]
def textRev (v : Int) : List Int:=digs v.natAbs ++ (if v < 0 then [45] else [])
def textV (v : Int) : Value:=.string (strOfNums (textRev v).reverse)
end Go.Proofs.YtejaocnhekjfiaaGreatDoor.S02
namespace Go.Proofs.YtejaocnhekjfiaaGreatDoor.S02
open Go.RowKit
set_option linter.unusedVariables false
theorem reversed_own (base : Nat) (v : Value) (n : Nat) (xs : List Int) (w : World) (h : w.ownsRow base 5 1 v n (xs.map bv)) (hn : 0 < n) (hlen : n ≤ 65535) :
   Calls Tryz.prog 107 #[v] w fun e w' => e = .returned (.string (strOfNums xs.reverse)) ∧ Below base w w':=by
 rcases h with ⟨hl,⟨rfl,h0⟩ | ⟨g,cap,cur,rfl,hg,hh,hnc,hcm,hcs,ht⟩⟩
 · omega
 · refine (reversed_any g n cap cur xs w hh (by omega) hnc hlen (by simpa using ht)).mono ?_
   rintro e w' ⟨h1,h2⟩
   exact ⟨h1,h2.below hg⟩
end Go.Proofs.YtejaocnhekjfiaaGreatDoor.S02
namespace Go.Proofs.YtejaocnhekjfiaaGreatDoor.S02
open Go.RowKit
set_option linter.unusedVariables false
theorem info5 : (Tryz.prog.info? 5).map (fun i => (i.zero,i.size,i.bytes)) = some (some (.int .u8 0),1,1):=by kernel_rfl
theorem row_bv (w : World) (x : Int) : Row (w.alloc (.cells #[bv x] 5)) (some ⟨w.heap.size,0,none⟩) 1 [bv x]:=by
 refine ⟨rfl,fun i y hy => ⟨w.heap.size,0,rfl,?_,by simp⟩⟩
 rw [Nat.zero_add,cell_of_row _ _ _ _ _ _ (heap_alloc_new w _)]
 rcases i with _ | i
 · simpa using hy
 · simp at hy
theorem own_below {w w' : World} {base : Nat} {e : TypeId} {size : Nat} {v : Value} {n : Nat} {xs : List Value} (h : w.ownsRow base e size v n xs) (hb : Below w.heap.size w w') : w'.ownsRow base e size v n xs:=by
 refine ⟨h.1,?_⟩
 rcases h.2 with h2 | ⟨g,cap,cur,e1,hg,hh,hr⟩
 · exact Or.inl h2
 · exact Or.inr ⟨g,cap,cur,e1,hg,(hb.block g (lt_of_block hh)).trans hh,hr⟩
theorem hiOf_div (N : Nat) : hiOf (N : Int) / 10 = hiOf ((N / 10 : Nat) : Int):=by unfold hiOf; omega
theorem div_lo (N : Nat) : (hiOf (N : Int) % 10 * 18446744073709551616 + loOf (N : Int)) / 10 = loOf ((N / 10 : Nat) : Int):=by unfold hiOf loOf; omega
theorem mod_lo (N : Nat) : (hiOf (N : Int) % 10 * 18446744073709551616 + loOf (N : Int)) % 10 = ((N % 10 : Nat) : Int):=by unfold hiOf loOf; omega
set_option maxRecDepth 100000 in
set_option maxHeartbeats 2000000 in
theorem text_any (v : Int) (w : World) (hv : Fits v) :
   Calls Tryz.prog 59 #[W v] w fun e w' => e = .returned (textV v) ∧ Below w.heap.size w w':=by
 have ks:=fun w => size_any v w hv
 have hV : v.natAbs < 10 ^ 40 ∧ v.natAbs < 340282366920938463463374607431768211456:=by unfold Fits at hv; omega
 have KS:=Lib.hid ks
 have HV:=Lib.hid hV
 have c0 : (w.alloc (.cells #[.int .i64 (hiOf v),.int .u64 (loOf v)] 148)).cell? ⟨w.heap.size,0,none⟩ = some (.int .i64 (hiOf v)):=(cell_of_row _ _ _ _ _ _ (heap_alloc_new w _)).trans rfl
 have c1 : (w.alloc (.cells #[.int .i64 (hiOf v),.int .u64 (loOf v)] 148)).cell? ⟨w.heap.size,1,none⟩ = some (.int .u64 (loOf v)):=(cell_of_row _ _ _ _ _ _ (heap_alloc_new w _)).trans rfl
 have hb : Below w.heap.size w (w.alloc (.cells #[.int .i64 (hiOf v),.int .u64 (loOf v)] 148)):=(Below.refl _ _).alloc (Nat.le_refl _) _
 have hsz : (w.alloc (.cells #[.int .i64 (hiOf v),.int .u64 (loOf v)] 148)).heap.size = w.heap.size + 1:=by simp
 unfold W at KS ⊢
 clear ks hV hv
 go_enter Tryz.func59,Tryz.ntmps59
 go_wp2_with fail
 generalize w.alloc (.cells #[.int .i64 (hiOf v),.int .u64 (loOf v)] 148) = wa at *
 refine (KS.out _).mono ?_
 rintro e w1 ⟨rfl,hb1⟩
 rw [hsz] at hb1
 have d0 : w1.cell? ⟨w.heap.size,0,none⟩ = some (.int .i64 (hiOf v)):=(hb1.cell (by simp)).trans c0
 have HB:=Lib.hid (hb.trans (hb1.mono (by omega)))
 have HZ:=Lib.hid (show w.heap.size + 1 ≤ w1.heap.size from by rw [← hsz]; exact hb1.size)
 clear hb1 c0 c1 hb hsz
 go_wp2_with fail
 have HD:=Lib.hid d0; clear d0
 have O0:=Lib.hid (show w1.ownsRow w1.heap.size 5 1 (.slice none 0 0) 0 [] from ⟨rfl,Or.inl ⟨rfl,rfl⟩⟩)
 go_loopw [3,4,5] (fun h l s wr => ∃ (N : Nat) (ds : List Int),h = .int .u64 (hiOf (N : Int)) ∧ l = .int .u64 (loOf (N : Int)) ∧ wr.ownsRow w1.heap.size 5 1 s ds.length (ds.map bv) ∧ Below w1.heap.size w1 wr ∧ ds ++ rest N (decide (ds ≠ [])) = digs v.natAbs ∧ ds.length ≤ 40 ∧ N < 10 ^ (40 - ds.length) ∧ N < 340282366920938463463374607431768211456) (fun _ _ s _ => 41 - (match s with | .slice _ n _ => n | _ => 0))
 case atStart => exact ⟨v.natAbs,[],rfl,rfl,O0.out,Below.refl _ _,by simp [rest],by simp,HV.out.1,HV.out.2⟩
 case round =>
   obtain ⟨N,ds,rfl,rfl,hown,hb',hds,hlen,hN,hN2⟩:=hrel
   obtain ⟨ad,c,rfl,hrow⟩:=Row.own hown
   have HO:=Lib.hid hown; have HBB:=Lib.hid hb'; have HDS:=Lib.hid hds; have HN:=Lib.hid hN; have HL:=Lib.hid hlen
   have d0 : wr.cell? ⟨w.heap.size,0,none⟩ = some (.int .i64 (hiOf v)):=(hb'.cell (by simp; have:=HZ.out; omega)).trans HD.out
   have HD2:=Lib.hid d0; clear d0 hrow hown hb' hds hN hlen
   by_cases hgo : N ≠ 0 ∨ decide (ds ≠ []) = false
   · have hst:=rest_step N (decide (ds ≠ [])) hgo
     have HST:=Lib.hid hst; clear hst
     have kd:=fun w => div_any (hiOf (N : Int) % 10) (loOf (N : Int)) w (by omega) (by omega) (loOf_range _).1 (loOf_range _).2
     rw [div_lo,mod_lo] at kd
     have q1:=hiOf_div N
     have KD:=Lib.hid kd; clear kd
     have hh0 : 0 ≤ hiOf (N : Int):=by unfold hiOf; omega
     have hh1 : hiOf (N : Int) ≤ 18446744073709551615:=by unfold hiOf; omega
     have hl:=loOf_range (N : Int)
     have hcond : decide (0 < hiOf (N : Int)) = true ∨ (decide (0 < hiOf (N : Int)) = false ∧ decide (0 < loOf (N : Int)) = true) ∨ (decide (0 < hiOf (N : Int)) = false ∧ decide (0 < loOf (N : Int)) = false ∧ ((ds.length : Int) == 0) = true):=by
       by_cases a1 : 0 < hiOf (N : Int)
       · exact Or.inl (by simpa using a1)
       · have a2 : hiOf (N : Int) = 0:=by omega
         have b1 : decide (0 < hiOf (N : Int)) = false:=by simpa using a1
         by_cases a3 : 0 < loOf (N : Int)
         · exact Or.inr (Or.inl ⟨b1,by simpa using a3⟩)
         · refine Or.inr (Or.inr ⟨b1,by simpa using a3,?_⟩)
           have a4 : N = 0:=by unfold hiOf at a2; unfold loOf at a3; omega
           rcases hgo with h | h
           · exact absurd a4 h
           · have : ds = []:=by simpa using h
             subst this; rfl
     have hlt0 : ds.length < 40:=by
       rcases Nat.lt_or_ge ds.length 40 with h | h
       · exact h
       · have h1 : ds.length = 40:=by have:=HL.out; omega
         have h2:=HN.out
         rw [h1] at h2
         have h3 : N = 0:=by omega
         rcases hgo with h | h
         · exact absurd h3 h
         · have : ds = []:=by simpa using h
           subst this; simp at h1
     have HLT:=Lib.hid hlt0; clear hlt0
     clear hgo
     obtain ⟨i0,hi,hz0,hz1,hz2⟩:=info_parts info5
     rcases hcond with g1 | ⟨g1,g2⟩ | ⟨g1,g2,g3⟩
     all_goals go_wp2_with fail
     all_goals have hm1 : ds.length + 1 ≤ maxLen:=by have:=HL.out; unfold maxLen; omega
     all_goals have hm2 : (ds.length + 1) * 1 ≤ 140737488355328:=by have:=HL.out; omega
     all_goals have hdd : IntKind.u8.wrap (48 + ((N % 10 : Nat) : Int)) = 48 + ((N % 10 : Nat) : Int):=by rw [IntKind.wrap_u8]; omega
     all_goals
       refine (KD.out _).mono ?_
       rintro e w2 ⟨rfl,hb2⟩
       have HB2:=Lib.hid (HBB.out.trans (hb2.mono HBB.out.size))
       have HO2:=Lib.hid (own_below HO.out hb2)
       clear hb2
     all_goals go_wp2_with (at_builtin; refine wpList_append_copy rfl (.tmp 33) (.tmp 37) 92 rfl w1.heap.size 5 i0 (.int .u8 0) 1 Tryz.underlying92 hi hz0 hz1 hz2 rfl _ ds.length (ds.map bv) rfl (HO2.out.alloc _) (some ⟨w2.heap.size,0,none⟩) 1 1 [bv (48 + ((N % 10 : Nat) : Int))] rfl (row_bv w2 _) (by simp) (one_int .u8 _) hm1 hm2 (HB2.out.alloc HB2.out.size _).size ?_; intro v3 w3 hown3 hb3 hnil; have HO3:=Lib.hid hown3; have HB3:=Lib.hid ((HB2.out.alloc HB2.out.size _).trans hb3); clear hown3 hb3 hnil)
     all_goals
       obtain ⟨a3,c3,rfl,_⟩:=Row.own HO3.out
       have ho:=HO3.out
       have hl2:=HL.out
       have hn2:=HN.out
       have hlt : ds.length < 40:=HLT.out
       refine ⟨⟨N / 10,ds ++ [48 + ((N % 10 : Nat) : Int)],by simp,by simp,by simpa using ho,HB3.out,?_,by simp; omega,?_,?_⟩,by simp; omega⟩
       · rw [← HDS.out,HST.out]; simp
       · rw [List.length_append,List.length_singleton]
         rw [show 40 - ds.length = (40 - (ds.length + 1)) + 1 from by omega,Nat.pow_succ] at hn2
         omega
       · omega
   · have hN0 : N = 0:=by
       rcases Nat.eq_zero_or_pos N with h | h
       · exact h
       · exact absurd (Or.inl (by omega)) hgo
     have hne : ds ≠ []:=fun h => hgo (Or.inr (by simp [h]))
     subst hN0
     have hds : ds = digs v.natAbs:=by
       have:=HDS.out
       rw [decide_eq_true hne] at this
       simpa [rest] using this
     have hl1 : ((ds.length : Int) == 0) = false:=by
       have : ds.length ≠ 0:=fun h => hne (List.length_eq_zero_iff.1 h)
       simp; omega
     have z1 : hiOf ((0 : Nat) : Int) = 0:=rfl
     have z2 : loOf ((0 : Nat) : Int) = 0:=rfl
     rw [z1,z2]
     have HDD:=Lib.hid hds
     clear hgo hne hds
     by_cases hv0 : v < 0
     · have d1 : decide (hiOf v < 0) = true:=by simp; unfold hiOf; omega
       have d2:=HD2.out
       obtain ⟨i0,hi,hz0,hz1,hz2⟩:=info_parts info5
       have hm1 : ds.length + 1 ≤ maxLen:=by have:=HL.out; unfold maxLen; omega
       have hm2 : (ds.length + 1) * 1 ≤ 140737488355328:=by have:=HL.out; omega
       go_wp2_with (first | (at_builtin; refine wpList_append_copy rfl (.tmp 42) (.tmp 43) 92 rfl w1.heap.size 5 i0 (.int .u8 0) 1 Tryz.underlying92 hi hz0 hz1 hz2 rfl _ ds.length (ds.map bv) rfl (HO.out.alloc _) (some ⟨wr.heap.size,0,none⟩) 1 1 [bv 45] rfl (row_bv wr _) (by simp) (one_int .u8 _) hm1 hm2 (HBB.out.alloc HBB.out.size _).size ?_; intro v3 w3 hown3 hb3 hnil; have HO3:=Lib.hid (show w3.ownsRow w1.heap.size 5 1 v3 (ds.length + 1) ((ds ++ [45]).map bv) from by simpa using hown3); have HB3:=Lib.hid ((HBB.out.alloc HBB.out.size _).trans hb3); clear hown3 hb3 hnil))
       have hpos : 0 < ds.length + 1:=by omega
       have hbig : ds.length + 1 ≤ 65535:=by have:=HL.out; omega
       refine (reversed_own w1.heap.size v3 (ds.length + 1) (ds ++ [45]) w3 HO3.out hpos hbig).mono ?_
       rintro e w4 ⟨rfl,hb4⟩
       have HB4:=Lib.hid (HB.out.trans ((HB3.out.trans hb4).mono (by have:=HZ.out; omega)))
       clear hb4
       go_wp2
       go_ret
       refine ⟨?_,HB4.out⟩
       show _ = Ending.returned (textV v)
       unfold textV textRev
       rw [if_pos hv0,HDD.out,List.reverse_append]
       rfl
     · have d1 : decide (hiOf v < 0) = false:=by simp; unfold hiOf; omega
       have d2:=HD2.out
       have hpos : 0 < ds.length:=by
         have : ds.length ≠ 0:=fun h => by rw [h] at hl1; simp at hl1
         omega
       have hbig : ds.length ≤ 65535:=by have:=HL.out; omega
       go_wp2_with fail
       refine (reversed_own w1.heap.size (.slice ad ds.length c) ds.length ds wr HO.out hpos hbig).mono ?_
       rintro e w4 ⟨rfl,hb4⟩
       have HB4:=Lib.hid (HB.out.trans ((HBB.out.trans hb4).mono (by have:=HZ.out; omega)))
       clear hb4
       go_wp2
       go_ret
       refine ⟨?_,HB4.out⟩
       show _ = Ending.returned (textV v)
       unfold textV textRev
       rw [if_neg (by omega),List.append_nil,HDD.out]
       rfl
end Go.Proofs.YtejaocnhekjfiaaGreatDoor.S02
namespace Go.Proofs.YtejaocnhekjfiaaGreatDoor
open Go.RowKit
set_option linter.unusedVariables false
def numT (n : Int) : ByteArray:=⟨(Lib.itoa n).toArray⟩
theorem numT_size (n : Int) (h : -9223372036854775808 ≤ n ∧ n ≤ 9223372036854775807) : (numT n).size ≤ 21:=by
 have:=Lib.itoa_length_le n h.1 h.2
 show (Lib.itoa n).toArray.size ≤ 21
 simpa using this
theorem numT_small (i : Nat) : (⟨(Lib.decDigits i).toArray⟩ : ByteArray) = numT (i : Int):=by
 unfold numT Lib.itoa
 rw [if_neg (by omega),Int.toNat_natCast]
theorem cat_fits {a b : ByteArray} {m n : Nat} (ha : a.size ≤ m) (hb : b.size ≤ n) (h : m + n ≤ 9223372036854775807) : ¬ (9223372036854775807 < a.size + b.size):=by omega
def errT (n : Int) : ByteArray:=⟨#[101,114,114,111,114,32]⟩ ++ numT n
set_option maxRecDepth 100000 in
set_option maxHeartbeats 1000000 in
theorem errno_any (n : Nat) (hn : n < 100) (w : World) : Calls Tryz.prog 32 #[.int .i64 n] w fun e w' => e = .returned (.string (errT n)) ∧ w = w':=by
 have K:=Tryz.strconv_Itoa_small n hn
 rw [numT_small] at K
 have hs:=numT_size (n : Int) (by omega)
 have K:=Lib.hid K
 have hnot : ¬ (9223372036854775807 < (⟨#[101,114,114,111,114,32]⟩ : ByteArray).size + (numT (n : Int)).size):=cat_fits (m:=6) (Nat.le_refl _) hs (by omega)
 unfold errT
 generalize numT (n : Int) = s at *
 go_enter Tryz.func32,Tryz.ntmps32
 go_wp2_with fail
 refine (K.out _).mono ?_
 rintro e w' ⟨rfl,rfl⟩
 go_wp2_with fail
 go_ret
 exact ⟨rfl,rfl⟩
set_option maxRecDepth 100000 in
set_option maxHeartbeats 1000000 in
theorem fuint0_small (n : Nat) (hn : n < 100) (w : World) : Calls Tryz.prog 104 #[.int .u64 n,.int .i64 10] w fun e w' => e = .returned (.string (numT n)) ∧ w = w':=by
 have K:=Tryz.internal_strconv_small n hn
 rw [numT_small] at K
 have K:=Lib.hid K
 have hn' : (n : Int) < 100:=by omega
 generalize numT (n : Int) = s at *
 go_enter Tryz.func104,Tryz.ntmps104
 go_wp2_with fail
 refine (K.out _).mono ?_
 rintro e w' ⟨rfl,rfl⟩
 go_wp2_with fail
 go_ret
 exact ⟨rfl,rfl⟩
set_option maxRecDepth 100000 in
set_option maxHeartbeats 1000000 in
theorem fuint_small (n : Nat) (hn : n < 100) (w : World) : Calls Tryz.prog 58 #[.int .u64 n,.int .i64 10] w fun e w' => e = .returned (.string (numT n)) ∧ w = w':=by
 have K:=Lib.hid (fuint0_small n hn)
 generalize numT (n : Int) = s at *
 go_enter Tryz.func58,Tryz.ntmps58
 go_wp2_with fail
 refine (K.out _).mono ?_
 rintro e w' ⟨rfl,rfl⟩
 go_wp2_with fail
 go_ret
 exact ⟨rfl,rfl⟩
@[go_sem] theorem rep138_138 (v : Value) (w : World) : (Instr.typeAssert (.iface 138 v) 83 138 true).run Tryz.prog w = .ok (.tuple #[v,.bool true]) w:=by kernel_rfl
@[go_sem] theorem rep140_138 (v : Value) (w : World) : (Instr.typeAssert (.iface 140 v) 83 138 true).run Tryz.prog w = .ok (.tuple #[.agg #[],.bool false]) w:=by kernel_rfl
@[go_sem] theorem rep140_140 (v : Value) (w : World) : (Instr.typeAssert (.iface 140 v) 83 140 true).run Tryz.prog w = .ok (.tuple #[v,.bool true]) w:=by kernel_rfl
@[go_sem] theorem rep142_138 (v : Value) (w : World) : (Instr.typeAssert (.iface 142 v) 83 138 true).run Tryz.prog w = .ok (.tuple #[.agg #[],.bool false]) w:=by kernel_rfl
@[go_sem] theorem rep142_140 (v : Value) (w : World) : (Instr.typeAssert (.iface 142 v) 83 140 true).run Tryz.prog w = .ok (.tuple #[.agg #[.int .i64 0],.bool false]) w:=by kernel_rfl
@[go_sem] theorem rep142_142 (v : Value) (w : World) : (Instr.typeAssert (.iface 142 v) 83 142 true).run Tryz.prog w = .ok (.tuple #[v,.bool true]) w:=by kernel_rfl
@[go_sem] theorem rep145_138 (v : Value) (w : World) : (Instr.typeAssert (.iface 145 v) 83 138 true).run Tryz.prog w = .ok (.tuple #[.agg #[],.bool false]) w:=by kernel_rfl
@[go_sem] theorem rep145_140 (v : Value) (w : World) : (Instr.typeAssert (.iface 145 v) 83 140 true).run Tryz.prog w = .ok (.tuple #[.agg #[.int .i64 0],.bool false]) w:=by kernel_rfl
@[go_sem] theorem rep145_142 (v : Value) (w : World) : (Instr.typeAssert (.iface 145 v) 83 142 true).run Tryz.prog w = .ok (.tuple #[.agg #[.int .i64 0],.bool false]) w:=by kernel_rfl
@[go_sem] theorem rep145_145 (v : Value) (w : World) : (Instr.typeAssert (.iface 145 v) 83 145 true).run Tryz.prog w = .ok (.tuple #[v,.bool true]) w:=by kernel_rfl
@[go_sem] theorem rep150_138 (v : Value) (w : World) : (Instr.typeAssert (.iface 150 v) 83 138 true).run Tryz.prog w = .ok (.tuple #[.agg #[],.bool false]) w:=by kernel_rfl
@[go_sem] theorem rep150_140 (v : Value) (w : World) : (Instr.typeAssert (.iface 150 v) 83 140 true).run Tryz.prog w = .ok (.tuple #[.agg #[.int .i64 0],.bool false]) w:=by kernel_rfl
@[go_sem] theorem rep150_142 (v : Value) (w : World) : (Instr.typeAssert (.iface 150 v) 83 142 true).run Tryz.prog w = .ok (.tuple #[.agg #[.int .i64 0],.bool false]) w:=by kernel_rfl
@[go_sem] theorem rep150_145 (v : Value) (w : World) : (Instr.typeAssert (.iface 150 v) 83 145 true).run Tryz.prog w = .ok (.tuple #[.agg #[.int .u64 0],.bool false]) w:=by kernel_rfl
@[go_sem] theorem rep150_150 (v : Value) (w : World) : (Instr.typeAssert (.iface 150 v) 83 150 true).run Tryz.prog w = .ok (.tuple #[v,.bool true]) w:=by kernel_rfl
@[go_sem] theorem rep154_138 (v : Value) (w : World) : (Instr.typeAssert (.iface 154 v) 83 138 true).run Tryz.prog w = .ok (.tuple #[.agg #[],.bool false]) w:=by kernel_rfl
@[go_sem] theorem rep154_140 (v : Value) (w : World) : (Instr.typeAssert (.iface 154 v) 83 140 true).run Tryz.prog w = .ok (.tuple #[.agg #[.int .i64 0],.bool false]) w:=by kernel_rfl
@[go_sem] theorem rep154_142 (v : Value) (w : World) : (Instr.typeAssert (.iface 154 v) 83 142 true).run Tryz.prog w = .ok (.tuple #[.agg #[.int .i64 0],.bool false]) w:=by kernel_rfl
@[go_sem] theorem rep154_145 (v : Value) (w : World) : (Instr.typeAssert (.iface 154 v) 83 145 true).run Tryz.prog w = .ok (.tuple #[.agg #[.int .u64 0],.bool false]) w:=by kernel_rfl
@[go_sem] theorem rep154_150 (v : Value) (w : World) : (Instr.typeAssert (.iface 154 v) 83 150 true).run Tryz.prog w = .ok (.tuple #[.agg #[.int .i64 0,.int .u64 0],.bool false]) w:=by kernel_rfl
@[go_sem] theorem rep154_154 (v : Value) (w : World) : (Instr.typeAssert (.iface 154 v) 83 154 true).run Tryz.prog w = .ok (.tuple #[v,.bool true]) w:=by kernel_rfl
@[go_sem] theorem rep161_138 (v : Value) (w : World) : (Instr.typeAssert (.iface 161 v) 83 138 true).run Tryz.prog w = .ok (.tuple #[.agg #[],.bool false]) w:=by kernel_rfl
@[go_sem] theorem rep161_140 (v : Value) (w : World) : (Instr.typeAssert (.iface 161 v) 83 140 true).run Tryz.prog w = .ok (.tuple #[.agg #[.int .i64 0],.bool false]) w:=by kernel_rfl
@[go_sem] theorem rep161_142 (v : Value) (w : World) : (Instr.typeAssert (.iface 161 v) 83 142 true).run Tryz.prog w = .ok (.tuple #[.agg #[.int .i64 0],.bool false]) w:=by kernel_rfl
@[go_sem] theorem rep161_145 (v : Value) (w : World) : (Instr.typeAssert (.iface 161 v) 83 145 true).run Tryz.prog w = .ok (.tuple #[.agg #[.int .u64 0],.bool false]) w:=by kernel_rfl
@[go_sem] theorem rep161_150 (v : Value) (w : World) : (Instr.typeAssert (.iface 161 v) 83 150 true).run Tryz.prog w = .ok (.tuple #[.agg #[.int .i64 0,.int .u64 0],.bool false]) w:=by kernel_rfl
@[go_sem] theorem rep161_154 (v : Value) (w : World) : (Instr.typeAssert (.iface 161 v) 83 154 true).run Tryz.prog w = .ok (.tuple #[.agg #[.slice none 0 0],.bool false]) w:=by kernel_rfl
@[go_sem] theorem rep161_161 (v : Value) (w : World) : (Instr.typeAssert (.iface 161 v) 83 161 true).run Tryz.prog w = .ok (.tuple #[v,.bool true]) w:=by kernel_rfl
def bDone : ByteArray:=⟨#[100,111,110,101]⟩
def bHandle : ByteArray:=⟨#[104,97,110,100,108,101,32]⟩
def bNumber : ByteArray:=⟨#[110,117,109,98,101,114,32]⟩
def bKey : ByteArray:=⟨#[107,101,121,32]⟩
def bWide : ByteArray:=⟨#[119,105,100,101,32]⟩
set_option maxRecDepth 100000 in
set_option maxHeartbeats 1000000 in
theorem text_done (w : World) : Calls Tryz.prog 35 #[.iface 138 (.agg #[])] w fun e w' => e = .returned (.string bDone) ∧ Below w.heap.size w w':=by
 unfold bDone
 go_enter Tryz.func35,Tryz.ntmps35
 go_wp2_with fail
 go_ret
 exact ⟨rfl,((Below.refl _ _).alloc (Nat.le_refl _) _).alloc (by simp) _⟩
set_option maxRecDepth 100000 in
set_option maxHeartbeats 2000000 in
theorem text_handle (n : Nat) (hn : n < 100) (w : World) : Calls Tryz.prog 35 #[.iface 140 (.agg #[.int .i64 n])] w fun e w' => e = .returned (.string (bHandle ++ numT n)) ∧ Below w.heap.size w w':=by
 have hs:=numT_size (n : Int) (by omega)
 have hnot : ¬ (9223372036854775807 < bHandle.size + (numT (n : Int)).size):=cat_fits (m:=10) (by decide) hs (by omega)
 have K:=Tryz.strconv_Itoa_small n hn
 rw [numT_small] at K
 have K:=Lib.hid K
 unfold bHandle at *
 generalize numT (n : Int) = s at *
 go_enter Tryz.func35,Tryz.ntmps35
 go_wp2_with fail
 refine (K.out _).mono ?_
 rintro e w' ⟨rfl,rfl⟩
 go_wp2_with fail
 go_ret
 exact ⟨rfl,((Below.refl _ _).alloc (Nat.le_refl _) _).alloc (by simp) _⟩
set_option maxRecDepth 100000 in
set_option maxHeartbeats 2000000 in
theorem text_key (n : Nat) (hn : n < 100) (w : World) : Calls Tryz.prog 35 #[.iface 145 (.agg #[.int .u64 n])] w fun e w' => e = .returned (.string (bKey ++ numT n)) ∧ Below w.heap.size w w':=by
 have hs:=numT_size (n : Int) (by omega)
 have hnot : ¬ (9223372036854775807 < bKey.size + (numT (n : Int)).size):=cat_fits (m:=10) (by decide) hs (by omega)
 have K:=Lib.hid (fuint_small n hn)
 unfold bKey at *
 generalize numT (n : Int) = s at *
 go_enter Tryz.func35,Tryz.ntmps35
 go_wp2_with fail
 refine (K.out _).mono ?_
 rintro e w' ⟨rfl,rfl⟩
 go_wp2_with fail
 go_ret
 exact ⟨rfl,((Below.refl _ _).alloc (Nat.le_refl _) _).alloc (by simp) _⟩
set_option maxRecDepth 100000 in
set_option maxHeartbeats 2000000 in
theorem text_number (n : Int) (hn : -9223372036854775808 ≤ n ∧ n ≤ 9223372036854775807) (w : World) (hT : S25.Tabs w) : Calls Tryz.prog 35 #[.iface 142 (.agg #[.int .i64 n])] w fun e w' => e = .returned (.string (bNumber ++ numT n)) ∧ Below w.heap.size w w':=by
 have hs:=numT_size n hn
 have hnot : ¬ (9223372036854775807 < bNumber.size + (numT (n : Int)).size):=cat_fits (m:=10) (by decide) hs (by omega)
 have KT:=Lib.hid (fun w' (hb : Below w.heap.size w w') => Tryz.strconv_FormatInt_10 n hn.1 hn.2 w' (hT.below hb).pow)
 rw [show (⟨(Lib.itoa n).toArray⟩ : ByteArray) = numT n from rfl] at KT
 unfold bNumber at *
 generalize numT (n : Int) = s at *
 go_enter Tryz.func35,Tryz.ntmps35
 go_wp2_with fail
 refine (KT.out _ (((Below.refl _ _).alloc (Nat.le_refl _) _).alloc (by simp) _)).mono ?_
 rintro e w' ⟨rfl,k,os,rfl⟩
 go_wp2_with fail
 go_ret
 exact ⟨rfl,(((Below.refl _ _).alloc (Nat.le_refl _) _).alloc (by simp) _).trans ((S25.below_grow _ _ _).mono (by simp; omega))⟩
end Go.Proofs.YtejaocnhekjfiaaGreatDoor
namespace Go.Proofs.YtejaocnhekjfiaaGreatDoor
open Go.RowKit
set_option linter.unusedVariables false
theorem digs_rev (n : Nat) : (S02.digs n).reverse.map (fun x => UInt8.ofNat x.toNat) = Lib.decDigits n:=by
 induction n using Lib.decDigits.induct with
 | case1 n h =>
   rw [S02.digs,if_pos h,Lib.decDigits,dif_pos h]
   simp only [List.reverse_singleton,List.map_cons,List.map_nil]
   congr 2
 | case2 n h ih =>
   rw [S02.digs,if_neg h,Lib.decDigits,dif_neg h,List.reverse_cons,List.map_append,ih]
   congr 1
theorem textV_eq (v : Int) : S02.textV v = .string (numT v):=by
 unfold S02.textV S02.textRev numT strOfNums Lib.itoa
 congr 2
 congr 1
 by_cases h : v < 0
 · rw [if_pos h,if_pos h,List.reverse_append,List.map_append,digs_rev]; rfl
 · rw [if_neg h,if_neg h,List.append_nil,digs_rev]
   congr 1; omega
theorem nDigits_le (k : Nat) : ∀ u,u < 10 ^ (k + 1) → Lib.nDigits u ≤ k + 1:=by
 induction k with
 | zero => intro u h; rw [Lib.nDigits_small (by simpa using h)]; exact Nat.le_refl _
 | succ k ih =>
   intro u h
   by_cases hu : u < 10
   · rw [Lib.nDigits_small hu]; omega
   · rw [Lib.nDigits_big hu]
     have:=ih (u / 10) (by rw [Nat.pow_succ] at h; omega)
     omega
theorem numT_size40 (v : Int) (h : S02.Fits v) : (numT v).size ≤ 41:=by
 have hv : v.natAbs < 10 ^ (39 + 1):=by unfold S02.Fits at h; omega
 have hd:=nDigits_le 39 v.natAbs hv
 unfold numT Lib.itoa
 by_cases hn : v < 0
 · rw [if_pos hn]
   show (45 :: Lib.decDigits v.natAbs).toArray.size ≤ 41
   simp [Lib.decDigits_length]; omega
 · rw [if_neg hn]
   show (Lib.decDigits v.toNat).toArray.size ≤ 41
   rw [show v.toNat = v.natAbs by omega]
   simp [Lib.decDigits_length]; omega
set_option maxRecDepth 100000 in
set_option maxHeartbeats 2000000 in
theorem text_wide (v : Int) (w : World) (hv : S02.Fits v) : Calls Tryz.prog 35 #[.iface 150 (.agg #[.int .i64 (S02.hiOf v),.int .u64 (S02.loOf v)])] w fun e w' => e = .returned (.string (bWide ++ numT v)) ∧ Below w.heap.size w w':=by
 have hs:=numT_size40 v hv
 have hnot : ¬ (9223372036854775807 < bWide.size + (numT v).size):=cat_fits (m:=10) (by decide) hs (by omega)
 have K:=fun w => S02.text_any v w hv
 simp only [textV_eq,S02.W] at K
 have K:=Lib.hid K
 unfold bWide at *
 generalize numT v = s at *
 generalize S02.hiOf v = hh at *
 generalize S02.loOf v = ll at *
 go_enter Tryz.func35,Tryz.ntmps35
 go_wp2_with fail
 refine (K.out _).mono ?_
 rintro e w1 ⟨rfl,hb⟩
 have HB:=Lib.hid hb
 clear hb
 go_wp2_with fail
 go_ret
 exact ⟨rfl,(((Below.refl _ _).alloc (Nat.le_refl _) _).alloc (by simp) _).trans (HB.out.mono (by simp; omega))⟩
end Go.Proofs.YtejaocnhekjfiaaGreatDoor
namespace Go.Proofs.YtejaocnhekjfiaaGreatDoor.S21
open Go.RowKit
set_option linter.unusedVariables false
end Go.Proofs.YtejaocnhekjfiaaGreatDoor.S21
namespace Go.Proofs.YtejaocnhekjfiaaGreatDoor.Crc
def poly : BitVec 32:=0xEDB88320#32
def bit (r : BitVec 32) : BitVec 32:=(r >>> 1) ^^^ (if r.getLsbD 0 then poly else 0#32)
def bits8 (r : BitVec 32) : BitVec 32:=bit (bit (bit (bit (bit (bit (bit (bit r)))))))
def unbit (r : BitVec 32) : BitVec 32:=if r.msb then ((r ^^^ poly) <<< 1) ||| 1#32 else r <<< 1
def unbits8 (r : BitVec 32) : BitVec 32:=unbit (unbit (unbit (unbit (unbit (unbit (unbit (unbit r)))))))
def tab (n : BitVec 8) : BitVec 32:=bits8 (n.setWidth 32)
def step (r : BitVec 32) (x : BitVec 8) : BitVec 32:=(r >>> 8) ^^^ tab (r.setWidth 8 ^^^ x)
def top (r : BitVec 32) : BitVec 8:=(r >>> 24).setWidth 8
theorem bit_xor (a b : BitVec 32) : bit (a ^^^ b) = bit a ^^^ bit b:=by
 unfold bit
 rw [BitVec.getLsbD_xor,BitVec.ushiftRight_xor_distrib]
 generalize a >>> 1 = x
 generalize b >>> 1 = y
 generalize poly = p
 cases a.getLsbD 0 <;> cases b.getLsbD 0
 · simp
 · simp [BitVec.xor_assoc]
 · simp [BitVec.xor_assoc,BitVec.xor_comm y p]
 · simp [BitVec.xor_assoc]
   rw [BitVec.xor_comm y p,← BitVec.xor_assoc p p y]; simp
theorem bits8_xor (a b : BitVec 32) : bits8 (a ^^^ b) = bits8 a ^^^ bits8 b:=by
 unfold bits8; simp only [bit_xor]
theorem unbit_bit (r : BitVec 32) : unbit (bit r) = r:=by
 unfold unbit bit
 have hp : poly.msb = true:=by decide
 have h : ((r >>> 1) ^^^ (if r.getLsbD 0 then poly else 0#32)).msb = r.getLsbD 0:=by
   rw [BitVec.msb_xor]
   cases r.getLsbD 0 <;> simp [hp,BitVec.msb_ushiftRight]
 rw [h]
 cases h0 : r.getLsbD 0
 · simp
   ext i hi
   simp
   rcases i with _ | i
   · simpa using h0
   · simp [Nat.add_comm 1 i,BitVec.getLsbD_eq_getElem hi]
 · simp [BitVec.xor_assoc]
   ext i hi
   rcases i with _ | i
   · simpa using h0
   · simp [Nat.add_comm 1 i,BitVec.getLsbD_eq_getElem hi]
theorem unbits8_bits8 (r : BitVec 32) : unbits8 (bits8 r) = r:=by unfold unbits8 bits8; simp only [unbit_bit]
theorem bits8_inj {a b : BitVec 32} (h : bits8 a = bits8 b) : a = b:=by rw [← unbits8_bits8 a,h,unbits8_bits8]
theorem bits8_zero : bits8 0#32 = 0#32:=by decide
theorem bit_even (r : BitVec 32) (h : r.getLsbD 0 = false) : bit r = r >>> 1:=by unfold bit; rw [h]; simp
theorem bits8_even (r : BitVec 32) (h : r.setWidth 8 = 0#8) : bits8 r = r >>> 8:=by
 have hb : ∀ i,i < 8 → r.getLsbD i = false:=fun i hi => by
   have:=congrArg (fun x => x.getLsbD i) h
   simp [hi] at this
   exact this
 have key : ∀ k,k < 8 → bit (r >>> k) = r >>> (k + 1):=fun k hk => by
   rw [bit_even _ (by simp [hb k hk]),BitVec.shiftRight_add]
 unfold bits8
 have h0 : bit r = r >>> 1:=bit_even _ (hb 0 (by omega))
 rw [h0,key 1 (by omega),key 2 (by omega),key 3 (by omega),key 4 (by omega),key 5 (by omega),key 6 (by omega),key 7 (by omega)]
theorem step_eq (r : BitVec 32) (x : BitVec 8) : step r x = bits8 (r ^^^ x.setWidth 32):=by
 have e : r ^^^ x.setWidth 32 = ((r >>> 8) <<< 8) ^^^ ((r.setWidth 8 ^^^ x).setWidth 32):=by
   ext i hi
   simp
   by_cases h : i < 8
   · simp [h,BitVec.getLsbD_eq_getElem hi]
   · have : 8 + (i - 8) = i:=by omega
     simp [h,this,BitVec.getLsbD_eq_getElem hi]
 rw [e,bits8_xor,bits8_even]
 · unfold step tab
   congr 1
   ext i hi
   simp
   intro h1
   exact BitVec.lt_of_getLsbD h1
 · ext i hi; simp
theorem step_inj {a b : BitVec 32} {x : BitVec 8} (h : step a x = step b x) : a = b:=by
 rw [step_eq,step_eq] at h
 have h:=bits8_inj h
 have h':=congrArg (· ^^^ x.setWidth 32) h
 simpa [BitVec.xor_assoc] using h'
def ext (r : BitVec 32) (l : List (BitVec 8)) : BitVec 32:=l.foldl step r
def extend (s : BitVec 32) (l : List (BitVec 8)) : BitVec 32 := ~~~ ext (~~~ s) l
theorem ext_append (r : BitVec 32) (a b : List (BitVec 8)) : ext r (a ++ b) = ext (ext r a) b:=by unfold ext; rw [List.foldl_append]
theorem step_xor (a b : BitVec 32) (x y : BitVec 8) : step (a ^^^ b) (x ^^^ y) = step a x ^^^ step b y:=by
 rw [step_eq,step_eq,step_eq,← bits8_xor]
 congr 1
 rw [BitVec.setWidth_xor]
 ac_rfl
theorem ext_xor (a b : BitVec 32) (l m : List (BitVec 8)) (h : l.length = m.length) : ext (a ^^^ b) (List.zipWith (· ^^^ ·) l m) = ext a l ^^^ ext b m:=by
 induction l generalizing a b m with
 | nil => cases m <;> simp_all [ext]
 | cons x l ih =>
   cases m with
   | nil => simp at h
   | cons y m =>
     simp at h
     show ext (step (a ^^^ b) (x ^^^ y)) _ = ext (step a x) l ^^^ ext (step b y) m
     rw [step_xor,ih _ _ _ h]
theorem ext_zeros_inj (r : BitVec 32) (n : Nat) (h : ext r (List.replicate n 0#8) = 0#32) : r = 0#32:=by
 induction n generalizing r with
 | zero => exact h
 | succ n ih =>
   have:=ih _ h
   have h0 : step 0#32 0#8 = 0#32:=by decide
   exact step_inj (this.trans h0.symm)
def four (x : BitVec 32) : List (BitVec 8):=[x.setWidth 8,(x >>> 8).setWidth 8,(x >>> 16).setWidth 8,(x >>> 24).setWidth 8]
theorem bits8_split (y : BitVec 32) : bits8 y = (y >>> 8) ^^^ bits8 ((y.setWidth 8).setWidth 32):=by
 have:=step_eq y 0#8
 simp [step,tab] at this
 exact this.symm
theorem ext_four (x : BitVec 32) (h : ext 0#32 (four x) = 0#32) : x = 0#32:=by
 have h0 : ext 0#32 (four x) = bits8 (bits8 (bits8 (bits8 x))):=by
   show step (step (step (step 0#32 _) _) _) _ = _
   rw [step_eq,step_eq,step_eq,step_eq]
   simp only [bits8_xor,BitVec.zero_xor]
   have k : ∀ y : BitVec 32,bits8 ((y.setWidth 8).setWidth 32) = bits8 y ^^^ (y >>> 8):=fun y => by
     rw [bits8_split y]; generalize bits8 ((y.setWidth 8).setWidth 32) = p; generalize y >>> 8 = q
     ext i hi; simp; (cases p[i] <;> cases q[i] <;> rfl)
   have e1 : ∀ y : BitVec 32,(y >>> 8) >>> 8 = y >>> 16:=fun y => by rw [← BitVec.shiftRight_add]
   have e2 : ∀ y : BitVec 32,(y >>> 16) >>> 8 = y >>> 24:=fun y => by rw [← BitVec.shiftRight_add]
   have e3 : ∀ y : BitVec 32,(y >>> 24) >>> 8 = 0#32:=fun y => by rw [← BitVec.shiftRight_add]; ext i hi; simp
   rw [k,k,k,k,e1,e2,e3]
   simp only [bits8_xor]
   generalize bits8 (bits8 (bits8 (bits8 x))) = p1
   generalize bits8 (bits8 (bits8 (x >>> 8))) = p2
   generalize bits8 (bits8 (x >>> 16)) = p3
   generalize bits8 (x >>> 24) = p4
   ext i hi; simp
 rw [h0] at h
 have z:=bits8_zero
 exact bits8_inj ((bits8_inj ((bits8_inj ((bits8_inj (h.trans z.symm)).trans z.symm)).trans z.symm)).trans z.symm)
theorem near (p m q : List (BitVec 8)) (x : BitVec 32) (hm : m.length = 4)
   (h : extend 0#32 (p ++ List.zipWith (· ^^^ ·) m (four x) ++ q) = extend 0#32 (p ++ m ++ q)) : x = 0#32:=by
 unfold extend at h
 have h:=BitVec.not_inj.1 h
 have hz : ∀ l : List (BitVec 8),List.zipWith (· ^^^ ·) l (List.replicate l.length 0#8) = l:=by
   intro l; induction l with
   | nil => rfl
   | cons a l ih => simp [List.replicate_succ,ih]
 rw [ext_append,ext_append,ext_append,ext_append] at h
 generalize ext (~~~ 0#32) p = r at h
 have e : ext r (List.zipWith (· ^^^ ·) m (four x)) = ext r m ^^^ ext 0#32 (four x):=by
   have:=ext_xor r 0#32 m (four x) (by simp [hm,four])
   simpa using this
 have e2 : ext (ext r m ^^^ ext 0#32 (four x)) q = ext (ext r m) q ^^^ ext (ext 0#32 (four x)) (List.replicate q.length 0#8):=by
   have:=ext_xor (ext r m) (ext 0#32 (four x)) q (List.replicate q.length 0#8) (by simp)
   rwa [hz] at this
 rw [e,e2] at h
 apply ext_four
 apply ext_zeros_inj _ q.length
 have h':=congrArg (ext (ext r m) q ^^^ ·) h
 simpa [← BitVec.xor_assoc] using h'
end Go.Proofs.YtejaocnhekjfiaaGreatDoor.Crc
namespace Go.Proofs.YtejaocnhekjfiaaGreatDoor.S22
open Go.RowKit
set_option linter.unusedVariables false
def u32v (r : BitVec 32) : Value:=.int .u32 (r.toNat : Int)
def tabCell (k i : Nat) : Value:=if i < k then u32v (Crc.tab (BitVec.ofNat 8 i)) else .int .u32 0
def tabArr (k : Nat) : Array Value:=((List.range 256).map (tabCell k)).toArray
theorem tabArr_size (k : Nat) : (tabArr k).size = 256:=by simp [tabArr]
theorem tabArr_get (k i : Nat) (h : i < 256) : (tabArr k)[i]? = some (tabCell k i):=by
 simp [tabArr,h]
theorem tabArr_set (k : Nat) (h : k < 256) : (tabArr k).setIfInBounds k (u32v (Crc.tab (BitVec.ofNat 8 k))) = tabArr (k + 1):=by
 apply Array.ext_getElem?
 intro i
 by_cases hi : i < 256
 · rw [Array.getElem?_setIfInBounds,tabArr_get _ _ hi,tabArr_get _ _ hi,tabArr_size]
   unfold tabCell
   by_cases hk : k = i
   · subst hk; simp [h]
   · simp [hk]
     by_cases h1 : i < k
     · simp [h1,show i < k + 1 by omega]
     · simp [h1,show ¬ i < k + 1 by omega]
 · rw [Array.getElem?_eq_none (by simp [tabArr_size]; omega),Array.getElem?_eq_none (by simp [tabArr_size]; omega)]
theorem zero32 (w : World) : (zeroValue 332).run Tryz.prog w = .ok (.agg (tabArr 0)) w:=by kernel_rfl
def bitN : Nat → BitVec 32 → BitVec 32
 | 0,r => r
 | n + 1,r => Crc.bit (bitN n r)
theorem tabArr_one (k : Nat) : (tabArr k).all (·.oneCell') = true:=by
 rw [Array.all_eq_true_iff_forall_mem]
 intro v hv
 simp [tabArr] at hv
 obtain ⟨i,_,rfl⟩:=hv
 unfold tabCell u32v; split <;> rfl
attribute [irreducible] tabArr
theorem bit_num (r : BitVec 32) : bits BinOp.xor IntKind.u32 ((r.toNat : Int) / 2) (3988292384 * bits BinOp.and IntKind.u32 (r.toNat : Int) 1 % 4294967296) = ((Crc.bit r).toNat : Int):=by
 have hr:=r.isLt
 have e1 : bits BinOp.and IntKind.u32 (r.toNat : Int) 1 = ((r.toNat % 2 : Nat) : Int):=by
   have:=u32_and_nat r.toNat 1 (by omega) (by omega)
   rw [Nat.and_one_is_mod] at this
   exact this
 rw [e1]
 have e2 : (3988292384 * ((r.toNat % 2 : Nat) : Int) % 4294967296) = ((3988292384 * (r.toNat % 2) : Nat) : Int):=by
   rcases Nat.mod_two_eq_zero_or_one r.toNat with h | h <;> rw [h] <;> rfl
 rw [e2]
 have e3 : ((r.toNat : Int) / 2) = ((r.toNat / 2 : Nat) : Int):=by omega
 rw [e3,u32_xor_nat _ _ (by omega) (by rcases Nat.mod_two_eq_zero_or_one r.toNat with h | h <;> rw [h] <;> omega)]
 congr 1
 unfold Crc.bit
 rw [BitVec.toNat_xor,BitVec.toNat_ushiftRight,Nat.shiftRight_eq_div_pow]
 congr 1
 have hb : r.getLsbD 0 = decide (r.toNat % 2 = 1):=by simp [BitVec.getLsbD,Nat.testBit_zero]
 rw [hb]
 rcases Nat.mod_two_eq_zero_or_one r.toNat with h | h <;> simp [h,Crc.poly]
theorem bitN8 (k : Nat) (h : k < 256) : bitN 8 (BitVec.ofNat 32 k) = Crc.tab (BitVec.ofNat 8 k):=by
 have : (BitVec.ofNat 8 k).setWidth 32 = BitVec.ofNat 32 k:=by
   apply BitVec.eq_of_toNat_eq
   simp; omega
 unfold Crc.tab; rw [this]; rfl
end Go.Proofs.YtejaocnhekjfiaaGreatDoor.S22
namespace Go.Proofs.YtejaocnhekjfiaaGreatDoor.S22
open Go.RowKit
set_option linter.unusedVariables false
theorem info32 : (Tryz.prog.info? 332).map (·.size) = some 256:=by kernel_rfl
set_option maxRecDepth 100000 in
set_option maxHeartbeats 400000 in
theorem steps_any (w : World) : Calls Tryz.prog 195 #[] w fun e w' => e = .returned (.agg (tabArr 256)) ∧ Below w.heap.size w w':=by
 have hz:=zero32
 go_enter Tryz.func195,Tryz.ntmps195
 go_wp2
 have hB:=heap_alloc_new w (.cells (tabArr 0) 332)
 have hb0 : Below w.heap.size w (w.alloc (.cells (tabArr 0) 332)):=(Below.refl _ _).alloc (Nat.le_refl _) _
 clear hz
 generalize w.alloc (.cells (tabArr 0) 332) = w0 at *
 go_loopw [3] (fun n wr => ∃ k : Nat,k ≤ 256 ∧ n = .int .i64 k ∧ wr.heap[w.heap.size]? = some (.cells (tabArr k) 332 (0,0)) ∧ Below w.heap.size w wr) (fun n _ => 256 - (intOf n).toNat)
 case atStart => exact ⟨0,by omega,rfl,hB,hb0⟩
 case round =>
   obtain ⟨k,hk,rfl,hB',hb'⟩:=hrel
   clear hB hb0
   generalize hBe : w.heap.size = B at *
   have HBe:=Lib.hid hBe; clear hBe
   have HB:=Lib.hid hB'; clear hB'
   by_cases hlt : k < 256
   · go_wp2
     go_loop [2,8] (fun r j => ∃ i : Nat,i ≤ 8 ∧ j = .int .i64 i ∧ r = u32v (bitN i (BitVec.ofNat 32 k))) (fun _ j => 8 - (intOf j).toNat)
     case atStart => exact ⟨0,by omega,rfl,by simp [bitN,u32v]; omega⟩
     case round =>
       obtain ⟨i,hi,rfl,hr⟩:=hrel
       generalize hR : bitN i (BitVec.ofNat 32 k) = R at hr
       have HR:=Lib.hid hR; clear hR
       subst hr
       have hRlt:=R.isLt
       unfold u32v
       by_cases hi8 : i < 8
       · go_wp2
         go_round
         case rel => exact ⟨i + 1,by omega,by go_num,by rw [bit_num]; unfold bitN; rw [HR.out]⟩
         case measure => simp [intOf]; omega
       · have hc : wr.cell? ⟨B,k,none⟩ = some (tabCell k k):=by rw [cell_of_row _ _ _ _ _ _ HB.out,tabArr_get _ _ hlt]
         have hf : wr.frozen? ⟨B,k,none⟩ = false:=frozen_of_row _ _ _ _ _ HB.out
         go_wp2
         go_roundw
         case rel =>
           refine ⟨k + 1,by omega,by go_num,?_,hb'.setCell (Nat.le_refl _) _⟩
           rw [heap_setCell_same _ _ _ _ _ _ HB.out]
           have:=tabArr_set k hlt
           rw [← bitN8 k hlt] at this
           have e : i = 8:=by omega
           subst e
           rw [HR.out] at this
           rw [← this]; rfl
         case measure => simp [intOf]; omega
   · obtain rfl : k = 256:=by omega
     go_wp2_with (first | (refine wpList_load_row rfl 332 (.tmp 0) rfl B rfl 332 _ _ _ HB.out Tryz.underlying332 rfl (by rw [tabArr_size]; exact info32) ?_) | (refine wpList_store_row rfl 332 (.tmp 0) (.tmp 21) rfl B (tabArr 256) rfl rfl 332 _ HB.out (by rw [tabArr_size]; exact info32) rfl (tabArr_one 256) ?_; rw [setRow_self _ _ _ _ _ HB.out]))
     refine bodyPost_ret (v:=.agg (tabArr 256)) (results_cell_row rfl _ _ B 332 _ _ _ rfl HB.out Tryz.underlying332 rfl (by rw [tabArr_size]; exact info32)) rfl ⟨rfl,by rw [HBe.out]; exact hb'⟩
end Go.Proofs.YtejaocnhekjfiaaGreatDoor.S22
namespace Go.Proofs.YtejaocnhekjfiaaGreatDoor.S22
open Go.RowKit
set_option linter.unusedVariables false
theorem low_num (r : BitVec 32) (x : BitVec 8) : bits BinOp.xor IntKind.u8 ((r.toNat : Int) % 256) (x.toNat : Int) = ((r.setWidth 8 ^^^ x).toNat : Int):=by
 have hx:=x.isLt
 have e : ((r.toNat : Int) % 256) = ((r.setWidth 8).toNat : Int):=by simp
 rw [e,u8_xor_nat _ _ (r.setWidth 8).isLt hx,BitVec.toNat_xor]
theorem xor32_num (a b : BitVec 32) : bits BinOp.xor IntKind.u32 (a.toNat : Int) (b.toNat : Int) = ((a ^^^ b).toNat : Int):=by
 rw [u32_xor_nat _ _ a.isLt b.isLt,BitVec.toNat_xor]
theorem shr8_num (r : BitVec 32) : ((r.toNat : Int) / (256 : Int)) = ((r >>> 8).toNat : Int):=by
 rw [BitVec.toNat_ushiftRight,Nat.shiftRight_eq_div_pow]; omega
theorem tab_cell {w : World} {b : Nat} (h : w.heap[b]? = some (.cells (tabArr 256) 332 (0,0))) (y : BitVec 8) : w.cell? ⟨b,y.toNat,none⟩ = some (.int .u32 ((Crc.tab y).toNat : Int)):=by
 have hy:=y.isLt
 rw [cell_of_row _ _ _ _ _ _ h,tabArr_get _ _ hy]
 unfold tabCell
 simp [hy,u32v]
set_option maxRecDepth 100000 in
set_option maxHeartbeats 400000 in
theorem clos_any (x : BitVec 8) (r : BitVec 32) (br bt : Nat) (w : World) (hbr : w.heap[br]? = some (.cells #[u32v r] 209 (0,0))) (hbt : w.heap[bt]? = some (.cells (tabArr 256) 332 (0,0))) :
   Calls Tryz.prog 196 #[.int .u8 (x.toNat : Int),.pointer (some ⟨br,0,none⟩),.pointer (some ⟨bt,0,none⟩)] w fun e w' =>
     e = .returned (.tuple #[]) ∧ w'.heap[br]? = some (.cells #[u32v (Crc.step r x)] 209 (0,0)) ∧ Only br w w':=by
 have hx:=x.isLt
 have hr:=r.isLt
 have c1 : w.cell? ⟨br,0,none⟩ = some (.int .u32 (r.toNat : Int)):=cell_of_one hbr
 have f1:=free_of_one hbr
 have HR:=Lib.hid hbr; clear hbr
 have k1:=low_num r x
 have k2:=shr8_num r
 have hs : Crc.step r x = (r >>> 8) ^^^ Crc.tab (r.setWidth 8 ^^^ x):=rfl
 have HS:=Lib.hid hs; clear hs
 generalize r.setWidth 8 ^^^ x = y at *
 have hy:=y.isLt
 have c2:=tab_cell hbt y
 have k3:=xor32_num (r >>> 8) (Crc.tab y)
 generalize Crc.tab y = t at *
 generalize r >>> 8 = q at *
 go_enter Tryz.func196,Tryz.ntmps196
 go_wp2
 go_region
 all_goals go_wp2
 all_goals go_end0
 all_goals
   refine ⟨rfl,?_,(Only.store _ _ _ _).drew⟩
   show (w.setCell ⟨br,0,none⟩ _).heap[br]? = _
   rw [heap_setCell_same _ _ _ _ _ _ HR.out,HS.out]
   simp [u32v]
end Go.Proofs.YtejaocnhekjfiaaGreatDoor.S22
namespace Go.Proofs.YtejaocnhekjfiaaGreatDoor.S22
open Go.RowKit
set_option linter.unusedVariables false
def Bytes (w : World) (a : Option Addr) (len : Nat) (l : List (BitVec 8)) : Prop:=
 l.length = len ∧ len ≤ 140737488351232 ∧ ∀ i x,l[i]? = some x → ∃ b o,a = some ⟨b,o,none⟩ ∧ w.cell? ⟨b,o + i,none⟩ = some (.int .u8 (x.toNat : Int)) ∧ b < w.heap.size
def u8v (x : BitVec 8) : Value:=.int .u8 (x.toNat : Int)
theorem not32_num (r : BitVec 32) : bits BinOp.xor IntKind.u32 IntKind.u32.max (r.toNat : Int) = ((~~~ r).toNat : Int):=by
 have h:=xor32_num (BitVec.allOnes 32) r
 have e : BitVec.allOnes 32 ^^^ r = ~~~ r:=by rw [BitVec.allOnes_xor]
 rw [e] at h
 exact h
set_option maxRecDepth 100000 in
set_option maxHeartbeats 1000000 in
theorem extend_any (s : BitVec 32) (a : Option Addr) (len cap : Nat) (l : List (BitVec 8)) (w : World) (hl : Bytes w a len l) :
   Calls Tryz.prog 147 #[.int .u32 (s.toNat : Int),.slice a len cap] w fun e w' => e = .returned (.int .u32 ((Crc.extend s l).toNat : Int)) ∧ Below w.heap.size w w':=by
 have hs:=s.isLt
 have hz:=zero32
 have kn:=not32_num s
 have hx0 : Crc.ext (~~~ s) (l.take 0) = ~~~ s:=rfl
 have HX:=Lib.hid hx0; clear hx0
 have hfin : Crc.extend s l = ~~~ Crc.ext (~~~ s) l:=rfl
 have HF:=Lib.hid hfin; clear hfin
 generalize ~~~ s = ns at *
 go_enter Tryz.func147,Tryz.ntmps147
 go_wp2_with (first | (go_at_call 195; refine (steps_any _).mono ?_; rintro e w1 ⟨rfl,hb1⟩) | (refine wpList_store_row rfl 332 (.tmp 5) (.tmp 10) rfl w1.heap.size (tabArr 256) rfl rfl 332 (tabArr 0) (heap_alloc_new w1 _) (by rw [tabArr_size]; exact info32) (by rw [tabArr_size,tabArr_size]) (tabArr_one 256) ?_; rw [World.setRow_alloc_new]))
 clear hz
 have hbe : Below w.heap.size w ((w1.alloc (.cells (tabArr 256) 332)).alloc (.cells #[.int .u32 (ns.toNat : Int)] 209)):=
   (hb1.alloc hb1.size _).alloc (by have:=hb1.size; simp; omega) _
 have hA:=heap_alloc2_old w1 (.cells (tabArr 256) 332) (.cells #[.int .u32 (ns.toNat : Int)] 209)
 have hB:=heap_alloc2_new w1 (.cells (tabArr 256) 332) (.cells #[.int .u32 (ns.toNat : Int)] 209)
 have hsz:=hb1.size
 clear hb1
 generalize (w1.alloc (.cells (tabArr 256) 332)).alloc (.cells #[.int .u32 (ns.toNat : Int)] 209) = w2 at *
 generalize w1.heap.size = B at *
 obtain ⟨hlen,hmx,hcell⟩:=hl
 have HL:=Lib.hid hlen; clear hlen
 have HC:=Lib.hid hcell; clear hcell
 have HA:=Lib.hid hA; clear hA
 have HB:=Lib.hid hB; clear hB
 clear kn hs
 go_loopw [16] (fun i wr => ∃ k : Nat,k ≤ len ∧ i = .int .i64 k ∧ wr.heap[B + 1]? = some (.cells #[u32v (Crc.ext ns (l.take k))] 209 (0,0)) ∧ wr.heap[B]? = some (.cells (tabArr 256) 332 (0,0)) ∧ Below w.heap.size w wr) (fun i _ => len - (intOf i).toNat)
 case atStart => exact ⟨0,by omega,rfl,by rw [HX.out]; exact HB.out,HA.out,hbe⟩
 case round =>
   obtain ⟨k,hk,rfl,hB',hA',hb'⟩:=hrel
   clear HA HB hbe
   have HA:=Lib.hid hA'
   have HB:=Lib.hid hB'
   clear hA' hB'
   by_cases hlt : k < len
   · obtain ⟨x,hx⟩ : ∃ x,l[k]? = some x:=⟨l[k]'(by rw [HL.out]; exact hlt),by rw [List.getElem?_eq_getElem]⟩
     obtain ⟨b,o,rfl,hc,hbl⟩:=HC.out k x hx
     have hc' : wr.cell? ⟨b,o + k,none⟩ = some (.int .u8 (x.toNat : Int)):=by rw [hb'.cell hbl]; exact hc
     have hstep : Crc.ext ns (l.take (k + 1)) = Crc.step (Crc.ext ns (l.take k)) x:=by
       rw [List.take_add_one,hx]; simp [Crc.ext]
     have HS:=Lib.hid hstep
     have HX:=Lib.hid hx
     clear hstep hx hc
     generalize Crc.ext ns (l.take k) = r at *
     have hxl:=x.isLt
     go_wp2_with (go_at_call 196; refine (clos_any x r (B + 1) B _ HB.out HA.out).mono ?_; rintro e w3 ⟨rfl,hB3,ho3⟩; have HB3:=Lib.hid hB3; clear hB3; have HO:=Lib.hid ho3.block)
     go_roundw
     case rel => exact ⟨k + 1,by omega,by go_num,by rw [HS.out]; exact HB3.out,by rw [HO.out B (by omega)]; exact HA.out,hb'.trans (ho3.below (by omega))⟩
     case measure => simp [intOf]; omega
   · obtain rfl : k = len:=by omega
     have hr : Crc.ext ns (l.take k) = Crc.ext ns l:=by rw [List.take_of_length_le (by rw [HL.out]; exact Nat.le_refl _)]
     have HR:=Lib.hid hr; clear hr
     generalize Crc.ext ns (l.take k) = r at *
     have hc : wr.cell? ⟨B + 1,0,none⟩ = some (.int .u32 (r.toNat : Int)):=cell_of_one HB.out
     have kn:=not32_num r
     have hf2:=HF.out
     rw [← HR.out] at hf2
     have HF2:=Lib.hid hf2; clear hf2 HF
     generalize ~~~ r = q at *
     go_wp2
     go_ret
     refine ⟨?_,hb'⟩
     rw [HF2.out]; rfl
end Go.Proofs.YtejaocnhekjfiaaGreatDoor.S22
namespace Go.Proofs.YtejaocnhekjfiaaGreatDoor
open Go.RowKit
set_option linter.unusedVariables false
def hexD (x : Nat) : Nat:=if x < 10 then 48 + x else 87 + x
def hexB (xs : List Nat) : List Value:=xs.flatMap fun x => [.int .u8 (hexD (x / 16)),.int .u8 (hexD (x % 16))]
theorem IsBuilder.keep {B b : Nat} {bs : List Value} {w w' : World} (h : Lib.IsBuilder 137 5 B b bs w) (hb : Below w.heap.size w w') : Lib.IsBuilder 137 5 B b bs w':=by
 rcases h with ⟨h1,v,h2,h3,h4⟩ | ⟨h1,v,h2,h3,h4⟩
 · exact .inl ⟨h1,v,(hb.block b (lt_of_block h2)).trans h2,S02.own_below h3 hb,h4⟩
 · exact .inr ⟨h1,v,(hb.block b (lt_of_block h2)).trans h2,S02.own_below h3 hb,h4⟩
end Go.Proofs.YtejaocnhekjfiaaGreatDoor
namespace Go.Proofs.YtejaocnhekjfiaaGreatDoor.S25
open Go.RowKit
set_option linter.unusedVariables false
theorem get_app_left (s t : ByteArray) (i : Nat) (h : i < s.size) : (s ++ t).get! i = s.get! i:=by
 obtain ⟨⟨a⟩⟩:=s
 obtain ⟨⟨b⟩⟩:=t
 show (ByteArray.mk _).get! i = _
 simp only [ByteArray.size,List.size_toArray] at h
 simp [ByteArray.get!,Array.getElem!_eq_getD,Array.getD_eq_getD_getElem?,List.getElem?_append_left h]
theorem get_app_right (s t : ByteArray) (i : Nat) : (s ++ t).get! (s.size + i) = t.get! i:=by
 obtain ⟨⟨a⟩⟩:=s
 obtain ⟨⟨b⟩⟩:=t
 show (ByteArray.mk _).get! _ = _
 simp [ByteArray.get!,ByteArray.size,Array.getElem!_eq_getD,Array.getD_eq_getD_getElem?,List.getElem?_append_right]
end Go.Proofs.YtejaocnhekjfiaaGreatDoor.S25
