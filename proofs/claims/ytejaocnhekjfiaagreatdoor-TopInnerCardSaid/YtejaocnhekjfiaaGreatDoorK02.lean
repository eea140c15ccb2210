/- Walks and plain laws, part 2: S02Wide S02Sub S02Less S02Sum S02Plus Join Cols Lin Join2 S05Plain S05Parts S05Part. -/
import Derived.Test.YtejaocnhekjfiaaGreatDoorK01
import Derived.Test.YtejaocnhekjfiaaGreatDoorRows
import Derived.Deep.QuietTactic
import Derived.BigQuiet
import Derived.Lib.QuietBelow
import Derived.Deep.RegionWith
import Derived.Outline
import Derived.Laws.CopyOwn
import Derived.Deep.DeepCutAuto
import Derived.Maps.AppendAt
namespace Go.Proofs.YtejaocnhekjfiaaGreatDoor.S02
open Go.RowKit
set_option linter.unusedVariables false
def hiOf (v : Int) : Int:=v / 18446744073709551616
def loOf (v : Int) : Int:=v % 18446744073709551616
def W (v : Int) : Value:=.agg #[.int .i64 (hiOf v),.int .u64 (loOf v)]
theorem loOf_range (v : Int) : 0 ≤ loOf v ∧ loOf v ≤ 18446744073709551615:=by unfold loOf; omega
theorem hiOf_int {n : Int} (h : -9223372036854775808 ≤ n ∧ n ≤ 9223372036854775807) : n / 9223372036854775808 = hiOf n:=by unfold hiOf; omega
theorem wrap_lo (n : Int) : IntKind.u64.wrap n = loOf n:=IntKind.wrap_u64 n
set_option maxRecDepth 100000 in
set_option maxHeartbeats 1000000 in
theorem of_any (n : Int) (w : World) (h1 : -9223372036854775808 ≤ n) (h2 : n ≤ 9223372036854775807) :
   Calls Tryz.prog 179 #[.int .i64 n] w fun e w' => e = .returned (W n) ∧ Below w.heap.size w w':=by
 have hh:=hiOf_int ⟨h1,h2⟩
 have hl:=wrap_lo n
 go_enter Tryz.func179,Tryz.ntmps179
 go_wp2
 exact bodyPost_ret (v:=.agg #[.int .i64 (hiOf n),.int .u64 (loOf n)]) (by simp [results,Tryz.results179,go_sem]) rfl ⟨rfl,(Below.refl _ _).alloc (Nat.le_refl _) _⟩
def sub64Entry : Array Value → Sem Value:=fun args => do
 let (x, y, b) ← Extern.MathBitsCarry.three "Sub64" args
 pure (Extern.MathBitsCarry.pair ((x + Extern.MathBitsCarry.m64 - y - b) % Extern.MathBitsCarry.m64) (if x < y + b then 1 else 0))
theorem run_sub64 {P : Program} (x y c : Int) (hx : 0 ≤ x) (hy : 0 ≤ y) (hy2 : y ≤ 18446744073709551615) (hc0 : 0 ≤ c) (hc : c ≤ 1) (w : World) :
   (sub64Entry #[.int .u64 x,.int .u64 y,.int .u64 c]).run P w =
     .ok (.tuple #[.int .u64 ((x - y - c) % 18446744073709551616),.int .u64 (if x < y + c then 1 else 0)]) w:=by
 have key : ∀ k : Nat,k ≤ 1 → (sub64Entry #[.int .u64 x,.int .u64 y,.int .u64 (k : Int)]).run P w =
     .ok (Extern.MathBitsCarry.pair ((x.toNat + Extern.MathBitsCarry.m64 - y.toNat - k) % Extern.MathBitsCarry.m64) (if x.toNat < y.toNat + k then 1 else 0)) w:=by
   intro k hk
   have : k = 0 ∨ k = 1:=by omega
   rcases this with rfl | rfl <;> rfl
 obtain ⟨k,rfl⟩:=Int.eq_ofNat_of_zero_le hc0
 rw [key k (by omega)]
 obtain ⟨X,rfl⟩:=Int.eq_ofNat_of_zero_le hx
 obtain ⟨Y,rfl⟩:=Int.eq_ofNat_of_zero_le hy
 simp only [Extern.MathBitsCarry.pair,Extern.MathBitsCarry.m64,Int.toNat_natCast]
 have e1 : ((((X + 2 ^ 64 - Y - k) % 2 ^ 64 : Nat)) : Int) = ((X : Int) - (Y : Int) - (k : Int)) % 18446744073709551616:=by omega
 have e2 : (((if X < Y + k then 1 else 0 : Nat)) : Int) = (if (X : Int) < (Y : Int) + (k : Int) then 1 else 0):=by split <;> split <;> omega
 show Result.ok (Value.tuple #[.int .u64 (((X + 2 ^ 64 - Y - k) % 2 ^ 64 : Nat) : Int),.int .u64 ((if X < Y + k then 1 else 0 : Nat) : Int)]) w = _
 rw [e1,e2]
theorem call33 (x y c : Int) (hx : 0 ≤ x) (hy : 0 ≤ y) (hc0 : 0 ≤ c) (hc : c ≤ 1) (w : World) :
   (callFunc 212 #[.int .u64 x,.int .u64 y,.int .u64 c]).run Tryz.prog w = .ok (.value (.tuple #[.int .u64 ((x + y + c) % 18446744073709551616),.int .u64 ((x + y + c) / 18446744073709551616)])) w:=by
 rw [run_callFunc_extern Tryz.func212 (by kernel_rfl) (by kernel_rfl) (by kernel_rfl) (e:=add64Entry) (by kernel_rfl),run_add64 x y c hx hy hc0 hc]
 rfl
theorem call34 (x y c : Int) (hx : 0 ≤ x) (hy : 0 ≤ y) (hy2 : y ≤ 18446744073709551615) (hc0 : 0 ≤ c) (hc : c ≤ 1) (w : World) :
   (callFunc 243 #[.int .u64 x,.int .u64 y,.int .u64 c]).run Tryz.prog w = .ok (.value (.tuple #[.int .u64 ((x - y - c) % 18446744073709551616),.int .u64 (if x < y + c then 1 else 0)])) w:=by
 rw [run_callFunc_extern Tryz.func243 (by kernel_rfl) (by kernel_rfl) (by kernel_rfl) (e:=sub64Entry) (by kernel_rfl),run_sub64 x y c hx hy hy2 hc0 hc]
 rfl
def Fits (v : Int) : Prop:=-170141183460469231731687303715884105728 ≤ v ∧ v ≤ 170141183460469231731687303715884105727
instance (v : Int) : Decidable (Fits v):=by unfold Fits; exact inferInstance
def fitW (v : Int) : Value:=.tuple #[W (if Fits v then v else 0),.bool (decide (Fits v))]
theorem hi_range {v : Int} (h : Fits v) : -9223372036854775808 ≤ hiOf v ∧ hiOf v ≤ 9223372036854775807:=by unfold Fits at h; unfold hiOf; omega
theorem add_halves (a b : Int) (ha : Fits a) (hb : Fits b) :
   (loOf a + loOf b) % 18446744073709551616 = loOf (a + b) ∧
   (0 ≤ (loOf a + loOf b) / 18446744073709551616 ∧ (loOf a + loOf b) / 18446744073709551616 ≤ 1) ∧
   hiOf (a + b) = hiOf a + hiOf b + (loOf a + loOf b) / 18446744073709551616:=by
 unfold loOf hiOf; omega
def top (s : Int) : Int:=if s ≤ -9223372036854775809 then s + 18446744073709551616 else if 9223372036854775808 ≤ s then s - 18446744073709551616 else s
theorem top_eq (h1 h2 c : Int) (a : -9223372036854775808 ≤ h1 ∧ h1 ≤ 9223372036854775807) (b : -9223372036854775808 ≤ h2 ∧ h2 ≤ 9223372036854775807) (hc : 0 ≤ c ∧ c ≤ 1) :
   IntKind.i64.wrap ((IntKind.u64.wrap h1 + IntKind.u64.wrap h2 + c) % 18446744073709551616) = top (h1 + h2 + c):=by
 rw [IntKind.wrap_i64,IntKind.wrap_u64,IntKind.wrap_u64]
 unfold top
 split
 · omega
 · split <;> omega
set_option maxRecDepth 100000 in
set_option maxHeartbeats 1000000 in
theorem add_any (a b : Int) (w : World) (ha : Fits a) (hb : Fits b) :
   Calls Tryz.prog 178 #[W a,W b] w fun e w' => e = .returned (fitW (a + b)) ∧ Below w.heap.size w w':=by
 obtain ⟨e1,⟨e2,e3⟩,e4⟩:=add_halves a b ha hb
 have hla:=loOf_range a
 have hlb:=loOf_range b
 have hra:=hi_range ha
 have hrb:=hi_range hb
 have k1:=fun w => call33 (loOf a) (loOf b) 0 hla.1 hlb.1 (by omega) (by omega) w
 rw [Int.add_zero,e1] at k1
 have hf : decide (Fits (a + b)) = decide (-9223372036854775808 ≤ hiOf (a + b) ∧ hiOf (a + b) ≤ 9223372036854775807):=by
   congr 1; unfold Fits hiOf; apply propext; omega
 generalize (loOf a + loOf b) / 18446744073709551616 = c at *
 have hwa : 0 ≤ IntKind.u64.wrap (hiOf a):=by rw [IntKind.wrap_u64]; omega
 have hwb : 0 ≤ IntKind.u64.wrap (hiOf b):=by rw [IntKind.wrap_u64]; omega
 have k2:=fun w => call33 (IntKind.u64.wrap (hiOf a)) (IntKind.u64.wrap (hiOf b)) c hwa hwb e2 e3 w
 have k3:=top_eq (hiOf a) (hiOf b) c hra hrb ⟨e2,e3⟩
 rw [← e4,IntWalk.i64_left] at k3
 have hfw : fitW (a + b) = .tuple #[.agg #[.int .i64 (if Fits (a + b) then hiOf (a + b) else 0),.int .u64 (if Fits (a + b) then loOf (a + b) else 0)],.bool (decide (Fits (a + b)))]:=by
   unfold fitW W; split <;> rfl
 rw [hfw]
 unfold W
 have HS : hiOf (a + b) = hiOf a + hiOf b + c:=e4
 have hfit : Fits (a + b) ↔ (-9223372036854775808 ≤ hiOf (a + b) ∧ hiOf (a + b) ≤ 9223372036854775807):=by unfold Fits hiOf; omega
 clear hf hfw e1 hwa hwb ha hb hla hlb
 generalize loOf (a + b) = L at *
 generalize hiOf (a + b) = S at *
 rcases (show (0 ≤ hiOf a ∧ 0 ≤ hiOf b ∧ S ≤ 9223372036854775807) ∨ (0 ≤ hiOf a ∧ 0 ≤ hiOf b ∧ 9223372036854775808 ≤ S) ∨ (0 ≤ hiOf a ∧ hiOf b < 0) ∨ (hiOf a < 0 ∧ 0 ≤ hiOf b) ∨ (hiOf a < 0 ∧ hiOf b < 0 ∧ -9223372036854775808 ≤ S) ∨ (hiOf a < 0 ∧ hiOf b < 0 ∧ S ≤ -9223372036854775809) from by omega) with ⟨g1,g2,g3⟩ | ⟨g1,g2,g3⟩ | ⟨g1,g2⟩ | ⟨g1,g2⟩ | ⟨g1,g2,g3⟩ | ⟨g1,g2,g3⟩
 · have wa:=IntWalk.u64_in (hiOf a) (by omega)
   rw [wa] at k2 k3
   clear wa
   have wb:=IntWalk.u64_in (hiOf b) (by omega)
   rw [wb] at k2 k3
   clear wb
   have hT : top S = S:=by unfold top; (repeat' split) <;> omega
   rw [hT] at k3
   generalize (hiOf a + hiOf b + c) % 18446744073709551616 = R at k2 k3
   generalize (hiOf a + hiOf b + c) / 18446744073709551616 = c2 at k2
   have hF : Fits (a + b):=hfit.2 (by omega)
   rw [if_pos hF,if_pos hF,decide_eq_true hF]
   have hs : 0 ≤ S:=by omega
   have hd : decide (S < 0) = false:=by simp; omega
   clear hfit hF hT HS
   have da : decide (hiOf a < 0) = false:=by simp; omega
   have db : decide (hiOf b < 0) = false:=by simp; omega
   clear e4
   generalize hiOf a = H1 at *
   generalize hiOf b = H2 at *
   generalize loOf a = l1 at *
   generalize loOf b = l2 at *
   go_enter Tryz.func178,Tryz.ntmps178
   go_wp2
   all_goals exact bodyPost_ret (v:=.tuple #[.agg #[.int .i64 S,.int .u64 L],.bool true]) (by simp [results,Tryz.results178,go_sem]) rfl ⟨rfl,(((((Below.refl _ _).alloc (Nat.le_refl _) _).alloc (by simp) _).alloc (by simp; omega) _).alloc (by simp; omega) _)⟩
 · have wa:=IntWalk.u64_in (hiOf a) (by omega)
   rw [wa] at k2 k3
   clear wa
   have wb:=IntWalk.u64_in (hiOf b) (by omega)
   rw [wb] at k2 k3
   clear wb
   have hT : top S = S - 18446744073709551616:=by unfold top; (repeat' split) <;> omega
   rw [hT] at k3
   generalize (hiOf a + hiOf b + c) % 18446744073709551616 = R at k2 k3
   generalize (hiOf a + hiOf b + c) / 18446744073709551616 = c2 at k2
   have hF : ¬ Fits (a + b):=fun h => by have:=hfit.1 h; omega
   rw [if_neg hF,if_neg hF,decide_eq_false hF]
   obtain ⟨T,hTe⟩ : ∃ T,T = S - 18446744073709551616:=⟨_,rfl⟩
   rw [← hTe] at k3
   have hTs : T < 0:=by omega
   clear hTe hfit hF hT HS
   have da : decide (hiOf a < 0) = false:=by simp; omega
   have db : decide (hiOf b < 0) = false:=by simp; omega
   clear e4
   generalize hiOf a = H1 at *
   generalize hiOf b = H2 at *
   generalize loOf a = l1 at *
   generalize loOf b = l2 at *
   go_enter Tryz.func178,Tryz.ntmps178
   go_wp2
   all_goals exact bodyPost_ret (v:=.tuple #[.agg #[.int .i64 0,.int .u64 0],.bool false]) (by simp [results,Tryz.results178,go_sem]) rfl ⟨rfl,(((((Below.refl _ _).alloc (Nat.le_refl _) _).alloc (by simp) _).alloc (by simp; omega) _).alloc (by simp; omega) _)⟩
 · have wa:=IntWalk.u64_in (hiOf a) (by omega)
   rw [wa] at k2 k3
   clear wa
   have hT : top S = S:=by unfold top; (repeat' split) <;> omega
   rw [hT] at k3
   generalize (hiOf a + IntKind.u64.wrap (hiOf b) + c) % 18446744073709551616 = R at k2 k3
   generalize (hiOf a + IntKind.u64.wrap (hiOf b) + c) / 18446744073709551616 = c2 at k2
   have hF : Fits (a + b):=hfit.2 (by omega)
   rw [if_pos hF,if_pos hF,decide_eq_true hF]
   clear hfit hF hT HS
   have da : decide (hiOf a < 0) = false:=by simp; omega
   have db : decide (hiOf b < 0) = true:=by simp; omega
   clear e4
   generalize hiOf a = H1 at *
   generalize hiOf b = H2 at *
   generalize loOf a = l1 at *
   generalize loOf b = l2 at *
   go_enter Tryz.func178,Tryz.ntmps178
   go_wp2
   all_goals exact bodyPost_ret (v:=.tuple #[.agg #[.int .i64 S,.int .u64 L],.bool true]) (by simp [results,Tryz.results178,go_sem]) rfl ⟨rfl,(((((Below.refl _ _).alloc (Nat.le_refl _) _).alloc (by simp) _).alloc (by simp; omega) _).alloc (by simp; omega) _)⟩
 · have wb:=IntWalk.u64_in (hiOf b) (by omega)
   rw [wb] at k2 k3
   clear wb
   have hT : top S = S:=by unfold top; (repeat' split) <;> omega
   rw [hT] at k3
   generalize (IntKind.u64.wrap (hiOf a) + hiOf b + c) % 18446744073709551616 = R at k2 k3
   generalize (IntKind.u64.wrap (hiOf a) + hiOf b + c) / 18446744073709551616 = c2 at k2
   have hF : Fits (a + b):=hfit.2 (by omega)
   rw [if_pos hF,if_pos hF,decide_eq_true hF]
   clear hfit hF hT HS
   have da : decide (hiOf a < 0) = true:=by simp; omega
   have db : decide (hiOf b < 0) = false:=by simp; omega
   clear e4
   generalize hiOf a = H1 at *
   generalize hiOf b = H2 at *
   generalize loOf a = l1 at *
   generalize loOf b = l2 at *
   go_enter Tryz.func178,Tryz.ntmps178
   go_wp2
   all_goals exact bodyPost_ret (v:=.tuple #[.agg #[.int .i64 S,.int .u64 L],.bool true]) (by simp [results,Tryz.results178,go_sem]) rfl ⟨rfl,(((((Below.refl _ _).alloc (Nat.le_refl _) _).alloc (by simp) _).alloc (by simp; omega) _).alloc (by simp; omega) _)⟩
 · have hT : top S = S:=by unfold top; (repeat' split) <;> omega
   rw [hT] at k3
   generalize (IntKind.u64.wrap (hiOf a) + IntKind.u64.wrap (hiOf b) + c) % 18446744073709551616 = R at k2 k3
   generalize (IntKind.u64.wrap (hiOf a) + IntKind.u64.wrap (hiOf b) + c) / 18446744073709551616 = c2 at k2
   have hF : Fits (a + b):=hfit.2 (by omega)
   rw [if_pos hF,if_pos hF,decide_eq_true hF]
   have hs : S < 0:=by omega
   have hd : decide (S < 0) = true:=by simp; omega
   clear hfit hF hT HS
   have da : decide (hiOf a < 0) = true:=by simp; omega
   have db : decide (hiOf b < 0) = true:=by simp; omega
   clear e4
   generalize hiOf a = H1 at *
   generalize hiOf b = H2 at *
   generalize loOf a = l1 at *
   generalize loOf b = l2 at *
   go_enter Tryz.func178,Tryz.ntmps178
   go_wp2
   all_goals exact bodyPost_ret (v:=.tuple #[.agg #[.int .i64 S,.int .u64 L],.bool true]) (by simp [results,Tryz.results178,go_sem]) rfl ⟨rfl,(((((Below.refl _ _).alloc (Nat.le_refl _) _).alloc (by simp) _).alloc (by simp; omega) _).alloc (by simp; omega) _)⟩
 · have hT : top S = S + 18446744073709551616:=by unfold top; (repeat' split) <;> omega
   rw [hT] at k3
   generalize (IntKind.u64.wrap (hiOf a) + IntKind.u64.wrap (hiOf b) + c) % 18446744073709551616 = R at k2 k3
   generalize (IntKind.u64.wrap (hiOf a) + IntKind.u64.wrap (hiOf b) + c) / 18446744073709551616 = c2 at k2
   have hF : ¬ Fits (a + b):=fun h => by have:=hfit.1 h; omega
   rw [if_neg hF,if_neg hF,decide_eq_false hF]
   obtain ⟨T,hTe⟩ : ∃ T,T = S + 18446744073709551616:=⟨_,rfl⟩
   rw [← hTe] at k3
   have hTs : 0 ≤ T:=by omega
   have dT : decide (T < 0) = false:=by simp; omega
   clear hTe hfit hF hT HS
   have da : decide (hiOf a < 0) = true:=by simp; omega
   have db : decide (hiOf b < 0) = true:=by simp; omega
   clear e4
   generalize hiOf a = H1 at *
   generalize hiOf b = H2 at *
   generalize loOf a = l1 at *
   generalize loOf b = l2 at *
   go_enter Tryz.func178,Tryz.ntmps178
   go_wp2
   all_goals exact bodyPost_ret (v:=.tuple #[.agg #[.int .i64 0,.int .u64 0],.bool false]) (by simp [results,Tryz.results178,go_sem]) rfl ⟨rfl,(((((Below.refl _ _).alloc (Nat.le_refl _) _).alloc (by simp) _).alloc (by simp; omega) _).alloc (by simp; omega) _)⟩
end Go.Proofs.YtejaocnhekjfiaaGreatDoor.S02
namespace Go.Proofs.YtejaocnhekjfiaaGreatDoor.S02
open Go.RowKit
set_option linter.unusedVariables false
theorem sub_halves (a b : Int) (ha : Fits a) (hb : Fits b) :
   (loOf a - loOf b) % 18446744073709551616 = loOf (a - b) ∧
   hiOf (a - b) = hiOf a - hiOf b - (if loOf a < loOf b then 1 else 0):=by
 unfold loOf hiOf; refine ⟨by omega,?_⟩; split <;> omega
theorem top_sub (h1 h2 c : Int) (a : -9223372036854775808 ≤ h1 ∧ h1 ≤ 9223372036854775807) (b : -9223372036854775808 ≤ h2 ∧ h2 ≤ 9223372036854775807) (hc : 0 ≤ c ∧ c ≤ 1) :
   IntKind.i64.wrap ((IntKind.u64.wrap h1 - IntKind.u64.wrap h2 - c) % 18446744073709551616) = top (h1 - h2 - c):=by
 rw [IntKind.wrap_i64,IntKind.wrap_u64,IntKind.wrap_u64]
 unfold top
 split
 · omega
 · split <;> omega
set_option maxRecDepth 100000 in
set_option maxHeartbeats 1000000 in
theorem sub_any (a b : Int) (w : World) (ha : Fits a) (hb : Fits b) :
   Calls Tryz.prog 213 #[W a,W b] w fun e w' => e = .returned (fitW (a - b)) ∧ Below w.heap.size w w':=by
 obtain ⟨e1,e4⟩:=sub_halves a b ha hb
 have hla:=loOf_range a
 have hlb:=loOf_range b
 have hra:=hi_range ha
 have hrb:=hi_range hb
 have k1:=fun w => call34 (loOf a) (loOf b) 0 hla.1 hlb.1 hlb.2 (by omega) (by omega) w
 rw [Int.sub_zero,Int.add_zero,e1] at k1
 obtain ⟨c,hc⟩ : ∃ c : Int,c = if loOf a < loOf b then 1 else 0:=⟨_,rfl⟩
 rw [← hc] at k1 e4
 have e2 : 0 ≤ c:=by rw [hc]; split <;> omega
 have e3 : c ≤ 1:=by rw [hc]; split <;> omega
 clear hc
 have hwa : 0 ≤ IntKind.u64.wrap (hiOf a):=by rw [IntKind.wrap_u64]; omega
 have hwb : 0 ≤ IntKind.u64.wrap (hiOf b):=by rw [IntKind.wrap_u64]; omega
 have hwb2 : IntKind.u64.wrap (hiOf b) ≤ 18446744073709551615:=by rw [IntKind.wrap_u64]; omega
 have k2:=fun w => call34 (IntKind.u64.wrap (hiOf a)) (IntKind.u64.wrap (hiOf b)) c hwa hwb hwb2 e2 e3 w
 have k3:=top_sub (hiOf a) (hiOf b) c hra hrb ⟨e2,e3⟩
 rw [← e4,IntWalk.i64_left] at k3
 have hfw : fitW (a - b) = .tuple #[.agg #[.int .i64 (if Fits (a - b) then hiOf (a - b) else 0),.int .u64 (if Fits (a - b) then loOf (a - b) else 0)],.bool (decide (Fits (a - b)))]:=by
   unfold fitW W; split <;> rfl
 rw [hfw]
 unfold W
 have hfit : Fits (a - b) ↔ (-9223372036854775808 ≤ hiOf (a - b) ∧ hiOf (a - b) ≤ 9223372036854775807):=by unfold Fits hiOf; omega
 clear hfw e1 hwa hwb hwb2 ha hb hla hlb
 generalize loOf (a - b) = L at *
 generalize hiOf (a - b) = S at *
 rcases (show (0 ≤ hiOf a ∧ hiOf b < 0 ∧ S ≤ 9223372036854775807) ∨ (0 ≤ hiOf a ∧ hiOf b < 0 ∧ 9223372036854775808 ≤ S) ∨ (0 ≤ hiOf a ∧ 0 ≤ hiOf b) ∨ (hiOf a < 0 ∧ hiOf b < 0) ∨ (hiOf a < 0 ∧ 0 ≤ hiOf b ∧ -9223372036854775808 ≤ S) ∨ (hiOf a < 0 ∧ 0 ≤ hiOf b ∧ S ≤ -9223372036854775809) from by omega) with ⟨g1,g2,g3⟩ | ⟨g1,g2,g3⟩ | ⟨g1,g2⟩ | ⟨g1,g2⟩ | ⟨g1,g2,g3⟩ | ⟨g1,g2,g3⟩
 · have wa:=IntWalk.u64_in (hiOf a) (by omega)
   rw [wa] at k2 k3
   clear wa
   have hT : top S = S:=by unfold top; (repeat' split) <;> omega
   rw [hT] at k3
   generalize (hiOf a - IntKind.u64.wrap (hiOf b) - c) % 18446744073709551616 = R at k2 k3
   generalize (if hiOf a < IntKind.u64.wrap (hiOf b) + c then (1 : Int) else 0) = c2 at k2
   have hF : Fits (a - b):=hfit.2 (by omega)
   rw [if_pos hF,if_pos hF,decide_eq_true hF]
   have hs : 0 ≤ S:=by omega
   have hd : decide (S < 0) = false:=by simp; omega
   clear hfit hF hT
   have da : decide (hiOf a < 0) = false:=by simp; omega
   have db : decide (hiOf b < 0) = true:=by simp; omega
   clear e4
   generalize hiOf a = H1 at *
   generalize hiOf b = H2 at *
   generalize loOf a = l1 at *
   generalize loOf b = l2 at *
   go_enter Tryz.func213,Tryz.ntmps213
   go_wp2
   all_goals exact bodyPost_ret (v:=.tuple #[.agg #[.int .i64 S,.int .u64 L],.bool true]) (by simp [results,Tryz.results213,go_sem]) rfl ⟨rfl,(((((Below.refl _ _).alloc (Nat.le_refl _) _).alloc (by simp) _).alloc (by simp; omega) _).alloc (by simp; omega) _)⟩
 · have wa:=IntWalk.u64_in (hiOf a) (by omega)
   rw [wa] at k2 k3
   clear wa
   have hT : top S = S - 18446744073709551616:=by unfold top; (repeat' split) <;> omega
   rw [hT] at k3
   generalize (hiOf a - IntKind.u64.wrap (hiOf b) - c) % 18446744073709551616 = R at k2 k3
   generalize (if hiOf a < IntKind.u64.wrap (hiOf b) + c then (1 : Int) else 0) = c2 at k2
   have hF : ¬ Fits (a - b):=fun h => by have:=hfit.1 h; omega
   rw [if_neg hF,if_neg hF,decide_eq_false hF]
   obtain ⟨T,hTe⟩ : ∃ T,T = S - 18446744073709551616:=⟨_,rfl⟩
   rw [← hTe] at k3
   have hTs : T < 0:=by omega
   have dT : decide (T < 0) = true:=by simp; omega
   clear hTe hfit hF hT
   have da : decide (hiOf a < 0) = false:=by simp; omega
   have db : decide (hiOf b < 0) = true:=by simp; omega
   clear e4
   generalize hiOf a = H1 at *
   generalize hiOf b = H2 at *
   generalize loOf a = l1 at *
   generalize loOf b = l2 at *
   go_enter Tryz.func213,Tryz.ntmps213
   go_wp2
   all_goals exact bodyPost_ret (v:=.tuple #[.agg #[.int .i64 0,.int .u64 0],.bool false]) (by simp [results,Tryz.results213,go_sem]) rfl ⟨rfl,(((((Below.refl _ _).alloc (Nat.le_refl _) _).alloc (by simp) _).alloc (by simp; omega) _).alloc (by simp; omega) _)⟩
 · have wa:=IntWalk.u64_in (hiOf a) (by omega)
   rw [wa] at k2 k3
   clear wa
   have wb:=IntWalk.u64_in (hiOf b) (by omega)
   rw [wb] at k2 k3
   clear wb
   have hT : top S = S:=by unfold top; (repeat' split) <;> omega
   rw [hT] at k3
   generalize (hiOf a - hiOf b - c) % 18446744073709551616 = R at k2 k3
   generalize (if hiOf a < hiOf b + c then (1 : Int) else 0) = c2 at k2
   have hF : Fits (a - b):=hfit.2 (by omega)
   rw [if_pos hF,if_pos hF,decide_eq_true hF]
   clear hfit hF hT
   have da : decide (hiOf a < 0) = false:=by simp; omega
   have db : decide (hiOf b < 0) = false:=by simp; omega
   clear e4
   generalize hiOf a = H1 at *
   generalize hiOf b = H2 at *
   generalize loOf a = l1 at *
   generalize loOf b = l2 at *
   go_enter Tryz.func213,Tryz.ntmps213
   go_wp2
   all_goals exact bodyPost_ret (v:=.tuple #[.agg #[.int .i64 S,.int .u64 L],.bool true]) (by simp [results,Tryz.results213,go_sem]) rfl ⟨rfl,(((((Below.refl _ _).alloc (Nat.le_refl _) _).alloc (by simp) _).alloc (by simp; omega) _).alloc (by simp; omega) _)⟩
 · have hT : top S = S:=by unfold top; (repeat' split) <;> omega
   rw [hT] at k3
   generalize (IntKind.u64.wrap (hiOf a) - IntKind.u64.wrap (hiOf b) - c) % 18446744073709551616 = R at k2 k3
   generalize (if IntKind.u64.wrap (hiOf a) < IntKind.u64.wrap (hiOf b) + c then (1 : Int) else 0) = c2 at k2
   have hF : Fits (a - b):=hfit.2 (by omega)
   rw [if_pos hF,if_pos hF,decide_eq_true hF]
   clear hfit hF hT
   have da : decide (hiOf a < 0) = true:=by simp; omega
   have db : decide (hiOf b < 0) = true:=by simp; omega
   clear e4
   generalize hiOf a = H1 at *
   generalize hiOf b = H2 at *
   generalize loOf a = l1 at *
   generalize loOf b = l2 at *
   go_enter Tryz.func213,Tryz.ntmps213
   go_wp2
   all_goals exact bodyPost_ret (v:=.tuple #[.agg #[.int .i64 S,.int .u64 L],.bool true]) (by simp [results,Tryz.results213,go_sem]) rfl ⟨rfl,(((((Below.refl _ _).alloc (Nat.le_refl _) _).alloc (by simp) _).alloc (by simp; omega) _).alloc (by simp; omega) _)⟩
 · have wb:=IntWalk.u64_in (hiOf b) (by omega)
   rw [wb] at k2 k3
   clear wb
   have hT : top S = S:=by unfold top; (repeat' split) <;> omega
   rw [hT] at k3
   generalize (IntKind.u64.wrap (hiOf a) - hiOf b - c) % 18446744073709551616 = R at k2 k3
   generalize (if IntKind.u64.wrap (hiOf a) < hiOf b + c then (1 : Int) else 0) = c2 at k2
   have hF : Fits (a - b):=hfit.2 (by omega)
   rw [if_pos hF,if_pos hF,decide_eq_true hF]
   have hs : S < 0:=by omega
   have hd : decide (S < 0) = true:=by simp; omega
   clear hfit hF hT
   have da : decide (hiOf a < 0) = true:=by simp; omega
   have db : decide (hiOf b < 0) = false:=by simp; omega
   clear e4
   generalize hiOf a = H1 at *
   generalize hiOf b = H2 at *
   generalize loOf a = l1 at *
   generalize loOf b = l2 at *
   go_enter Tryz.func213,Tryz.ntmps213
   go_wp2
   all_goals exact bodyPost_ret (v:=.tuple #[.agg #[.int .i64 S,.int .u64 L],.bool true]) (by simp [results,Tryz.results213,go_sem]) rfl ⟨rfl,(((((Below.refl _ _).alloc (Nat.le_refl _) _).alloc (by simp) _).alloc (by simp; omega) _).alloc (by simp; omega) _)⟩
 · have wb:=IntWalk.u64_in (hiOf b) (by omega)
   rw [wb] at k2 k3
   clear wb
   have hT : top S = S + 18446744073709551616:=by unfold top; (repeat' split) <;> omega
   rw [hT] at k3
   generalize (IntKind.u64.wrap (hiOf a) - hiOf b - c) % 18446744073709551616 = R at k2 k3
   generalize (if IntKind.u64.wrap (hiOf a) < hiOf b + c then (1 : Int) else 0) = c2 at k2
   have hF : ¬ Fits (a - b):=fun h => by have:=hfit.1 h; omega
   rw [if_neg hF,if_neg hF,decide_eq_false hF]
   obtain ⟨T,hTe⟩ : ∃ T,T = S + 18446744073709551616:=⟨_,rfl⟩
   rw [← hTe] at k3
   have hTs : 0 ≤ T:=by omega
   have dT : decide (T < 0) = false:=by simp; omega
   clear hTe hfit hF hT
   have da : decide (hiOf a < 0) = true:=by simp; omega
   have db : decide (hiOf b < 0) = false:=by simp; omega
   clear e4
   generalize hiOf a = H1 at *
   generalize hiOf b = H2 at *
   generalize loOf a = l1 at *
   generalize loOf b = l2 at *
   go_enter Tryz.func213,Tryz.ntmps213
   go_wp2
   all_goals exact bodyPost_ret (v:=.tuple #[.agg #[.int .i64 0,.int .u64 0],.bool false]) (by simp [results,Tryz.results213,go_sem]) rfl ⟨rfl,(((((Below.refl _ _).alloc (Nat.le_refl _) _).alloc (by simp) _).alloc (by simp; omega) _).alloc (by simp; omega) _)⟩
end Go.Proofs.YtejaocnhekjfiaaGreatDoor.S02
namespace Go.Proofs.YtejaocnhekjfiaaGreatDoor.S02
open Go.RowKit
set_option linter.unusedVariables false
set_option maxRecDepth 100000 in
set_option maxHeartbeats 1000000 in
theorem less_any (a b : Int) (w : World) :
   Calls Tryz.prog 219 #[W a,W b] w fun e w' => e = .returned (.bool (decide (a < b))) ∧ Below w.heap.size w w':=by
 have hlt : (a < b) ↔ (hiOf a < hiOf b ∨ hiOf a = hiOf b ∧ loOf a < loOf b):=by unfold hiOf loOf; omega
 unfold W
 rcases Int.lt_trichotomy (hiOf a) (hiOf b) with h | h | h
 · rw [decide_eq_true (hlt.2 (.inl h))]
   have dT : decide (hiOf a < hiOf b) = true:=by simpa using h
   clear hlt h
   go_enter Tryz.func219,Tryz.ntmps219
   go_wp2
   go_ret
   exact ⟨rfl,((Below.refl _ _).alloc (Nat.le_refl _) _).alloc (by simp) _⟩
 · have dT : decide (hiOf a < hiOf b) = false:=by simp; omega
   have dE : (hiOf a == hiOf b) = true:=by simpa using h
   have hd : decide (a < b) = decide (loOf a < loOf b):=by congr 1; apply propext; rw [hlt]; omega
   rw [hd]
   clear hlt h hd
   generalize hiOf a = H1 at *
   generalize hiOf b = H2 at *
   go_enter Tryz.func219,Tryz.ntmps219
   go_wp2
   all_goals go_ret
   all_goals exact ⟨by simp_all,((Below.refl _ _).alloc (Nat.le_refl _) _).alloc (by simp) _⟩
 · have hn : ¬ a < b:=fun h' => by rcases hlt.1 h' with h2 | h2 <;> omega
   rw [decide_eq_false hn]
   have dT : decide (hiOf a < hiOf b) = false:=by simp; omega
   have dE : (hiOf a == hiOf b) = false:=by simp; omega
   clear hlt h hn
   go_enter Tryz.func219,Tryz.ntmps219
   go_wp2
   go_ret
   exact ⟨rfl,((Below.refl _ _).alloc (Nat.le_refl _) _).alloc (by simp) _⟩
def Small (v : Int) : Prop:=-9223372036854775808 ≤ v ∧ v ≤ 9223372036854775807
instance (v : Int) : Decidable (Small v):=by unfold Small; exact inferInstance
def smallV (v : Int) : Value:=.tuple #[.int .i64 (if Small v then v else 0),.bool (decide (Small v))]
theorem int_low (v : Int) : Small (IntKind.i64.wrap (loOf v)):=by rw [IntKind.wrap_i64]; unfold Small loOf; omega
theorem int_same {v : Int} (h : Small v) : IntKind.i64.wrap (loOf v) = v:=by rw [IntKind.wrap_i64]; unfold Small at h; unfold loOf; omega
theorem int_other {v : Int} (h : ¬ Small v) : ¬ (hiOf (IntKind.i64.wrap (loOf v)) = hiOf v ∧ loOf (IntKind.i64.wrap (loOf v)) = loOf v):=by
 intro ⟨h1,h2⟩
 have : IntKind.i64.wrap (loOf v) = v:=by unfold hiOf loOf at *; omega
 exact h (this ▸ int_low v)
set_option maxRecDepth 100000 in
set_option maxHeartbeats 1000000 in
theorem int_any (v : Int) (w : World) :
   Calls Tryz.prog 180 #[W v] w fun e w' => e = .returned (smallV v) ∧ Below w.heap.size w w':=by
 have hn:=int_low v
 have ho:=fun d os => Calls.regrown_of (of_any (IntKind.i64.wrap (loOf v)) (Sort.grow (redrawn (w.alloc (.cells #[.int .i64 (hiOf v),.int .u64 (loOf v)] 148)) d) os) hn.1 hn.2)
 have c0 : (w.alloc (.cells #[.int .i64 (hiOf v),.int .u64 (loOf v)] 148)).cell? ⟨w.heap.size,0,none⟩ = some (.int .i64 (hiOf v)):=(cell_of_row _ _ _ _ _ _ (heap_alloc_new w _)).trans rfl
 have c1 : (w.alloc (.cells #[.int .i64 (hiOf v),.int .u64 (loOf v)] 148)).cell? ⟨w.heap.size,1,none⟩ = some (.int .u64 (loOf v)):=(cell_of_row _ _ _ _ _ _ (heap_alloc_new w _)).trans rfl
 have k0:=cell_regrown c0
 have k1:=cell_regrown c1
 have hz:=IntWalk.i64_left (loOf v)
 unfold W at ho ⊢
 unfold smallV
 by_cases hs : Small v
 · rw [if_pos hs,decide_eq_true hs]
   have hv:=int_same hs
   rw [hv] at ho hz
   have HO:=Lib.hid ho
   have hz' : wrap64 (loOf v) = v:=hz.symm
   clear ho hz hv hn hs c0 c1
   go_enter Tryz.func180,Tryz.ntmps180
   go_wp2_with fail
   refine wp_region_quiet_below (by kernel_rfl) (by kernel_rfl) ?_
   repeat (go_big_quiet_step (with_reducible exact HO.out _ _))
   refine wpQuiet_nil ?_
   intro _ hw'
   obtain ⟨⟨dq,osq⟩,hw''⟩:=hw'
   subst hw''
   go_wp2
   all_goals go_ret2
   all_goals exact ⟨by rw [hz']; rfl,((Below.refl _ _).alloc (Nat.le_refl _) _).trans ((below_regrown _ dq osq).mono (by simp))⟩
 · rw [if_neg hs,decide_eq_false hs]
   have hne:=int_other hs
   rw [hz] at ho hne
   obtain ⟨n,hnn⟩ : ∃ n,wrap64 (loOf v) = n:=⟨_,rfl⟩
   rw [hnn] at ho hne
   have HO:=Lib.hid ho
   by_cases h1 : hiOf n = hiOf v
   · have hb1 : (hiOf n == hiOf v) = true:=by simpa using h1
     have hb2 : (loOf n == loOf v) = false:=by rw [beq_eq_false_iff_ne]; exact fun h2 => hne ⟨h1,h2⟩
     clear ho hz hn hs c0 c1 hne h1
     go_enter Tryz.func180,Tryz.ntmps180
     go_wp2_with fail
     refine wp_region_quiet_below (by kernel_rfl) (by kernel_rfl) ?_
     repeat (go_big_quiet_step (with_reducible exact HO.out _ _))
     refine wpQuiet_nil ?_
     intro _ hw'
     obtain ⟨⟨dq,osq⟩,hw''⟩:=hw'
     subst hw''
     go_wp2
     all_goals go_ret2
     all_goals exact ⟨rfl,((Below.refl _ _).alloc (Nat.le_refl _) _).trans ((below_regrown _ dq osq).mono (by simp))⟩
   · have hb1 : (hiOf n == hiOf v) = false:=by rw [beq_eq_false_iff_ne]; exact h1
     clear ho hz hn hs c0 c1 hne h1
     go_enter Tryz.func180,Tryz.ntmps180
     go_wp2_with fail
     refine wp_region_quiet_below (by kernel_rfl) (by kernel_rfl) ?_
     repeat (go_big_quiet_step (with_reducible exact HO.out _ _))
     refine wpQuiet_nil ?_
     intro _ hw'
     obtain ⟨⟨dq,osq⟩,hw''⟩:=hw'
     subst hw''
     go_wp2
     all_goals go_ret2
     all_goals exact ⟨rfl,((Below.refl _ _).alloc (Nat.le_refl _) _).trans ((below_regrown _ dq osq).mono (by simp))⟩
end Go.Proofs.YtejaocnhekjfiaaGreatDoor.S02
namespace Go.Proofs.YtejaocnhekjfiaaGreatDoor.S02
open Go.RowKit
set_option linter.unusedVariables false
def iv (n : Int) : Value:=.int .i64 n
def sm : List Int → Int
 | [] => 0
 | x :: xs => x + sm xs
theorem sm_append (a b : List Int) : sm (a ++ b) = sm a + sm b:=by
 induction a with
 | nil => simp [sm]
 | cons x xs ih => simp [sm,ih]; omega
theorem sm_take {l : List Int} {k : Nat} {x : Int} (h : l[k]? = some x) : sm (l.take (k + 1)) = sm (l.take k) + x:=by
 rw [List.take_add_one,h,sm_append]; simp [sm]
def In64 (l : List Int) : Prop:=∀ x ∈ l,-9223372036854775808 ≤ x ∧ x ≤ 9223372036854775807
theorem sm_bound {l : List Int} (h : In64 l) : ∀ k : Nat,-(9223372036854775808 * (k : Int)) ≤ sm (l.take k) ∧ sm (l.take k) ≤ 9223372036854775808 * (k : Int):=by
 intro k
 induction k with
 | zero => simp [sm]
 | succ k ih =>
   cases hx : l[k]? with
   | none =>
     rw [List.take_of_length_le (by rw [List.getElem?_eq_none_iff] at hx; omega)]
     rw [List.take_of_length_le (by rw [List.getElem?_eq_none_iff] at hx; omega)] at ih
     omega
   | some x =>
     rw [sm_take hx]
     have:=h x (List.mem_of_getElem? hx)
     omega
theorem sm_fits {l : List Int} (h : In64 l) (k : Nat) (hk : k ≤ 65536) : Fits (sm (l.take k)):=by
 have:=sm_bound h k
 unfold Fits; omega
theorem fits_small {n : Int} (h1 : -9223372036854775808 ≤ n) (h2 : n ≤ 9223372036854775807) : Fits n:=by unfold Fits; omega
theorem add_fits (a b : Int) (w : World) (ha : Fits a) (hb : Fits b) (hab : Fits (a + b)) :
   Calls Tryz.prog 178 #[W a,W b] w fun e w' => e = .returned (.tuple #[.agg #[.int .i64 (hiOf (a + b)),.int .u64 (loOf (a + b))],.bool true]) ∧ Below w.heap.size w w':=by
 have:=add_any a b w ha hb
 unfold fitW at this
 rw [if_pos hab,decide_eq_true hab] at this
 exact this
set_option maxRecDepth 100000 in
set_option maxHeartbeats 1000000 in
theorem sum_any (l : List Int) (ad : Option Addr) (n c : Nat) (w : World) (hr : Row w ad n (l.map iv)) (hin : In64 l) (hn : n ≤ 65535) :
   Calls Tryz.prog 138 #[.slice ad n c] w fun e w' => e = .returned (smallV (sm l)) ∧ Below w.heap.size w w':=by
 have hlen : l.length = n:=by simpa using hr.1
 have HL:=Lib.hid hlen; clear hlen
 have HR:=Lib.hid hr; clear hr
 have HI:=Lib.hid hin; clear hin
 have KI:=fun w => int_any (sm l) w
 obtain ⟨r,d,hsv⟩ : ∃ r d,smallV (sm l) = .tuple #[.int .i64 r,.bool d]:=⟨_,_,rfl⟩
 rw [hsv] at KI ⊢
 clear hsv
 have KI:=Lib.hid KI
 go_enter Tryz.func138,Tryz.ntmps138
 go_wp2
 go_loopw [9] (fun i wr => ∃ k : Nat,k ≤ n ∧ i = .int .i64 k ∧ wr.heap[w.heap.size]? = some (.cells #[.int .i64 (hiOf (sm (l.take k))),.int .u64 (loOf (sm (l.take k)))] 148 (0,0)) ∧ Below w.heap.size w wr) (fun i _ => n - (intOf i).toNat)
 case atStart => exact ⟨0,by omega,rfl,heap_alloc_new w _,(Below.refl _ _).alloc (Nat.le_refl _) _⟩
 case round =>
   obtain ⟨k,hk,rfl,hB',hb'⟩:=hrel
   have HB:=Lib.hid hB'; clear hB'
   by_cases hlt : k < n
   · obtain ⟨x,hx⟩ : ∃ x,l[k]? = some x:=⟨l[k]'(by rw [HL.out]; exact hlt),by rw [List.getElem?_eq_getElem]⟩
     obtain ⟨b,o,rfl,hc,hbl⟩:=HR.out.2 k (iv x) (by simp [hx])
     have hc' : wr.cell? ⟨b,o + k,none⟩ = some (.int .i64 x):=by rw [hb'.cell hbl]; exact hc
     have hxr:=HI.out x (List.mem_of_getElem? hx)
     have hs:=sm_take hx
     have f1:=sm_fits HI.out k (by omega)
     have f2:=sm_fits HI.out (k + 1) (by omega)
     rw [hs] at f2
     have HS:=Lib.hid hs
     have F1:=Lib.hid f1
     have F2:=Lib.hid f2
     have F3:=Lib.hid (fits_small hxr.1 hxr.2)
     have HX:=Lib.hid hxr
     clear hs f1 f2 hxr hx hc
     generalize sm (l.take k) = s at *
     have c0 : wr.cell? ⟨w.heap.size,0,none⟩ = some (.int .i64 (hiOf s)):=(cell_of_row _ _ _ _ _ _ HB.out).trans rfl
     have c1 : wr.cell? ⟨w.heap.size,1,none⟩ = some (.int .u64 (loOf s)):=(cell_of_row _ _ _ _ _ _ HB.out).trans rfl
     have HBB:=Lib.hid hb'; clear hb'
     have hlb:=Lib.hid hbl; clear hbl
     have L0:=Lib.hid (block_lt_of_cell c0)
     go_wp2_with fail
     go_region_with (first
       | (go_at_call 179; go_loud (refine (of_any x _ HX.out.1 HX.out.2).mono ?_; rintro e w1 ⟨rfl,hb1⟩; have d0 : w1.cell? ⟨w.heap.size,0,none⟩ = some (.int .i64 (hiOf s)):=(hb1.cell L0.out).trans c0; have d1 : w1.cell? ⟨w.heap.size,1,none⟩ = some (.int .u64 (loOf s)):=(hb1.cell L0.out).trans c1; have HB1:=Lib.hid ((hb1.block _ L0.out).trans HB.out); have HW1:=Lib.hid (HBB.out.drew.trans (hb1.mono HBB.out.size)); clear hb1))
       | (go_at_call 178; refine (add_fits s x _ F1.out F3.out F2.out).mono ?_; rintro e w2 ⟨rfl,hb2⟩; have HB2:=Lib.hid ((hb2.block _ (lt_of_block HB1.out)).trans HB1.out); have e0 : w2.cell? ⟨w.heap.size,0,none⟩ = some (.int .i64 (hiOf s)):=(cell_of_row _ _ _ _ _ _ HB2.out).trans rfl; have e1 : w2.cell? ⟨w.heap.size,1,none⟩ = some (.int .u64 (loOf s)):=(cell_of_row _ _ _ _ _ _ HB2.out).trans rfl; have HW2:=Lib.hid (HW1.out.trans (hb2.mono HW1.out.size)); have hf0 : w2.frozen? ⟨w.heap.size,0,none⟩ = false:=frozen_of_row _ _ _ _ _ HB2.out; have hf1 : w2.frozen? ⟨w.heap.size,1,none⟩ = false:=frozen_of_row _ _ _ _ _ HB2.out; clear hb2))
     all_goals clear e0 e1 d0 d1 c0 c1 hf0 hf1 hc'
     all_goals go_wp2
     all_goals go_roundw
     all_goals first
     | (simp [intOf]; omega; done)
     | skip
     all_goals
       refine ⟨k + 1,by omega,by go_num,?_,(HW2.out.setCell (Nat.le_refl _) _).setCell (Nat.le_refl _) _⟩
       rw [HS.out,heap_setCell_same _ _ _ _ _ _ (heap_setCell_same _ _ _ _ _ _ HB2.out)]
       rfl
   · obtain rfl : k = n:=by omega
     have hfin : l.take k = l:=List.take_of_length_le (by rw [HL.out]; exact Nat.le_refl _)
     have f1:=sm_fits HI.out k (by omega)
     rw [hfin] at f1
     rw [hfin] at HB
     have F1:=Lib.hid f1
     clear f1 hfin
     have KS:=Lib.hid KI.out
     unfold W at KS
     generalize sm l = s at HB F1 KS
     have c0 : wr.cell? ⟨w.heap.size,0,none⟩ = some (.int .i64 (hiOf s)):=(cell_of_row _ _ _ _ _ _ HB.out).trans rfl
     have c1 : wr.cell? ⟨w.heap.size,1,none⟩ = some (.int .u64 (loOf s)):=(cell_of_row _ _ _ _ _ _ HB.out).trans rfl
     have HBB:=Lib.hid hb'; clear hb'
     go_wp2_with (go_at_call 180; refine (KS.out _).mono ?_; rintro e w1 ⟨rfl,hb1⟩; have HW1:=Lib.hid (HBB.out.trans (hb1.mono HBB.out.size)); clear hb1)
     go_ret2
     exact ⟨rfl,HW1.out⟩
end Go.Proofs.YtejaocnhekjfiaaGreatDoor.S02
namespace Go.Proofs.YtejaocnhekjfiaaGreatDoor.S02
open Go.RowKit
set_option linter.unusedVariables false
theorem row_two (w : World) (a b : Value) (e : TypeId) : Row (w.alloc (.cells #[a,b] e)) (some ⟨w.heap.size,0,none⟩) 2 [a,b]:=by
 refine ⟨rfl,fun i x hx => ⟨w.heap.size,0,rfl,?_,by simp⟩⟩
 rw [Nat.zero_add,cell_of_row _ _ _ _ _ _ (heap_alloc_new w _)]
 have : i = 0 ∨ i = 1 ∨ 2 ≤ i:=by omega
 rcases this with rfl | rfl | h
 · simpa using hx
 · simpa using hx
 · rw [List.getElem?_eq_none (by simpa using h)] at hx; simp at hx
set_option maxRecDepth 100000 in
set_option maxHeartbeats 1000000 in
theorem plus_any (a b : Int) (w : World) (h1 : -9223372036854775808 ≤ a) (h2 : a ≤ 9223372036854775807) (h3 : -9223372036854775808 ≤ b) (h4 : b ≤ 9223372036854775807) :
   Calls Tryz.prog 245 #[.int .i64 a,.int .i64 b] w fun e w' => e = .returned (smallV (a + b)) ∧ Below w.heap.size w w':=by
 have k:=fun (e : TypeId) => sum_any [a,b] (some ⟨w.heap.size,0,none⟩) 2 2 (w.alloc (.cells #[.int .i64 a,.int .i64 b] e)) (row_two w (iv a) (iv b) e) (by intro x hx; simp at hx; omega) (by omega)
 rw [show sm [a,b] = a + b from by simp [sm]] at k
 obtain ⟨r,d,hsv⟩ : ∃ r d,smallV (a + b) = .tuple #[.int .i64 r,.bool d]:=⟨_,_,rfl⟩
 rw [hsv] at k ⊢
 clear hsv
 have K:=Lib.hid k; clear k
 go_enter Tryz.func245,Tryz.ntmps245
 go_wp2_with (go_at_call 138; refine (K.out _).mono ?_; rintro e w1 ⟨rfl,hb1⟩; have HW1:=Lib.hid (((Below.refl w.heap.size w).alloc (Nat.le_refl _) _).trans (hb1.mono (by simp))); clear hb1)
 go_ret2
 exact ⟨rfl,HW1.out⟩
theorem sub_fits (a b : Int) (w : World) (ha : Fits a) (hb : Fits b) (hab : Fits (a - b)) :
   Calls Tryz.prog 213 #[W a,W b] w fun e w' => e = .returned (.tuple #[.agg #[.int .i64 (hiOf (a - b)),.int .u64 (loOf (a - b))],.bool true]) ∧ Below w.heap.size w w':=by
 have:=sub_any a b w ha hb
 unfold fitW at this
 rw [if_pos hab,decide_eq_true hab] at this
 exact this
set_option maxRecDepth 100000 in
set_option maxHeartbeats 1000000 in
theorem minus_any (a b : Int) (w : World) (h1 : -9223372036854775808 ≤ a) (h2 : a ≤ 9223372036854775807) (h3 : -9223372036854775808 ≤ b) (h4 : b ≤ 9223372036854775807) :
   Calls Tryz.prog 181 #[.int .i64 a,.int .i64 b] w fun e w' => e = .returned (smallV (a - b)) ∧ Below w.heap.size w w':=by
 have ka:=fun w => of_any a w h1 h2
 have kb:=fun w => of_any b w h3 h4
 have ks:=fun w => sub_fits a b w (fits_small h1 h2) (fits_small h3 h4) (by unfold Fits; omega)
 have ki:=fun w => int_any (a - b) w
 obtain ⟨r,d,hsv⟩ : ∃ r d,smallV (a - b) = .tuple #[.int .i64 r,.bool d]:=⟨_,_,rfl⟩
 rw [hsv] at ki ⊢
 clear hsv
 obtain ⟨n,hn⟩ : ∃ n,n = a - b:=⟨_,rfl⟩
 rw [← hn] at ks ki
 unfold W at ki
 clear hn
 have KA:=Lib.hid ka; have KB:=Lib.hid kb; have KS:=Lib.hid ks; have KI:=Lib.hid ki
 clear ka kb ks ki h1 h2 h3 h4
 go_enter Tryz.func181,Tryz.ntmps181
 go_wp2_with fail
 refine (KA.out _).mono ?_
 rintro e w1 ⟨rfl,hb1⟩
 have B1:=Lib.hid hb1; clear hb1
 go_wp2_with fail
 refine (KB.out _).mono ?_
 rintro e w2 ⟨rfl,hb2⟩
 have B2:=Lib.hid (B1.out.trans (hb2.mono B1.out.size)); clear hb2
 go_wp2_with fail
 refine (KS.out _).mono ?_
 rintro e w3 ⟨rfl,hb3⟩
 have B3:=Lib.hid (B2.out.trans (hb3.mono B2.out.size)); clear hb3
 go_wp2_with fail
 refine (KI.out _).mono ?_
 rintro e w4 ⟨rfl,hb4⟩
 have B4:=Lib.hid ((B3.out.alloc B3.out.size _).trans (hb4.mono (B3.out.alloc B3.out.size _).size)); clear hb4
 go_wp2
 go_ret2
 exact ⟨rfl,B4.out⟩
end Go.Proofs.YtejaocnhekjfiaaGreatDoor.S02
namespace Go.Proofs.YtejaocnhekjfiaaGreatDoor
open Go.RowKit
set_option linter.unusedVariables false
def Joins (fn : Nat) (op : Int → Int → Int) (zs ys : List Int) : Prop:=
 ∀ (k : Nat) (x y : Int),zs[k]? = some x → ys[k]? = some y → ∀ w,Calls Tryz.prog fn #[.int .i64 x,.int .i64 y] w fun e w' => e = .returned (.tuple #[.int .i64 (op x y),.bool true]) ∧ Below w.heap.size w w'
theorem GridIs.cells' {w g r R W zs} (h : GridIs w g r R W zs) {n : Nat} (hn : zs.length = n) : ∃ cap : Nat,w.cell? ⟨g,0,none⟩ = some (.int .i64 R) ∧ w.cell? ⟨g,1,none⟩ = some (.int .i64 W) ∧ w.cell? ⟨g,2,none⟩ = some (.slice (some ⟨r,0,none⟩) n cap) ∧ n ≤ cap ∧ cap ≤ 9223372036854775807:=by
 subst hn; exact h.cells
def part_ (op : Int → Int → Int) (zs ys : List Int) (k : Nat) : List Int:=(List.zipWith op zs ys).take k ++ List.replicate (zs.length - k) 0
theorem part_len {op : Int → Int → Int} {zs ys : List Int} (h : ys.length = zs.length) {k : Nat} (hk : k ≤ zs.length) : (part_ op zs ys k).length = zs.length:=by
 unfold part_; simp [h]; omega
theorem part_zero {op : Int → Int → Int} {zs ys : List Int} : part_ op zs ys 0 = List.replicate zs.length 0:=by unfold part_; simp
theorem part_all {op : Int → Int → Int} {zs ys : List Int} : part_ op zs ys zs.length = List.zipWith op zs ys:=by
 unfold part_; rw [Nat.sub_self,List.replicate_zero,List.append_nil]; exact List.take_of_length_le (by simp; omega)
theorem part_set {op : Int → Int → Int} {zs ys : List Int} {k : Nat} {x y : Int} (hx : zs[k]? = some x) (hy : ys[k]? = some y) : (part_ op zs ys k).set k (op x y) = part_ op zs ys (k + 1):=by
 unfold part_
 obtain ⟨h1,h1'⟩:=List.getElem?_eq_some_iff.1 hx
 obtain ⟨h2,h2'⟩:=List.getElem?_eq_some_iff.1 hy
 have hz : (List.zipWith op zs ys)[k]? = some (op x y):=by rw [List.getElem?_zipWith,hx,hy]
 have hl : ((List.zipWith op zs ys).take k).length = k:=by simp; omega
 rw [List.set_append_right _ _ (by omega),hl,Nat.sub_self,List.take_add_one,hz,List.append_assoc]
 congr 1
 rw [show zs.length - k = (zs.length - (k + 1)) + 1 by omega,List.replicate_succ]
 simp
theorem below_cell {w1 wr : World} (hb : Below w1.heap.size w1 wr) {a : Addr} {v : Value} (h : w1.cell? a = some v) : wr.cell? a = some v:=(hb.cell (block_lt_of_cell h)).trans h
theorem Ints.below {w w' : World} {r zs} (h : Ints w r zs) (hb : Below w.heap.size w w') : Ints w' r zs:=h.upd (S:=fun _ => False) (Upd.of_below hb) id
theorem wpList_copy_ints {w : World} {ops : Array Oper} {rest : List Oper} {o : Oper} {a : Act} {Q : Exit → Act → World → Prop} (hgd : o.guard = none) (d s : Operand)
   (ho : o.op = .call { callee:=.builtin .copy,args:=#[d,s],argTypes:=#[125,125] }) (r r2 n c c2 : Nat) (zs ys : List Int)
   (hd : a.eval d = .slice (some ⟨r,0,none⟩) n c) (hs : a.eval s = .slice (some ⟨r2,0,none⟩) n c2) (hz : Ints w r zs) (hy : Ints w r2 ys) (h1 : zs.length = n) (h2 : ys.length = n)
   (h : ∀ w',Only r w w' → Ints w' r ys → wpList Tryz.prog ops Q rest (a.put o.dst (.int .i64 n)) w') : wpList Tryz.prog ops Q (o :: rest) a w:=by
 obtain ⟨sp,hr⟩:=hz.row
 refine wpList_copy_own hgd d s 125 125 ho 2 Tryz.underlying125 (by kernel_rfl) r 0 n c ⟨r2,0,none⟩ n c2 hd hs _ 2 hr (ys.map (Value.int .i64)) (by simp [h2]) ?_ (by simp; omega) (iv_one ys) ?_
 · intro j v hj
   rw [List.getElem?_map,Option.map_eq_some_iff] at hj
   obtain ⟨x,hx,rfl⟩:=hj
   have:=hy.cell hx
   unfold Addr.add
   split
   · rename_i e; subst e; exact this
   · rw [Nat.zero_add]; exact this
 · have e : (ys.map (Value.int .i64)).length = n:=by simp [h2]
   rw [e]
   refine h _ ⟨rfl,rfl,rfl,by simp [World.setRow],fun k hk => setRow_other w r k _ (by omega)⟩ ⟨sp,?_⟩
   rw [setRow_heap w r _ _ 2 _ hr]
   congr 3
   simp only [List.take_zero,List.nil_append,Nat.zero_add]
   rw [List.drop_append_of_le_length (by simp; omega),List.drop_of_length_le (by simp; omega),List.nil_append]
set_option maxRecDepth 100000 in
set_option maxHeartbeats 2000000 in
theorem joint_plus {w g r R W zs g2 r2 ys} (h : GridIs w g r R W zs) (h2 : GridIs w g2 r2 R W ys) (hj : Joins 245 (· + ·) zs ys) :
   Calls Tryz.prog 246 #[.agg #[.pointer (some ⟨g,0,none⟩),.func (.func 245) #[] #[]],.pointer (some ⟨g2,0,none⟩)] w fun e w' =>
     e = .returned (.int .i64 0) ∧ Upd (· = r) w w' ∧ GridIs w' g r R W (List.zipWith (· + ·) zs ys):=by
 have hb1:=(Below.refl w.heap.size w).alloc (Nat.le_refl _) (.cells #[.pointer (some ⟨g,0,none⟩),.func (.func 245) #[] #[]] 377)
 have B0:=heap_alloc_new w (.cells #[.pointer (some ⟨g,0,none⟩),.func (.func 245) #[] #[]] 377)
 have G1:=Lib.hid (h.below hb1)
 have G2:=Lib.hid (h2.below hb1)
 have hs:=h.size
 have hn : ys.length = zs.length:=by rw [h.len,h2.len]
 obtain ⟨n,hln⟩ : ∃ n,zs.length = n:=⟨_,rfl⟩
 have hln2 : ys.length = n:=by rw [hn,hln]
 have HN:=Lib.hid hln
 have HN2:=Lib.hid hln2
 have HJ:=Lib.hid hj
 have hmk:=mk_i64 n (by omega)
 rw [hln] at hs
 have HH:=Lib.hid h
 have HB1:=Lib.hid hb1
 clear h h2 hj hn hln hln2 hb1
 go_enter Tryz.func246,Tryz.ntmps246
 go_upto_region 1 with fail
 generalize w.alloc (.cells #[.pointer (some ⟨g,0,none⟩),.func (.func 245) #[] #[]] 377) = w1 at *
 obtain ⟨cap,c0,c1,c2,c3,c4⟩:=G1.out.cells' HN.out
 obtain ⟨cap2,d0,d1,d2,d3,d4⟩:=G2.out.cells' HN2.out
 have b0 : w1.cell? ⟨w.heap.size,0,none⟩ = some (.pointer (some ⟨g,0,none⟩)):=(cell_of_row _ _ _ _ _ _ B0).trans rfl
 have b1 : w1.cell? ⟨w.heap.size,1,none⟩ = some (.func (.func 245) #[] #[]):=(cell_of_row _ _ _ _ _ _ B0).trans rfl
 have e2:=cell_da d2
 have C2:=Lib.hid c2
 have B0':=Lib.hid b0
 have B1':=Lib.hid b1
 clear B0
 go_quiet (fail)
 go_wp2_with fail
 clear e2 d0 d1 d2 d3 d4 b0 b1 c0 c1 c2 hmk
 go_loopw [48] (fun u wr => ∃ k : Nat,k ≤ n ∧ u = .int .i64 k ∧ Hid (Ints wr w1.heap.size (part_ (· + ·) zs ys k)) ∧ Hid (Below w1.heap.size w1 wr)) (fun u _ => n - (intOf u).toNat)
 case atStart =>
   refine ⟨0,Nat.zero_le _,rfl,Lib.hid ?_,Lib.hid ?_⟩
   · rw [part_zero,HN.out]
     exact ⟨(Ints.new w1 n).row⟩
   · have hb:=(Below.refl w1.heap.size w1).alloc (Nat.le_refl _) (.cells (Array.replicate n (Value.int .i64 0)) 2)
     exact ⟨hb.os,hb.tape,hb.output,hb.size,hb.block⟩
 case round =>
   obtain ⟨k,hk,rfl,HI,HB⟩:=hrel
   have HG1:=Lib.hid (G1.out.below HB.out)
   have HG2:=Lib.hid (G2.out.below HB.out)
   by_cases hlt : k < n
   · obtain ⟨x,hx⟩ : ∃ x,zs[k]? = some x:=⟨zs[k]'(by rw [HN.out]; exact hlt),List.getElem?_eq_getElem _⟩
     obtain ⟨y,hy⟩ : ∃ y,ys[k]? = some y:=⟨ys[k]'(by rw [HN2.out]; exact hlt),List.getElem?_eq_getElem _⟩
     have dy:=HG2.out.row.cell hy
     have dx:=HG1.out.row.cell hx
     have hlt2 : (k : Int) < (n : Int):=by omega
     have KJ:=Lib.hid (fun d os => Calls.regrown_of (d:=d) (os:=os) (HJ.out k x y hx hy (Sort.grow (redrawn wr d) os)))
     have HS:=Lib.hid (part_set (op:=(· + ·)) hx hy)
     have HL:=Lib.hid (show (part_ (· + ·) zs ys k).length = n by rw [part_len (by rw [HN.out,HN2.out]) (by rw [HN.out]; exact hk),HN.out])
     clear hx hy
     have b0:=below_cell HB.out B0'.out
     have b1:=below_cell HB.out B1'.out
     have c2:=below_cell HB.out C2.out
     go_upto_region 7 with fail
     have q0:=fun d os => cell_regrown b0 d os
     have q1:=fun d os => cell_regrown b1 d os
     have q2:=fun d os => cell_regrown c2 d os
     have q3:=fun d os => cell_regrown dx d os
     have hk3 : (0 : Int) ≤ (k : Int):=by omega
     refine wp_region_quiet_below (by kernel_rfl) (by kernel_rfl) ?_
     repeat (go_big_quiet_step (with_reducible exact KJ.out _ _))
     refine wpQuiet_nil ?_
     intro _ hw'
     obtain ⟨⟨dq,osq⟩,hw''⟩:=hw'
     subst hw''
     have hb:=below_regrown wr dq osq
     have HI3:=Lib.hid (HI.out.below hb)
     have HB3:=Lib.hid (HB.out.trans (hb.mono HB.out.size))
     generalize Sort.grow (redrawn wr dq) osq = w3 at *
     obtain ⟨z,hz⟩ : ∃ z,(part_ (· + ·) zs ys k)[k]? = some z:=⟨_,List.getElem?_eq_getElem (by rw [HL.out]; exact hlt)⟩
     have o0:=HI3.out.cell hz
     have f0:=HI3.out.frozen k
     clear hb hz q0 q1 q2 q3 b0 b1 c2 dx dy
     go_wp2_with fail
     go_roundw
     case rel =>
       refine ⟨k + 1,by omega,by go_num,Lib.hid ?_,Lib.hid (HB3.out.setCell (p:=⟨w1.heap.size,k,none⟩) (Nat.le_refl _) _)⟩
       rw [← HS.out]
       exact HI3.out.set k (x + y) (by rw [HL.out]; exact hlt)
     case measure => simp [intOf]; omega
   · obtain rfl : n = k:=by omega
     have b0:=below_cell HB.out B0'.out
     have c2:=below_cell HB.out C2.out
     have HZ:=Lib.hid (show Ints wr w1.heap.size (List.zipWith (· + ·) zs ys) by have:=HI.out; rwa [← HN.out,part_all] at this)
     have HL:=Lib.hid (show (List.zipWith (· + ·) zs ys).length = n by simp [HN.out,HN2.out])
     have hlt : decide (n < n) = false:=by simp
     go_wp2_with (with_reducible refine wpList_copy_ints rfl (.tmp 79) (.tmp 80) rfl r w1.heap.size n cap n zs (List.zipWith (· + ·) zs ys) rfl rfl HG1.out.row HZ.out HN.out HL.out ?_)
     intro w4 ho hi
     have HO:=Lib.hid ho
     have HI4:=Lib.hid hi
     clear ho hi
     go_wp2_with fail
     go_ret
     have hu : Upd (· = r) w wr:=Upd.of_below (HB1.out.trans (HB.out.mono HB1.out.size))
     refine ⟨rfl,hu.trans (Upd.of_only HO.out rfl),?_⟩
     obtain ⟨cp,e1,e2⟩:=HG1.out.blk
     exact ⟨⟨cp,by rw [HL.out,← HN.out]; exact (HO.out.block _ HG1.out.ne).trans e1,by rw [HL.out,← HN.out]; exact e2⟩,HI4.out,by rw [HL.out,← HN.out]; exact HG1.out.len,HG1.out.r1,HG1.out.r8,HG1.out.w1,HG1.out.w8⟩
end Go.Proofs.YtejaocnhekjfiaaGreatDoor
namespace Go.Proofs.YtejaocnhekjfiaaGreatDoor
open Go.RowKit
set_option linter.unusedVariables false
structure ColsI (w : World) (r : Nat) (zs : List Int) : Prop where
 row : ∃ rest : List Value,w.heap[r]? = some (.cells (zs.map (Value.int .i64) ++ rest).toArray 3 (0,0))
theorem ColsI.lt {w r zs} (h : ColsI w r zs) : r < w.heap.size:=by obtain ⟨rest,hh⟩:=h.row; exact lt_of_block hh
theorem ColsI.cell {w r zs} (h : ColsI w r zs) {i : Nat} {x : Int} (hx : zs[i]? = some x) : w.cell? ⟨r,i,none⟩ = some (.int .i64 x):=by
 obtain ⟨rest,hh⟩:=h.row
 refine (cell_of_row _ _ _ _ _ _ hh).trans ?_
 have hi : i < zs.length:=(List.getElem?_eq_some_iff.1 hx).1
 simp only [List.getElem?_toArray]
 rw [List.getElem?_append_left (by simpa using hi),List.getElem?_map,hx]; rfl
theorem ColsI.frozen {w r zs} (h : ColsI w r zs) (i : Nat) : w.frozen? ⟨r,i,none⟩ = false:=by obtain ⟨rest,hh⟩:=h.row; exact frozen_of_row _ _ _ _ _ hh
theorem ColsI.upd {S : Nat → Prop} {w w' : World} {r zs} (h : ColsI w r zs) (hu : Upd S w w') (hr : ¬ S r) : ColsI w' r zs:=by
 obtain ⟨rest,hh⟩:=h.row; exact ⟨rest,hu.heap hh hr⟩
theorem ColsI.set {w r zs} (h : ColsI w r zs) (i : Nat) (x : Int) (hi : i < zs.length) : ColsI (w.setCell ⟨r,i,none⟩ (.int .i64 x)) r (zs.set i x):=by
 obtain ⟨rest,hh⟩:=h.row
 refine ⟨rest,?_⟩
 rw [heap_setCell_same _ _ _ _ _ _ hh]
 congr 2
 apply Array.ext'
 simp only [Array.toList_setIfInBounds,List.map_set]
 rw [List.set_append_left _ _ (by simpa using hi)]
theorem ColsI.below {w w' : World} {r zs} (h : ColsI w r zs) (hb : Below w.heap.size w w') : ColsI w' r zs:=h.upd (S:=fun _ => False) (Upd.of_below hb) id
theorem ColsI.new (w : World) (n : Nat) : ColsI (w.alloc (.cells (Array.replicate n (Value.int .i64 0)) 3)) w.heap.size (List.replicate n 0):=
 ⟨[],by rw [List.append_nil,List.map_replicate,List.toArray_replicate]; exact heap_alloc_new _ _⟩
def Cfg.col (c : Cfg) (n row key : Nat) : Nat:=colF c.seed c.width n row key
def colsOf (c : Cfg) (n key : Nat) : List Int:=(List.range c.rows).map fun row => (c.col n row key : Int)
theorem Cfg.col_lt (c : Cfg) (hc : c.ok) (n row key : Nat) : c.col n row key < c.width:=Nat.mod_lt _ hc.w1
set_option maxRecDepth 100000 in
set_option maxHeartbeats 1000000 in
theorem col_any (c : Cfg) (hc : c.ok) (n row key b3 b4 b5 : Nat) (w : World) (hn : n ≤ 59) (hr : row < 8) (hk : key < 18446744073709551616)
   (h3 : w.heap[b3]? = some (cfgO c)) (h4 : w.heap[b4]? = some (.cells #[.int .i64 n] 3 (0,0))) (h5 : w.heap[b5]? = some (.cells #[.int .u64 key] 22 (0,0))) :
   Calls Tryz.prog 40 #[.int .i64 row,.pointer (some ⟨b3,0,none⟩),.pointer (some ⟨b4,0,none⟩),.pointer (some ⟨b5,0,none⟩)] w fun e w' => e = .returned (.int .i64 (c.col n row key)) ∧ Below w.heap.size w w':=by
 have K1:=Lib.hid (fun w => pair_any c.seed n row w hc.s hn hr)
 have K2:=Lib.hid (fun w => bucket_any (pairA c.seed n row) (pairB c.seed n row) key c.width w (pairA_lt _ _ _) (pairB_lt _ _ _) hk hc.w1 hc.w8)
 rw [show ((pairA c.seed n row * key % S25.PR + pairB c.seed n row) % S25.PR) % c.width = c.col n row key from rfl] at K2
 generalize c.col n row key = rr at *
 have c4 : w.cell? ⟨b3,4,none⟩ = some (.int .u64 c.seed):=(cell_of_row _ _ _ _ _ _ h3).trans rfl
 have c2 : w.cell? ⟨b3,2,none⟩ = some (.int .i64 c.width):=(cell_of_row _ _ _ _ _ _ h3).trans rfl
 have d0 : w.cell? ⟨b4,0,none⟩ = some (.int .i64 n):=(cell_of_row _ _ _ _ _ _ h4).trans rfl
 have e0 : w.cell? ⟨b5,0,none⟩ = some (.int .u64 key):=(cell_of_row _ _ _ _ _ _ h5).trans rfl
 have C2:=Lib.hid c2
 have E0:=Lib.hid e0
 clear hc h3 h4 h5 hn hr hk c2 e0
 go_enter Tryz.func40,Tryz.ntmps40
 go_wp2_with fail
 refine (K1.out _).mono ?_
 rintro e w1 ⟨rfl,hb⟩
 have HB:=Lib.hid hb
 have c2:=below_cell hb C2.out
 have e0:=below_cell hb E0.out
 clear hb c4 d0
 go_wp2_with fail
 refine (K2.out _).mono ?_
 rintro e w2 ⟨rfl,hb⟩
 have HB2:=Lib.hid (HB.out.then hb); clear hb c2 e0
 go_wp2_with fail
 go_ret
 exact ⟨rfl,HB2.out⟩
def fillL (l : List Int) (k : Nat) : List Int:=l.take k ++ List.replicate (l.length - k) 0
theorem fillL_len {l : List Int} {k : Nat} (hk : k ≤ l.length) : (fillL l k).length = l.length:=by unfold fillL; simp; omega
theorem fillL_zero (l : List Int) : fillL l 0 = List.replicate l.length 0:=by unfold fillL; simp
theorem fillL_all (l : List Int) : fillL l l.length = l:=by unfold fillL; simp
theorem fillL_set {l : List Int} {k : Nat} {x : Int} (hx : l[k]? = some x) : (fillL l k).set k x = fillL l (k + 1):=by
 unfold fillL
 obtain ⟨h1,h1'⟩:=List.getElem?_eq_some_iff.1 hx
 have hl : (l.take k).length = k:=by simp; omega
 rw [List.set_append_right _ _ (by omega),hl,Nat.sub_self,List.take_add_one,hx,List.append_assoc]
 congr 1
 rw [show l.length - k = (l.length - (k + 1)) + 1 by omega,List.replicate_succ]
 simp
def NewCols (w : World) (zs : List Int) (e : Ending) (w' : World) : Prop:=
 ∃ g : Nat,e = .returned (.slice (some ⟨g,0,none⟩) zs.length zs.length) ∧ ColsI w' g zs ∧ w.heap.size ≤ g ∧ Below w.heap.size w w'
set_option maxRecDepth 100000 in
set_option maxHeartbeats 2000000 in
theorem columns_ok (c : Cfg) (hc : c.ok) (n key : Nat) (hn : n ≤ c.bits) (hk : key < 2 ^ (c.bits - n)) (w : World) :
   Calls Tryz.prog 21 #[cfgV c,.int .i64 n,.int .u64 key] w (NewCols w (colsOf c n key)):=by
 have hb3:=(Below.refl w.heap.size w).alloc (Nat.le_refl _) (cfgO c)
 have hb4:=hb3.alloc hb3.size (.cells #[.int .i64 n] 3)
 have hb5:=hb4.alloc hb4.size (.cells #[.int .u64 key] 22)
 have l3 : (((w.alloc (cfgO c)).alloc (.cells #[.int .i64 n] 3)).alloc (.cells #[.int .u64 key] 22)).heap[w.heap.size]? = some (cfgO c):=by
   rw [Below.heap_alloc _ _ _ (by simp; omega),Below.heap_alloc _ _ _ (by simp)]; exact heap_alloc_new _ _
 have l4 : (((w.alloc (cfgO c)).alloc (.cells #[.int .i64 n] 3)).alloc (.cells #[.int .u64 key] 22)).heap[w.heap.size + 1]? = some (.cells #[.int .i64 n] 3 (0,0)):=by
   rw [Below.heap_alloc _ _ _ (by simp)]
   have:=heap_alloc_new (w.alloc (cfgO c)) (.cells #[.int .i64 n] 3)
   rwa [World.size_alloc] at this
 have l5 : (((w.alloc (cfgO c)).alloc (.cells #[.int .i64 n] 3)).alloc (.cells #[.int .u64 key] 22)).heap[w.heap.size + 1 + 1]? = some (.cells #[.int .u64 key] 22 (0,0)):=by
   have:=heap_alloc_new ((w.alloc (cfgO c)).alloc (.cells #[.int .i64 n] 3)) (.cells #[.int .u64 key] 22)
   rwa [World.size_alloc,World.size_alloc] at this
 have hz : (((w.alloc (cfgO c)).alloc (.cells #[.int .i64 n] 3)).alloc (.cells #[.int .u64 key] 22)).heap.size = w.heap.size + 3:=by simp
 have hp:=pow_lt59 (c.bits - n) (by have:=hc.b59; omega)
 have KK:=Lib.hid (fun w => keys_ok c hc n hn w)
 have g0 : decide (2 ^ (c.bits - n) ≤ key) = false:=by
   generalize 2 ^ (c.bits - n) = t at *
   simp; omega
 have hk64 : key < 18446744073709551616:=by omega
 have hn59 : n ≤ 59:=by have:=hc.b59; omega
 have KC:=Lib.hid (fun (row : Nat) (wx : World) (hr : row < 8) h3 h4 h5 => col_any c hc n row key w.heap.size (w.heap.size + 1) (w.heap.size + 1 + 1) wx hn59 hr hk64 h3 h4 h5)
 have hl : (colsOf c n key).length = c.rows:=by simp [colsOf]
 have HLn:=Lib.hid hl
 have hg : ∀ r,r < c.rows → (colsOf c n key)[r]? = some (c.col n r key : Int):=fun r hr => by simp [colsOf,hr]
 have HG:=Lib.hid hg
 have HB:=Lib.hid hb5
 have HZ:=Lib.hid hz
 have L3:=Lib.hid l3
 have L4:=Lib.hid l4
 have L5:=Lib.hid l5
 have r8:=hc.r8
 have r1:=hc.r1
 have hmk:=mk_int c.rows (by omega)
 clear hb3 hb4 hb5 hc hk hn hl hg hz l3 l4 l5 hp
 generalize 2 ^ (c.bits - n) = m at *
 unfold cfgV cfgO at *
 go_enter Tryz.func21,Tryz.ntmps21
 go_upto_region 1 with fail
 generalize ((w.alloc (.cells #[.int .i64 c.bits,.int .i64 c.rows,.int .i64 c.width,.int .i64 c.mode,.int .u64 c.seed] 24)).alloc (.cells #[.int .i64 n] 3)).alloc (.cells #[.int .u64 key] 22) = w1 at *
 have a0 : w1.cell? ⟨w.heap.size,0,none⟩ = some (.int .i64 c.bits):=(cell_of_row _ _ _ _ _ _ L3.out).trans rfl
 have a1 : w1.cell? ⟨w.heap.size,1,none⟩ = some (.int .i64 c.rows):=(cell_of_row _ _ _ _ _ _ L3.out).trans rfl
 have a2 : w1.cell? ⟨w.heap.size,2,none⟩ = some (.int .i64 c.width):=(cell_of_row _ _ _ _ _ _ L3.out).trans rfl
 have a3 : w1.cell? ⟨w.heap.size,3,none⟩ = some (.int .i64 c.mode):=(cell_of_row _ _ _ _ _ _ L3.out).trans rfl
 have a4 : w1.cell? ⟨w.heap.size,4,none⟩ = some (.int .u64 c.seed):=(cell_of_row _ _ _ _ _ _ L3.out).trans rfl
 have b0 : w1.cell? ⟨w.heap.size + 1,0,none⟩ = some (.int .i64 n):=(cell_of_row _ _ _ _ _ _ L4.out).trans rfl
 have d0 : w1.cell? ⟨w.heap.size + 1 + 1,0,none⟩ = some (.int .u64 key):=(cell_of_row _ _ _ _ _ _ L5.out).trans rfl
 have q0:=fun d os => cell_regrown a0 d os
 have q1:=fun d os => cell_regrown a1 d os
 have q2:=fun d os => cell_regrown a2 d os
 have q3:=fun d os => cell_regrown a3 d os
 have q4:=fun d os => cell_regrown a4 d os
 have q5:=fun d os => cell_regrown b0 d os
 have q6:=fun d os => cell_regrown d0 d os
 have KR:=Lib.hid (fun d os => Calls.regrown_of (d:=d) (os:=os) (KK.out (Sort.grow (redrawn w1 d) os)))
 clear KK
 refine wp_region_quiet_below (by kernel_rfl) (by kernel_rfl) ?_
 repeat (go_big_quiet_step (with_reducible exact KR.out _ _))
 refine wpQuiet_nil ?_
 intro _ hw'
 obtain ⟨⟨dq,osq⟩,hw''⟩:=hw'
 subst hw''
 have hb:=below_regrown w1 dq osq
 have a1:=below_cell hb a1
 have L3:=Lib.hid ((hb.block _ (lt_of_block L3.out)).trans L3.out)
 have L4:=Lib.hid ((hb.block _ (lt_of_block L4.out)).trans L4.out)
 have L5:=Lib.hid ((hb.block _ (lt_of_block L5.out)).trans L5.out)
 have HB2:=Lib.hid (HB.out.trans (hb.mono HB.out.size))
 generalize Sort.grow (redrawn w1 dq) osq = w2 at *
 clear hb q0 q1 q2 q3 q4 q5 q6 KR HB
 go_wp2_with fail
 go_loopw [21] (fun u wr => ∃ k : Nat,k ≤ c.rows ∧ u = .int .i64 k ∧ Hid (ColsI wr w2.heap.size (fillL (colsOf c n key) k)) ∧ Hid (Below w2.heap.size w2 wr)) (fun u _ => c.rows - (intOf u).toNat)
 case atStart =>
   refine ⟨0,Nat.zero_le _,rfl,Lib.hid ?_,Lib.hid ((Below.refl w2.heap.size w2).alloc (Nat.le_refl _) _)⟩
   rw [fillL_zero,HLn.out]
   exact ColsI.new w2 c.rows
 case round =>
   obtain ⟨k,hk,rfl,HI,HBr⟩:=hrel
   by_cases hlt : k < c.rows
   · have KX:=Lib.hid (KC.out k wr (by omega) ((HBr.out.block _ (lt_of_block L3.out)).trans L3.out) ((HBr.out.block _ (lt_of_block L4.out)).trans L4.out) ((HBr.out.block _ (lt_of_block L5.out)).trans L5.out))
     have HX:=Lib.hid (HG.out k hlt)
     have HS:=Lib.hid (fillL_set HX.out)
     have HL:=Lib.hid (show (fillL (colsOf c n key) k).length = c.rows by rw [fillL_len (by rw [HLn.out]; exact hk),HLn.out])
     generalize c.col n k key = x at *
     go_wp2_with fail
     refine KX.out.mono ?_
     rintro e w4 ⟨rfl,hb⟩
     have HI3:=Lib.hid (HI.out.below hb)
     have HB3:=Lib.hid (HBr.out.trans (hb.mono HBr.out.size))
     obtain ⟨z,hz⟩ : ∃ z,(fillL (colsOf c n key) k)[k]? = some z:=⟨_,List.getElem?_eq_getElem (by rw [HL.out]; exact hlt)⟩
     have o0:=HI3.out.cell hz
     have f0:=HI3.out.frozen k
     clear hb hz
     go_wp2_with fail
     go_roundw
     case rel =>
       refine ⟨k + 1,by omega,by go_num,Lib.hid ?_,Lib.hid (HB3.out.setCell (p:=⟨w2.heap.size,k,none⟩) (Nat.le_refl _) _)⟩
       rw [← HS.out]
       exact HI3.out.set k x (by rw [HL.out]; exact hlt)
     case measure => simp [intOf]; omega
   · have hkk : k = c.rows:=by omega
     have hfa : decide (k < c.rows) = false:=by simpa using hlt
     have HF:=Lib.hid (show ColsI wr w2.heap.size (colsOf c n key) by have:=HI.out; rw [hkk,← HLn.out,fillL_all] at this; exact this)
     clear hlt hkk
     go_wp2_with fail
     go_ret
     exact ⟨w2.heap.size,by rw [HLn.out]; rfl,HF.out,HB2.out.size,HB2.out.trans (HBr.out.mono HB2.out.size)⟩
end Go.Proofs.YtejaocnhekjfiaaGreatDoor
namespace Go.Proofs.YtejaocnhekjfiaaGreatDoor
open Go.RowKit
set_option linter.unusedVariables false
def cI (cols : List Nat) : List Int:=cols.map fun (x : Nat) => (x : Int)
theorem cI_at {cols : List Nat} {k x : Nat} (h : cols[k]? = some x) : (cI cols)[k]? = some (x : Int):=by unfold cI; rw [List.getElem?_map,h]; rfl
structure Meet (cols : List Nat) (R W : Nat) : Prop where
 len : cols.length = R
 lt : ∀ x ∈ cols,x < W
theorem Meet.at_ {cols R W} (h : Meet cols R W) {k : Nat} (hk : k < R) : ∃ x,cols[k]? = some x ∧ x < W:=by
 have hl:=h.len
 refine ⟨cols[k]'(by omega),List.getElem?_eq_getElem _,h.lt _ (List.getElem_mem _)⟩
set_option maxRecDepth 100000 in
set_option maxHeartbeats 1000000 in
theorem meet_ok {w g r R W zs b cols} (h : GridIs w g r R W zs) (hc : ColsI w b (cI cols)) (hm : Meet cols R W) (cap : Nat) :
   Calls Tryz.prog 306 #[.pointer (some ⟨g,0,none⟩),.slice (some ⟨b,0,none⟩) R cap] w fun e w' => e = .returned (.bool true) ∧ w = w':=by
 have K1:=fun w1 (e : w = w1) => rows_any (e ▸ h)
 have K2:=fun w1 (e : w = w1) => width_any (e ▸ h)
 have hr1:=h.r1
 have hr8:=h.r8
 have hw8:=h.w8
 have g0 : decide ((R : Int) < 1) = false:=by simp; omega
 have HC:=Lib.hid hc
 have HM:=Lib.hid hm
 have KR:=Lib.hid (rows_any h)
 have KW:=Lib.hid (width_any h)
 clear h hc hm K1 K2
 go_enter Tryz.func306,Tryz.ntmps306
 go_wp2_with (go_at_call 311; ((with_reducible refine KR.out.mono ?_)); rintro e w' ⟨rfl,rfl⟩)
 go_loop [23] (fun u => ∃ k : Nat,k ≤ R ∧ u = .int .i64 k) (fun u => R - (intOf u).toNat)
 case atStart => exact ⟨0,by omega,rfl⟩
 case round =>
   obtain ⟨k,hk,rfl⟩:=hrel
   by_cases hlt : k < R
   · obtain ⟨x,hx,hxw⟩:=HM.out.at_ hlt
     have d:=HC.out.cell (cI_at hx)
     have e0 : decide ((x : Int) < 0) = false:=by simp
     have e1 : decide (W ≤ x) = false:=by simpa using hxw
     clear hx
     go_wp2_with (go_at_call 293; ((with_reducible refine KW.out.mono ?_)); rintro e w' ⟨rfl,rfl⟩)
     go_round
     case rel => exact ⟨k + 1,by omega,by go_num⟩
     case measure => simp [intOf]; omega
   · have hfa : decide (k < R) = false:=by simpa using hlt
     go_wp2_with fail
     go_ret
     exact ⟨rfl,rfl⟩
def readC (W : Nat) (zs : List Int) (cols : List Nat) : List Int:=cols.mapIdx fun i c => zs.getD (i * W + c) 0
theorem readC_len (W : Nat) (zs : List Int) (cols : List Nat) : (readC W zs cols).length = cols.length:=by simp [readC]
theorem readC_at {W : Nat} {zs : List Int} {cols : List Nat} {k c : Nat} (h : cols[k]? = some c) : (readC W zs cols)[k]? = some (zs.getD (k * W + c) 0):=by
 unfold readC; rw [List.getElem?_mapIdx,h]; rfl
theorem grid_at {w g r R W zs} (h : GridIs w g r R W zs) {k c : Nat} (hk : k < R) (hc : c < W) : zs[k * W + c]? = some (zs.getD (k * W + c) 0) ∧ k * W + c < zs.length:=by
 have : k * W + c < zs.length:=by
   rw [h.len]
   calc k * W + c < k * W + W:=by omega
     _ = (k + 1) * W:=by rw [Nat.succ_mul]
     _ ≤ R * W:=Nat.mul_le_mul_right _ hk
 exact ⟨by rw [List.getD_eq_getElem?_getD,List.getElem?_eq_getElem this]; rfl,this⟩
def RRead (w : World) (zs : List Int) (e : Ending) (w' : World) : Prop:=∃ v,e = .returned (.tuple #[v,.int .i64 0]) ∧ NewInts w zs v w'
set_option maxRecDepth 100000 in
set_option maxHeartbeats 1000000 in
theorem read_ok {w g r R W zs b cols} (h : GridIs w g r R W zs) (hc : ColsI w b (cI cols)) (hm : Meet cols R W) (cap : Nat) :
   Calls Tryz.prog 301 #[.pointer (some ⟨g,0,none⟩),.slice (some ⟨b,0,none⟩) R cap] w (RRead w (readC W zs cols)):=by
 have KM:=Lib.hid (meet_ok h hc hm cap)
 have HG:=Lib.hid h
 have HC:=Lib.hid hc
 have HM:=Lib.hid hm
 have hr1:=h.r1
 have hr8:=h.r8
 have hmk:=mk_i64 R (by omega)
 have HL:=Lib.hid (show (readC W zs cols).length = R by rw [readC_len,hm.len])
 clear h hc hm
 go_enter Tryz.func301,Tryz.ntmps301
 go_wp2_with (go_at_call 306; ((with_reducible refine KM.out.mono ?_)); rintro e w' ⟨rfl,rfl⟩)
 go_loopw [18] (fun u wr => ∃ k : Nat,k ≤ R ∧ u = .int .i64 k ∧ Hid (Ints wr w.heap.size (fillL (readC W zs cols) k)) ∧ Hid (Below w.heap.size w wr)) (fun u _ => R - (intOf u).toNat)
 case atStart =>
   refine ⟨0,Nat.zero_le _,rfl,Lib.hid ?_,Lib.hid ((Below.refl w.heap.size w).alloc (Nat.le_refl _) _)⟩
   rw [fillL_zero,HL.out]
   exact Ints.new w R
 case round =>
   obtain ⟨k,hk,rfl,HI,HB⟩:=hrel
   by_cases hlt : k < R
   · obtain ⟨x,hx,hxw⟩:=HM.out.at_ hlt
     have hga:=grid_at HG.out hlt hxw
     have KA:=Lib.hid (at_in (HG.out.below HB.out) k x _ _ hlt hxw rfl hga.1)
     have HS:=Lib.hid (fillL_set (readC_at (W:=W) (zs:=zs) hx))
     have HL2:=Lib.hid (show (fillL (readC W zs cols) k).length = R by rw [fillL_len (by rw [HL.out]; exact hk),HL.out])
     have d:=(HC.out.below HB.out).cell (cI_at hx)
     obtain ⟨z,hz⟩ : ∃ z,(fillL (readC W zs cols) k)[k]? = some z:=⟨_,List.getElem?_eq_getElem (by rw [HL2.out]; exact hlt)⟩
     have o0:=HI.out.cell hz
     have f0:=HI.out.frozen k
     generalize zs.getD (k * W + x) 0 = y at *
     clear hga hz hx
     go_wp2_with (go_at_call 294; ((with_reducible refine KA.out.mono ?_)); rintro e w' ⟨rfl,rfl⟩)
     go_roundw
     case rel =>
       refine ⟨k + 1,by omega,by go_num,Lib.hid ?_,Lib.hid (HB.out.setCell (p:=⟨w.heap.size,k,none⟩) (Nat.le_refl _) _)⟩
       rw [← HS.out]
       exact HI.out.set k y (by rw [HL2.out]; exact hlt)
     case measure => simp [intOf]; omega
   · have hkk : k = R:=by omega
     have hfa : decide (k < R) = false:=by simpa using hlt
     have HF:=Lib.hid (show Ints wr w.heap.size (readC W zs cols) by have:=HI.out; rw [hkk,← HL.out,fillL_all] at this; exact this)
     clear hlt hkk
     go_wp2_with fail
     go_ret2
     exact ⟨_,rfl,w.heap.size,R,by rw [HL.out]; rfl,HF.out,Nat.le_refl _,by rw [HL.out]; exact Nat.le_refl _,by omega,HB.out⟩
end Go.Proofs.YtejaocnhekjfiaaGreatDoor
namespace Go.Proofs.YtejaocnhekjfiaaGreatDoor
open Go.RowKit
set_option linter.unusedVariables false
set_option maxRecDepth 100000 in
set_option maxHeartbeats 2000000 in
theorem joint_minus {w g r R W zs g2 r2 ys} (h : GridIs w g r R W zs) (h2 : GridIs w g2 r2 R W ys) (hj : Joins 181 (· - ·) zs ys) :
   Calls Tryz.prog 246 #[.agg #[.pointer (some ⟨g,0,none⟩),.func (.func 181) #[] #[]],.pointer (some ⟨g2,0,none⟩)] w fun e w' =>
     e = .returned (.int .i64 0) ∧ Upd (· = r) w w' ∧ GridIs w' g r R W (List.zipWith (· - ·) zs ys):=by
 have hb1:=(Below.refl w.heap.size w).alloc (Nat.le_refl _) (.cells #[.pointer (some ⟨g,0,none⟩),.func (.func 181) #[] #[]] 377)
 have B0:=heap_alloc_new w (.cells #[.pointer (some ⟨g,0,none⟩),.func (.func 181) #[] #[]] 377)
 have G1:=Lib.hid (h.below hb1)
 have G2:=Lib.hid (h2.below hb1)
 have hs:=h.size
 have hn : ys.length = zs.length:=by rw [h.len,h2.len]
 obtain ⟨n,hln⟩ : ∃ n,zs.length = n:=⟨_,rfl⟩
 have hln2 : ys.length = n:=by rw [hn,hln]
 have HN:=Lib.hid hln
 have HN2:=Lib.hid hln2
 have HJ:=Lib.hid hj
 have hmk:=mk_i64 n (by omega)
 rw [hln] at hs
 have HH:=Lib.hid h
 have HB1:=Lib.hid hb1
 clear h h2 hj hn hln hln2 hb1
 go_enter Tryz.func246,Tryz.ntmps246
 go_upto_region 1 with fail
 generalize w.alloc (.cells #[.pointer (some ⟨g,0,none⟩),.func (.func 181) #[] #[]] 377) = w1 at *
 obtain ⟨cap,c0,c1,c2,c3,c4⟩:=G1.out.cells' HN.out
 obtain ⟨cap2,d0,d1,d2,d3,d4⟩:=G2.out.cells' HN2.out
 have b0 : w1.cell? ⟨w.heap.size,0,none⟩ = some (.pointer (some ⟨g,0,none⟩)):=(cell_of_row _ _ _ _ _ _ B0).trans rfl
 have b1 : w1.cell? ⟨w.heap.size,1,none⟩ = some (.func (.func 181) #[] #[]):=(cell_of_row _ _ _ _ _ _ B0).trans rfl
 have e2:=cell_da d2
 have C2:=Lib.hid c2
 have B0':=Lib.hid b0
 have B1':=Lib.hid b1
 clear B0
 go_quiet (fail)
 go_wp2_with fail
 clear e2 d0 d1 d2 d3 d4 b0 b1 c0 c1 c2 hmk
 go_loopw [48] (fun u wr => ∃ k : Nat,k ≤ n ∧ u = .int .i64 k ∧ Hid (Ints wr w1.heap.size (part_ (· - ·) zs ys k)) ∧ Hid (Below w1.heap.size w1 wr)) (fun u _ => n - (intOf u).toNat)
 case atStart =>
   refine ⟨0,Nat.zero_le _,rfl,Lib.hid ?_,Lib.hid ?_⟩
   · rw [part_zero,HN.out]
     exact ⟨(Ints.new w1 n).row⟩
   · have hb:=(Below.refl w1.heap.size w1).alloc (Nat.le_refl _) (.cells (Array.replicate n (Value.int .i64 0)) 2)
     exact ⟨hb.os,hb.tape,hb.output,hb.size,hb.block⟩
 case round =>
   obtain ⟨k,hk,rfl,HI,HB⟩:=hrel
   have HG1:=Lib.hid (G1.out.below HB.out)
   have HG2:=Lib.hid (G2.out.below HB.out)
   by_cases hlt : k < n
   · obtain ⟨x,hx⟩ : ∃ x,zs[k]? = some x:=⟨zs[k]'(by rw [HN.out]; exact hlt),List.getElem?_eq_getElem _⟩
     obtain ⟨y,hy⟩ : ∃ y,ys[k]? = some y:=⟨ys[k]'(by rw [HN2.out]; exact hlt),List.getElem?_eq_getElem _⟩
     have dy:=HG2.out.row.cell hy
     have dx:=HG1.out.row.cell hx
     have hlt2 : (k : Int) < (n : Int):=by omega
     have KJ:=Lib.hid (fun d os => Calls.regrown_of (d:=d) (os:=os) (HJ.out k x y hx hy (Sort.grow (redrawn wr d) os)))
     have HS:=Lib.hid (part_set (op:=(· - ·)) hx hy)
     have HL:=Lib.hid (show (part_ (· - ·) zs ys k).length = n by rw [part_len (by rw [HN.out,HN2.out]) (by rw [HN.out]; exact hk),HN.out])
     clear hx hy
     have b0:=below_cell HB.out B0'.out
     have b1:=below_cell HB.out B1'.out
     have c2:=below_cell HB.out C2.out
     go_upto_region 7 with fail
     have q0:=fun d os => cell_regrown b0 d os
     have q1:=fun d os => cell_regrown b1 d os
     have q2:=fun d os => cell_regrown c2 d os
     have q3:=fun d os => cell_regrown dx d os
     have hk3 : (0 : Int) ≤ (k : Int):=by omega
     refine wp_region_quiet_below (by kernel_rfl) (by kernel_rfl) ?_
     repeat (go_big_quiet_step (with_reducible exact KJ.out _ _))
     refine wpQuiet_nil ?_
     intro _ hw'
     obtain ⟨⟨dq,osq⟩,hw''⟩:=hw'
     subst hw''
     have hb:=below_regrown wr dq osq
     have HI3:=Lib.hid (HI.out.below hb)
     have HB3:=Lib.hid (HB.out.trans (hb.mono HB.out.size))
     generalize Sort.grow (redrawn wr dq) osq = w3 at *
     obtain ⟨z,hz⟩ : ∃ z,(part_ (· - ·) zs ys k)[k]? = some z:=⟨_,List.getElem?_eq_getElem (by rw [HL.out]; exact hlt)⟩
     have o0:=HI3.out.cell hz
     have f0:=HI3.out.frozen k
     clear hb hz q0 q1 q2 q3 b0 b1 c2 dx dy
     go_wp2_with fail
     go_roundw
     case rel =>
       refine ⟨k + 1,by omega,by go_num,Lib.hid ?_,Lib.hid (HB3.out.setCell (p:=⟨w1.heap.size,k,none⟩) (Nat.le_refl _) _)⟩
       rw [← HS.out]
       exact HI3.out.set k (x - y) (by rw [HL.out]; exact hlt)
     case measure => simp [intOf]; omega
   · obtain rfl : n = k:=by omega
     have b0:=below_cell HB.out B0'.out
     have c2:=below_cell HB.out C2.out
     have HZ:=Lib.hid (show Ints wr w1.heap.size (List.zipWith (· - ·) zs ys) by have:=HI.out; rwa [← HN.out,part_all] at this)
     have HL:=Lib.hid (show (List.zipWith (· - ·) zs ys).length = n by simp [HN.out,HN2.out])
     have hlt : decide (n < n) = false:=by simp
     go_wp2_with (with_reducible refine wpList_copy_ints rfl (.tmp 79) (.tmp 80) rfl r w1.heap.size n cap n zs (List.zipWith (· - ·) zs ys) rfl rfl HG1.out.row HZ.out HN.out HL.out ?_)
     intro w4 ho hi
     have HO:=Lib.hid ho
     have HI4:=Lib.hid hi
     clear ho hi
     go_wp2_with fail
     go_ret
     have hu : Upd (· = r) w wr:=Upd.of_below (HB1.out.trans (HB.out.mono HB1.out.size))
     refine ⟨rfl,hu.trans (Upd.of_only HO.out rfl),?_⟩
     obtain ⟨cp,e1,e2⟩:=HG1.out.blk
     exact ⟨⟨cp,by rw [HL.out,← HN.out]; exact (HO.out.block _ HG1.out.ne).trans e1,by rw [HL.out,← HN.out]; exact e2⟩,HI4.out,by rw [HL.out,← HN.out]; exact HG1.out.len,HG1.out.r1,HG1.out.r8,HG1.out.w1,HG1.out.w8⟩
def FitL (b : Int) (zs : List Int) : Prop:=∀ x ∈ zs,-b ≤ x ∧ x ≤ b
theorem small_in {n : Int} (h1 : -9223372036854775808 ≤ n) (h2 : n ≤ 9223372036854775807) : S02.smallV n = .tuple #[.int .i64 n,.bool true]:=by
 unfold S02.smallV S02.Small; simp [h1,h2]
theorem plus_in (a b : Int) (w : World) (h1 : -4611686018427387904 ≤ a ∧ a ≤ 4611686018427387903) (h2 : -4611686018427387904 ≤ b ∧ b ≤ 4611686018427387903) :
   Calls Tryz.prog 245 #[.int .i64 a,.int .i64 b] w fun e w' => e = .returned (.tuple #[.int .i64 (a + b),.bool true]) ∧ Below w.heap.size w w':=by
 have:=S02.plus_any a b w (by omega) (by omega) (by omega) (by omega)
 rwa [small_in (by omega) (by omega)] at this
theorem minus_in (a b : Int) (w : World) (h1 : -4611686018427387904 ≤ a ∧ a ≤ 4611686018427387903) (h2 : -4611686018427387903 ≤ b ∧ b ≤ 4611686018427387903) :
   Calls Tryz.prog 181 #[.int .i64 a,.int .i64 b] w fun e w' => e = .returned (.tuple #[.int .i64 (a - b),.bool true]) ∧ Below w.heap.size w w':=by
 have:=S02.minus_any a b w (by omega) (by omega) (by omega) (by omega)
 rwa [small_in (by omega) (by omega)] at this
theorem joins_plus {zs ys : List Int} (h1 : FitL 4611686018427387903 zs) (h2 : FitL 4611686018427387903 ys) : Joins 245 (· + ·) zs ys:=by
 intro k x y hx hy w
 have a:=h1 x (List.mem_of_getElem? hx)
 have b:=h2 y (List.mem_of_getElem? hy)
 exact plus_in x y w (by omega) (by omega)
theorem joins_minus {zs ys : List Int} (h1 : FitL 4611686018427387903 zs) (h2 : FitL 4611686018427387903 ys) : Joins 181 (· - ·) zs ys:=by
 intro k x y hx hy w
 have a:=h1 x (List.mem_of_getElem? hx)
 have b:=h2 y (List.mem_of_getElem? hy)
 exact minus_in x y w (by omega) (by omega)
def RGrid (w : World) (g r R W : Nat) (zs : List Int) (e : Ending) (w' : World) : Prop:=e = .returned (.int .i64 0) ∧ Upd (· = r) w w' ∧ GridIs w' g r R W zs
set_option maxRecDepth 100000 in
theorem gplus_any {w g r R W zs g2 r2 ys} (h : GridIs w g r R W zs) (h2 : GridIs w g2 r2 R W ys) (b1 : FitL 4611686018427387903 zs) (b2 : FitL 4611686018427387903 ys) :
   Calls Tryz.prog 223 #[.pointer (some ⟨g,0,none⟩),.pointer (some ⟨g2,0,none⟩)] w (RGrid w g r R W (List.zipWith (· + ·) zs ys)):=by
 have K:=Lib.hid (joint_plus h h2 (joins_plus b1 b2))
 clear h h2 b1 b2
 go_enter Tryz.func223,Tryz.ntmps223
 go_wp2_with (go_at_call 246; ((with_reducible refine K.out.mono ?_)); rintro e w1 ⟨rfl,hu,hg⟩)
 have HU:=Lib.hid hu
 have HG:=Lib.hid hg
 clear hu hg
 go_wp2
 go_ret
 exact ⟨rfl,HU.out,HG.out⟩
set_option maxRecDepth 100000 in
theorem gminus_any {w g r R W zs g2 r2 ys} (h : GridIs w g r R W zs) (h2 : GridIs w g2 r2 R W ys) (b1 : FitL 4611686018427387903 zs) (b2 : FitL 4611686018427387903 ys) :
   Calls Tryz.prog 225 #[.pointer (some ⟨g,0,none⟩),.pointer (some ⟨g2,0,none⟩)] w (RGrid w g r R W (List.zipWith (· - ·) zs ys)):=by
 have K:=Lib.hid (joint_minus h h2 (joins_minus b1 b2))
 clear h h2 b1 b2
 go_enter Tryz.func225,Tryz.ntmps225
 go_wp2_with (go_at_call 246; ((with_reducible refine K.out.mono ?_)); rintro e w1 ⟨rfl,hu,hg⟩)
 have HU:=Lib.hid hu
 have HG:=Lib.hid hg
 clear hu hg
 go_wp2
 go_ret
 exact ⟨rfl,HU.out,HG.out⟩
end Go.Proofs.YtejaocnhekjfiaaGreatDoor
namespace Go.Proofs.YtejaocnhekjfiaaGreatDoor.Ord
def below (l : List Int) (x : Int) : Nat:=(l.filter (· < x)).length
def upto (l : List Int) (x : Int) : Nat:=(l.filter (· ≤ x)).length
structure Is (l : List Int) (k : Nat) (x : Int) : Prop where
 lo : below l x ≤ k
 hi : k < upto l x
theorem below_nil (x : Int) : below [] x = 0:=rfl
theorem upto_nil (x : Int) : upto [] x = 0:=rfl
theorem below_cons (a : Int) (l : List Int) (x : Int) : below (a :: l) x = below l x + if a < x then 1 else 0:=by
 unfold below; rw [List.filter_cons]; by_cases h : a < x <;> simp [h]
theorem upto_cons (a : Int) (l : List Int) (x : Int) : upto (a :: l) x = upto l x + if a ≤ x then 1 else 0:=by
 unfold upto; rw [List.filter_cons]; by_cases h : a ≤ x <;> simp [h]
theorem below_append (l m : List Int) (x : Int) : below (l ++ m) x = below l x + below m x:=by unfold below; rw [List.filter_append,List.length_append]
theorem upto_append (l m : List Int) (x : Int) : upto (l ++ m) x = upto l x + upto m x:=by unfold upto; rw [List.filter_append,List.length_append]
theorem upto_len (l : List Int) (x : Int) : upto l x ≤ l.length:=List.length_filter_le _ _
theorem upto_below {l : List Int} {x y : Int} (h : x < y) : upto l x ≤ below l y:=by
 induction l with
 | nil => exact Nat.le_refl _
 | cons a l ih => rw [below_cons,upto_cons]; split <;> split <;> omega
theorem below_perm {l m : List Int} (h : l.Perm m) (x : Int) : below l x = below m x:=(h.filter _).length_eq
theorem upto_perm {l m : List Int} (h : l.Perm m) (x : Int) : upto l x = upto m x:=(h.filter _).length_eq
theorem Is.unique {l : List Int} {k : Nat} {x y : Int} (hx : Is l k x) (hy : Is l k y) : x = y:=by
 have a:=hx.lo; have b:=hx.hi; have c:=hy.lo; have d:=hy.hi
 rcases Int.lt_trichotomy x y with h | h | h
 · have:=upto_below (l:=l) h; omega
 · exact h
 · have:=upto_below (l:=l) h; omega
theorem Is.lt {l : List Int} {k : Nat} {x : Int} (h : Is l k x) : k < l.length:=Nat.lt_of_lt_of_le h.hi (upto_len l x)
theorem Is.perm {l m : List Int} {k : Nat} {x : Int} (h : Is l k x) (p : l.Perm m) : Is m k x:=
 ⟨by rw [← below_perm p]; exact h.lo,by rw [← upto_perm p]; exact h.hi⟩
def less (l : List Int) (b : Int) : List Int:=l.filter (· < b)
def more (l : List Int) (b : Int) : List Int:=l.filter (b < ·)
def same (l : List Int) (b : Int) : Nat:=(l.filter (· == b)).length
theorem less_snoc (l : List Int) (a b : Int) : less (l ++ [a]) b = less l b ++ (if a < b then [a] else []):=by
 unfold less; rw [List.filter_append]; by_cases h : a < b <;> simp [h]
theorem more_snoc (l : List Int) (a b : Int) : more (l ++ [a]) b = more l b ++ (if b < a then [a] else []):=by
 unfold more; rw [List.filter_append]; by_cases h : b < a <;> simp [h]
theorem same_snoc (l : List Int) (a b : Int) : same (l ++ [a]) b = same l b + (if a = b then 1 else 0):=by
 unfold same; rw [List.filter_append,List.length_append]; by_cases h : a = b <;> simp [h]
theorem less_below (l : List Int) (b x : Int) : below (less l b) x = if x ≤ b then below l x else below l b:=by
 induction l with
 | nil => simp [less,below]
 | cons a l ih =>
   have e : less (a :: l) b = (if a < b then [a] else []) ++ less l b:=by unfold less; rw [List.filter_cons]; by_cases h : a < b <;> simp [h]
   rw [e,below_append,ih]
   rw [below_cons,below_cons]
   by_cases h : a < b <;> by_cases h2 : x ≤ b <;> by_cases h3 : a < x <;> simp [h,h2,h3,below_cons,below_nil] <;> omega
theorem less_upto {l : List Int} {b x : Int} (h0 : x < b) : upto (less l b) x = upto l x:=by
 induction l with
 | nil => rfl
 | cons a l ih =>
   have e : less (a :: l) b = (if a < b then [a] else []) ++ less l b:=by unfold less; rw [List.filter_cons]; by_cases h : a < b <;> simp [h]
   rw [e,upto_append,ih,upto_cons]
   by_cases h : a < b <;> by_cases h3 : a ≤ x <;> simp [h,h3,upto_cons,upto_nil] <;> omega
theorem counts (l : List Int) (b : Int) : (less l b).length = below l b ∧ upto l b = below l b + same l b:=by
 refine ⟨rfl,?_⟩
 induction l with
 | nil => rfl
 | cons a l ih =>
   have e : same (a :: l) b = same l b + if a = b then 1 else 0:=by unfold same; rw [List.filter_cons]; by_cases h : a = b <;> simp [h]
   rw [below_cons,upto_cons,e,ih]
   split <;> split <;> split <;> omega
theorem more_counts {l : List Int} {b x : Int} (h0 : b < x) : below l x = upto l b + below (more l b) x ∧ upto l x = upto l b + upto (more l b) x:=by
 induction l with
 | nil => exact ⟨rfl,rfl⟩
 | cons a l ih =>
   have e : more (a :: l) b = (if b < a then [a] else []) ++ more l b:=by unfold more; rw [List.filter_cons]; by_cases h : b < a <;> simp [h]
   rw [e,below_append,upto_append,below_cons,upto_cons,upto_cons,ih.1,ih.2]
   by_cases h : b < a <;> by_cases h2 : a < x <;> by_cases h3 : a ≤ x <;> simp [h,h2,h3,below_cons,below_nil,upto_cons,upto_nil] <;> (try split) <;> omega
theorem lengths (l : List Int) (b : Int) : l.length = (less l b).length + same l b + (more l b).length:=by
 induction l with
 | nil => rfl
 | cons a l ih =>
   have e1 : (less (a :: l) b).length = (less l b).length + if a < b then 1 else 0:=by unfold less; rw [List.filter_cons]; by_cases h : a < b <;> simp [h]
   have e2 : (more (a :: l) b).length = (more l b).length + if b < a then 1 else 0:=by unfold more; rw [List.filter_cons]; by_cases h : b < a <;> simp [h]
   have e3 : same (a :: l) b = same l b + if a = b then 1 else 0:=by unfold same; rw [List.filter_cons]; by_cases h : a = b <;> simp [h]
   rw [e1,e2,e3,List.length_cons,ih]
   split <;> split <;> split <;> omega
theorem same_pos {l : List Int} {b : Int} (h : b ∈ l) : 0 < same l b:=by
 unfold same
 apply List.length_pos_of_mem (a:=b)
 simp [h]
theorem Is.mem {l : List Int} {k : Nat} {x : Int} (h : Is l k x) : x ∈ l:=by
 have:=(counts l x).2
 have h1:=h.lo; have h2:=h.hi
 have hp : 0 < same l x:=by omega
 unfold same at hp
 obtain ⟨y,hy⟩:=List.exists_mem_of_length_pos hp
 simp at hy
 obtain ⟨hy1,rfl⟩:=hy
 exact hy1
theorem Is.of_less {l : List Int} {k : Nat} {b x : Int} (h : Is (less l b) k x) : Is l k x:=by
 have hm:=h.mem
 have hb : x < b:=by unfold less at hm; simpa using (List.mem_filter.1 hm).2
 have h1:=h.lo; have h2:=h.hi
 rw [less_below,if_pos (by omega)] at h1
 rw [less_upto hb] at h2
 exact ⟨h1,h2⟩
theorem Is.of_same {l : List Int} {k : Nat} {b : Int} (h1 : ¬ k < (less l b).length) (h2 : k < (less l b).length + same l b) : Is l k b:=by
 have:=counts l b
 exact ⟨by omega,by omega⟩
theorem Is.of_more {l : List Int} {k : Nat} {b x : Int} (h0 : ¬ k < (less l b).length + same l b) (h : Is (more l b) (k - ((less l b).length + same l b)) x) : Is l k x:=by
 have hm:=h.mem
 have hb : b < x:=by unfold more at hm; simpa using (List.mem_filter.1 hm).2
 have h1:=h.lo; have h2:=h.hi
 have c:=counts l b
 have m:=more_counts (l:=l) hb
 exact ⟨by omega,by omega⟩
theorem Is.of_sorted {s : List Int} (h : s.Pairwise (· ≤ ·)) (k : Nat) (x : Int) (hk : s[k]? = some x) : Is s k x:=by
 induction s generalizing k with
 | nil => simp at hk
 | cons a s ih =>
   rw [List.pairwise_cons] at h
   cases k with
   | zero =>
     simp at hk
     subst hk
     refine ⟨?_,?_⟩
     · have : below (a :: s) a = 0:=by
         unfold below
         rw [List.length_eq_zero_iff,List.filter_eq_nil_iff]
         intro y hy
         rcases List.mem_cons.1 hy with rfl | hy
         · simp
         · have:=h.1 y hy; simp; omega
       omega
     · rw [upto_cons]; simp
   | succ k =>
     simp at hk
     have:=ih h.2 k hk
     have hax : a ≤ x:=h.1 x (List.mem_of_getElem? hk)
     have h1:=this.lo; have h2:=this.hi
     refine ⟨?_,?_⟩
     · rw [below_cons]; split <;> omega
     · rw [upto_cons,if_pos hax]; omega
def least : List Int → Int → Int
 | [],m => m
 | a :: l,m => least l (min m a)
end Go.Proofs.YtejaocnhekjfiaaGreatDoor.Ord
namespace Go.Proofs.YtejaocnhekjfiaaGreatDoor.Ord
theorem exists_kth {l : List Int} {k : Nat} (h : k < l.length) : ∃ x,Is l k x:=by
 have hp : (l.mergeSort (fun a b => decide (a ≤ b))).Perm l:=List.mergeSort_perm l _
 have hs : (l.mergeSort (fun a b => decide (a ≤ b))).Pairwise (fun a b => decide (a ≤ b) = true):=
   List.pairwise_mergeSort (le:=fun a b => decide (a ≤ b)) (fun a b c h1 h2 => by simp at *; omega) (fun a b => by simp; omega) l
 have hs' : (l.mergeSort (fun a b => decide (a ≤ b))).Pairwise (· ≤ ·):=hs.imp (fun h => by simpa using h)
 have hk : k < (l.mergeSort (fun a b => decide (a ≤ b))).length:=by rw [hp.length_eq]; exact h
 exact ⟨_,(Is.of_sorted hs' k _ (List.getElem?_eq_getElem hk)).perm hp⟩
noncomputable def kth (l : List Int) (k : Nat) : Int:=@Classical.epsilon Int ⟨0⟩ (Is l k)
theorem kth_is {l : List Int} {k : Nat} (h : k < l.length) : Is l k (kth l k):=@Classical.epsilon_spec Int (Is l k) (exists_kth h)
theorem kth_eq {l : List Int} {k : Nat} {x : Int} (h : Is l k x) : kth l k = x:=(kth_is h.lt).unique h
theorem kth_mem {l : List Int} {k : Nat} (h : k < l.length) : kth l k ∈ l:=(kth_is h).mem
end Go.Proofs.YtejaocnhekjfiaaGreatDoor.Ord
namespace Go.Proofs.YtejaocnhekjfiaaGreatDoor.S05
open Go.RowKit
set_option linter.unusedVariables false
def i64v (x : Int) : Value:=.int .i64 x
theorem info2 : (Tryz.prog.info? 2).map (fun i => (i.zero,i.size,i.bytes)) = some (some (.int .i64 0),1,8):=by kernel_rfl
theorem own_ne {w : World} {base : Nat} {v : Value} {n : Nat} {xs : List Value} {b : Nat} {c : Array Value} {fr : Nat × Nat} (h : w.ownsRow base 2 1 v n xs) (hb : w.heap[b]? = some (.cells c 419 fr)) : v.ownBlock ≠ some b:=by
 intro e
 rcases h.2 with ⟨rfl,_⟩ | ⟨g,cap,cur,rfl,_,hg,_⟩
 · simp [Value.ownBlock] at e
 · simp [Value.ownBlock] at e
   subst e
   rw [hg] at hb
   simp at hb
structure St (B b4 b5 : Nat) (w wr : World) (v4 v5 : Value) (n4 n5 : Nat) (xs ys : List Value) : Prop where
 lt4 : B ≤ b4
 lt5 : B ≤ b5
 ne : b4 ≠ b5
 h4 : wr.heap[b4]? = some (.cells #[v4] 419 (0,0))
 h5 : wr.heap[b5]? = some (.cells #[v5] 419 (0,0))
 o4 : wr.ownsRow B 2 1 v4 n4 xs
 o5 : wr.ownsRow B 2 1 v5 n5 ys
 sep : v4.ownBlock = none ∨ v4.ownBlock ≠ v5.ownBlock
 bel : Below B w wr
 big : B ≤ w.heap.size
theorem St.swap {B b4 b5 w wr v4 v5 n4 n5 xs ys} (h : St B b4 b5 w wr v4 v5 n4 n5 xs ys) : v5.ownBlock = none ∨ v5.ownBlock ≠ v4.ownBlock := by
  cases h5 : v5.ownBlock with
  | none => exact .inl rfl
  | some g => exact .inr (fun e => by rcases h.sep with h' | h'; · rw [h'] at e; cases e
                                      · exact h' (by rw [← e, h5]))
theorem St.step4 {B b4 b5 w wr v4 v5 n4 n5 xs ys} (h : St B b4 b5 w wr v4 v5 n4 n5 xs ys) {o : Obj} {v' : Value} {w1 : World} {x : Value}
   (hown : w1.ownsRow B 2 1 v' (n4 + 1) (xs ++ [x])) (hg : (wr.alloc o).grownBy w1 v4.ownBlock) (hat : v'.ownBlock = v4.ownBlock ∨ v'.ownBlock = some (wr.alloc o).heap.size) :
   St B b4 b5 w (w1.setCell ⟨b4,0,none⟩ v') v' v5 (n4 + 1) n5 (xs ++ [x]) ys:=by
 have l4:=lt_of_block h.h4
 have l5:=lt_of_block h.h5
 have hw : ∀ k,k < wr.heap.size → some k ≠ v4.ownBlock → w1.heap[k]? = wr.heap[k]?:=fun k hk hne => by
   rw [hg.block k (by simp; omega) hne,Below.heap_alloc _ _ _ hk]
 have e4 : w1.heap[b4]? = some (.cells #[v4] 419 (0,0)):=by rw [hw b4 l4 (fun e => own_ne h.o4 h.h4 e.symm)]; exact h.h4
 have e5 : w1.heap[b5]? = some (.cells #[v5] 419 (0,0)):=by rw [hw b5 l5 (fun e => own_ne h.o4 h.h5 e.symm)]; exact h.h5
 have o5 : w1.ownsRow B 2 1 v5 n5 ys:=(h.o5.alloc o).kept hg h.swap
 have bel1 : Below B w w1:=(h.bel.alloc (Nat.le_trans h.big h.bel.size) o).grown hg (by have:=h.bel.size; have:=h.big; simp; omega) (fun k hk => (h.o4.lt k hk).1)
 refine ⟨h.lt4,h.lt5,h.ne,one_setCell e4,?_,?_,?_,?_,bel1.setCell h.lt4 _,h.big⟩
 · rw [heap_setCell_other _ _ _ _ (fun e => h.ne e.symm)]; exact e5
 · exact ownsRow_setCell_other hown (own_ne hown e4) _
 · exact ownsRow_setCell_other o5 (own_ne o5 e4) _
 · rcases hat with e | e
   · rw [e]; exact h.sep
   · right
     rw [e]
     intro e2
     have:=(h.o5.lt _ e2.symm).2
     simp at this
     omega
theorem St.step5 {B b4 b5 w wr v4 v5 n4 n5 xs ys} (h : St B b4 b5 w wr v4 v5 n4 n5 xs ys) {o : Obj} {v' : Value} {w1 : World} {x : Value}
   (hown : w1.ownsRow B 2 1 v' (n5 + 1) (ys ++ [x])) (hg : (wr.alloc o).grownBy w1 v5.ownBlock) (hat : v'.ownBlock = v5.ownBlock ∨ v'.ownBlock = some (wr.alloc o).heap.size) :
   St B b4 b5 w (w1.setCell ⟨b5,0,none⟩ v') v4 v' n4 (n5 + 1) xs (ys ++ [x]):=by
 have h' : St B b5 b4 w wr v5 v4 n5 n4 ys xs:=⟨h.lt5,h.lt4,fun e => h.ne e.symm,h.h5,h.h4,h.o5,h.o4,h.swap,h.bel,h.big⟩
 have r:=h'.step4 hown hg hat
 exact ⟨r.lt5,r.lt4,fun e => r.ne e.symm,r.h5,r.h4,r.o5,r.o4,r.swap,r.bel,r.big⟩
theorem St.held {B b4 b5 w wr v4 v5 n4 n5 xs ys} (h : St B b4 b5 w wr v4 v5 n4 n5 xs ys) {o : Obj} {v : Value} {w1 : World} (hv : v = v4 ∨ v = v5)
    (hg : (wr.alloc o).grownBy w1 v.ownBlock) : w1.cell? ⟨b4, 0, none⟩ = some v4 ∧ w1.frozen? ⟨b4, 0, none⟩ = false ∧ w1.cell? ⟨b5, 0, none⟩ = some v5 ∧ w1.frozen? ⟨b5, 0, none⟩ = false := by
  have l4 := lt_of_block h.h4
  have l5 := lt_of_block h.h5
  have hw : ∀ k, k < wr.heap.size → some k ≠ v.ownBlock → w1.heap[k]? = wr.heap[k]? := fun k hk hne => by
    rw [hg.block k (by simp; omega) hne, Below.heap_alloc _ _ _ hk]
  have e4 : w1.heap[b4]? = some (.cells #[v4] 419 (0, 0)) := by
    rw [hw b4 l4 (fun e => by rcases hv with rfl | rfl; · exact own_ne h.o4 h.h4 e.symm
                              · exact own_ne h.o5 h.h4 e.symm)]; exact h.h4
  have e5 : w1.heap[b5]? = some (.cells #[v5] 419 (0, 0)) := by
    rw [hw b5 l5 (fun e => by rcases hv with rfl | rfl; · exact own_ne h.o4 h.h5 e.symm
                              · exact own_ne h.o5 h.h5 e.symm)]; exact h.h5
  exact ⟨cell_of_one e4, free_of_one e4, cell_of_one e5, free_of_one e5⟩
def Parted (l : List Int) (by_ : Int) (w : World) (e : Ending) (w' : World) : Prop:=
 ∃ a1 c1 a2 c2,e = .returned (.tuple #[.agg #[.slice a1 (Ord.less l by_).length c1],.agg #[.slice a2 (Ord.more l by_).length c2],.int .i64 (Ord.same l by_ : Int)]) ∧
   Row w' a1 (Ord.less l by_).length ((Ord.less l by_).map i64v) ∧ Row w' a2 (Ord.more l by_).length ((Ord.more l by_).map i64v) ∧ Below w.heap.size w w'
end Go.Proofs.YtejaocnhekjfiaaGreatDoor.S05
namespace Go.Proofs.YtejaocnhekjfiaaGreatDoor.S05
open Go.RowKit
set_option linter.unusedVariables false
set_option maxRecDepth 100000 in
set_option maxHeartbeats 1000000 in
theorem part_any (a : Option Addr) (n c : Nat) (by_ : Int) (l : List Int) (w : World) (hl : Row w a n (l.map i64v)) (hn : n ≤ 1000) :
   Calls Tryz.prog 313 #[.agg #[.slice a n c],.int .i64 by_] w (Parted l by_ w):=by
 obtain ⟨i0,hi,hz0,hz1,hz2⟩:=info_parts info2
 have hlen : l.length = n:=by have:=hl.1; simpa using this
 have HL:=Lib.hid hl
 have HN:=Lib.hid hlen
 clear hl hlen
 have hst : St w.heap.size (w.heap.size + 1) (w.heap.size + 1 + 1) w (((w.alloc (.cells #[.slice a n c] 419)).alloc (.cells #[.slice none 0 0] 419)).alloc (.cells #[.slice none 0 0] 419)) (.slice none 0 0) (.slice none 0 0) 0 0 [] []:=by
   refine ⟨by omega,by omega,by omega,?_,?_,World.ownsRow_nil _ _ _ _,World.ownsRow_nil _ _ _ _,.inl rfl,?_,Nat.le_refl _⟩
   · rw [Below.heap_alloc _ _ _ (by simp)]
     have:=heap_alloc_new (w.alloc (.cells #[.slice a n c] 419)) (.cells #[.slice none 0 0] 419)
     simpa using this
   · have:=heap_alloc_new ((w.alloc (.cells #[.slice a n c] 419)).alloc (.cells #[.slice none 0 0] 419)) (.cells #[.slice none 0 0] 419)
     simpa using this
   · exact (((Below.refl _ _).alloc (Nat.le_refl _) _).alloc (by simp) _).alloc (by simp; omega) _
 have HS:=Lib.hid hst; clear hst
 go_enter Tryz.func313,Tryz.ntmps313
 go_wp2
 generalize ((w.alloc (.cells #[.slice a n c] 419)).alloc (.cells #[.slice none 0 0] 419)).alloc (.cells #[.slice none 0 0] 419) = w0 at *
 go_loopw [6,14] (fun s i wr => ∃ k : Nat,k ≤ n ∧ i = .int .i64 k ∧ s = .int .i64 (Ord.same (l.take k) by_ : Int) ∧ ∃ v4 v5,St w.heap.size (w.heap.size + 1) (w.heap.size + 1 + 1) w wr v4 v5 (Ord.less (l.take k) by_).length (Ord.more (l.take k) by_).length ((Ord.less (l.take k) by_).map i64v) ((Ord.more (l.take k) by_).map i64v)) (fun _ i _ => n - (intOf i).toNat)
 case atStart => exact ⟨0,by omega,rfl,rfl,_,_,HS.out⟩
 case round =>
   obtain ⟨k,hk,rfl,rfl,v4,v5,hst⟩:=hrel
   clear HS
   have c4:=cell_of_one hst.h4
   have c5:=cell_of_one hst.h5
   have f4:=free_of_one hst.h4
   have f5:=free_of_one hst.h5
   have hbel:=hst.bel
   have hsz:=hst.bel.size
   have HS:=Lib.hid hst; clear hst
   by_cases hlt : k < n
   · obtain ⟨x,hx⟩ : ∃ x,l[k]? = some x:=⟨l[k]'(by rw [HN.out]; exact hlt),by rw [List.getElem?_eq_getElem]⟩
     obtain ⟨b,o,rfl,hc,hbl⟩:=HL.out.2 k (i64v x) (by simp [hx])
     have hcx : wr.cell? ⟨b,o + k,none⟩ = some (.int .i64 x):=by rw [hbel.cell hbl]; exact hc
     have htake : l.take (k + 1) = l.take k ++ [x]:=by rw [List.take_add_one,hx]; rfl
     have e1:=Ord.less_snoc (l.take k) x by_
     have e2:=Ord.more_snoc (l.take k) x by_
     have e3:=Ord.same_snoc (l.take k) x by_
     rw [← htake] at e1 e2 e3
     have E1:=Lib.hid e1
     have E2:=Lib.hid e2
     have E3:=Lib.hid e3
     clear e1 e2 e3 htake hc hx hbel
     have hL1 : (Ord.less (l.take k) by_).length ≤ k:=Nat.le_trans (List.length_filter_le _ _) (List.length_take_le _ _)
     have hL2 : (Ord.more (l.take k) by_).length ≤ k:=Nat.le_trans (List.length_filter_le _ _) (List.length_take_le _ _)
     have hL3 : Ord.same (l.take k) by_ ≤ k:=Nat.le_trans (List.length_filter_le _ _) (List.length_take_le _ _)
     rcases Int.lt_trichotomy x by_ with h | h | h
     · have hne : (x == by_) = false:=by simp; omega
       have hm1 : (Ord.less (l.take k) by_).length + 1 ≤ maxLen:=by unfold maxLen; omega
       have hm2 : ((Ord.less (l.take k) by_).length + 1) * 8 ≤ 140737488355328:=by omega
       go_wp2_with (at_builtin; refine wpList_append_own_at _ rfl (.tmp 25) (.tmp 27) 125 rfl w.heap.size 2 i0 (.int .i64 0) 1 8 Tryz.underlying125 hi hz0 hz1 hz2 rfl (by decide) v4 _ _ rfl (HS.out.o4.alloc _) ⟨wr.heap.size,0,none⟩ 1 1 [i64v x] rfl rfl (news_one wr (i64v x) 2) (one_int .i64 x) hm1 hm2 (by simp; omega) ?_; intro v' w1 hown' hg' _ hat'; obtain ⟨a',c',hv',_⟩:=Row.own hown'; subst hv'; have hh:=HS.out.held (.inl rfl) hg'; obtain ⟨d4,g4,d5,g5⟩:=hh; have HST:=Lib.hid (HS.out.step4 hown' hg' hat'); clear hown' hg' hat')
       go_roundw
       case rel =>
         refine ⟨k + 1,by omega,by go_num,?_,.slice a' ((Ord.less (l.take k) by_).length + 1) c',v5,?_⟩
         · rw [E3.out,if_neg (by omega)]; simp
         · rw [E1.out,E2.out]
           rw [if_pos (by omega),if_neg (by omega)]
           simpa using HST.out
       case measure => simp [intOf]; omega
     · subst h
       go_wp2
       go_roundw
       case rel =>
         refine ⟨k + 1,by omega,by go_num,?_,v4,v5,?_⟩
         · rw [E3.out]; simp
         · rw [E1.out,E2.out]; simpa using HS.out
       case measure => simp [intOf]; omega
     · have hne : (x == by_) = false:=by simp; omega
       have hm1 : (Ord.more (l.take k) by_).length + 1 ≤ maxLen:=by unfold maxLen; omega
       have hm2 : ((Ord.more (l.take k) by_).length + 1) * 8 ≤ 140737488355328:=by omega
       go_wp2_with (at_builtin; refine wpList_append_own_at _ rfl (.tmp 36) (.tmp 38) 125 rfl w.heap.size 2 i0 (.int .i64 0) 1 8 Tryz.underlying125 hi hz0 hz1 hz2 rfl (by decide) v5 _ _ rfl (HS.out.o5.alloc _) ⟨wr.heap.size,0,none⟩ 1 1 [i64v x] rfl rfl (news_one wr (i64v x) 2) (one_int .i64 x) hm1 hm2 (by simp; omega) ?_; intro v' w1 hown' hg' _ hat'; obtain ⟨a',c',hv',_⟩:=Row.own hown'; subst hv'; have hh:=HS.out.held (.inr rfl) hg'; obtain ⟨d4,g4,d5,g5⟩:=hh; have HST:=Lib.hid (HS.out.step5 hown' hg' hat'); clear hown' hg' hat')
       go_roundw
       case rel =>
         refine ⟨k + 1,by omega,by go_num,?_,v4,.slice a' ((Ord.more (l.take k) by_).length + 1) c',?_⟩
         · rw [E3.out,if_neg (by omega)]; simp
         · rw [E1.out,E2.out]
           rw [if_neg (by omega),if_pos (by omega)]
           simpa using HST.out
       case measure => simp [intOf]; omega
   · obtain rfl : k = n:=by omega
     have htk : l.take k = l:=List.take_of_length_le (by rw [HN.out]; exact Nat.le_refl _)
     rw [htk] at HS
     rw [htk]
     clear c4 c5 f4 f5 hbel hsz htk
     obtain ⟨a1,c1,e1,r1⟩:=Row.own HS.out.o4
     obtain ⟨a2,c2,e2,r2⟩:=Row.own HS.out.o5
     subst e1 e2
     have c4:=cell_of_one HS.out.h4
     have c5:=cell_of_one HS.out.h5
     have f4:=free_of_one HS.out.h4
     have f5:=free_of_one HS.out.h5
     have hfin : ∀ w',w'.heap = wr.heap → w'.os = wr.os → w'.tape = wr.tape → w'.output = wr.output → Parted l by_ w (.returned (.tuple #[.agg #[.slice a1 (Ord.less l by_).length c1],.agg #[.slice a2 (Ord.more l by_).length c2],.int .i64 (Ord.same l by_ : Int)])) w':=by
       intro w' hh ho ht hou
       have hb : Below wr.heap.size wr w':=⟨ho,ht,hou,by rw [hh]; exact Nat.le_refl _,fun k _ => by rw [hh]⟩
       exact ⟨a1,c1,a2,c2,rfl,r1.below hb,r2.below hb,HS.out.bel.trans (hb.mono HS.out.bel.size)⟩
     have HF:=Lib.hid hfin; clear hfin
     go_wp2
     go_region
     all_goals go_wp2
     all_goals rw [setCell_one_self HS.out.h4,setCell_one_self HS.out.h5]
     all_goals exact bodyPost_ret (v:=.tuple #[.agg #[.slice a1 (Ord.less l by_).length c1],.agg #[.slice a2 (Ord.more l by_).length c2],.int .i64 (Ord.same l by_ : Int)]) (by simp [results,Tryz.results313,go_sem,c4,c5]) rfl (HF.out _ rfl rfl rfl rfl)
end Go.Proofs.YtejaocnhekjfiaaGreatDoor.S05
