/- Walks and plain laws, part 4: Lev2 Stack Map Meth St1 St2 St3 St4 Lu St5 St6 St7 Ag1 Ag2 S25Dec S25Key S25Chr S25Line. -/
import Derived.Test.YtejaocnhekjfiaaGreatDoorK01
import Derived.Test.YtejaocnhekjfiaaGreatDoorK03
import Derived.Maps.OwnOps
import Derived.RangeFuncNested
import Derived.RangeFuncBound
import Derived.RangeFuncCalls
import Derived.RangeFuncLeaves
import Derived.Shelf.Abstract
import Derived.Shelf.RegionOpen
import Derived.WalkKit
import Derived.OwnWalkIn
import Derived.TacticsInMore
import Derived.LoopNIn
import Derived.LoopIn
import Derived.StillTailTactics
import Derived.Maps.OwnSet
import Derived.Laws.RangeAny
import Derived.Lib.DecodeN
import Derived.Lib.RuneCountTail
import Derived.Lib.IndexLaws
namespace Go.Proofs.YtejaocnhekjfiaaGreatDoor
open Go.RowKit
set_option linter.unusedVariables false
set_option maxRecDepth 100000 in
theorem assk_s (v : Value) (w : World) : Calls Tryz.prog 214 #[.iface 237 v] w fun e w' => e = .returned (.tuple #[v,.bool true]) ∧ w = w':=by
 go_enter Tryz.func214,Tryz.ntmps214
 go_wp2
 go_ret2
 exact ⟨rfl,rfl⟩
set_option maxRecDepth 100000 in
theorem assk_a (v : Value) (w : World) : Calls Tryz.prog 214 #[.iface 234 v] w fun e w' => e = .returned (.tuple #[.pointer none,.bool false]) ∧ w = w':=by
 go_enter Tryz.func214,Tryz.ntmps214
 go_wp2
 go_ret2
 exact ⟨rfl,rfl⟩
set_option maxRecDepth 100000 in
theorem mustsk_s (v : Value) (w : World) : Calls Tryz.prog 215 #[.iface 237 v] w fun e w' => e = .returned v ∧ w = w':=by
 go_enter Tryz.func215,Tryz.ntmps215
 go_wp2
 go_ret
 exact ⟨rfl,rfl⟩
set_option maxRecDepth 100000 in
theorem sketches_s (a b : Option Addr) (w : World) : Calls Tryz.prog 184 #[.iface 237 (.pointer a),.iface 237 (.pointer b)] w fun e w' => e = .returned (.tuple #[.pointer a,.pointer b,.bool true]) ∧ w = w':=by
 go_enter Tryz.func184,Tryz.ntmps184
 go_wp2_with (first | (go_at_call 214; ((with_reducible refine (assk_s _ _).mono ?_)); rintro e w' ⟨rfl,rfl⟩) | (go_at_call 215; ((with_reducible refine (mustsk_s _ _).mono ?_)); rintro e w' ⟨rfl,rfl⟩))
 go_ret3
 exact ⟨rfl,rfl⟩
set_option maxRecDepth 100000 in
theorem sketches_a (a b : Option Addr) (w : World) : Calls Tryz.prog 184 #[.iface 234 (.pointer a),.iface 234 (.pointer b)] w fun e w' => e = .returned (.tuple #[.pointer none,.pointer none,.bool false]) ∧ w = w':=by
 go_enter Tryz.func184,Tryz.ntmps184
 go_wp2_with (go_at_call 214; ((with_reducible refine (assk_a _ _).mono ?_)); rintro e w' ⟨rfl,rfl⟩)
 go_ret3
 exact ⟨rfl,rfl⟩
set_option maxRecDepth 100000 in
theorem arrays_a (a b : Option Addr) (w : World) : Calls Tryz.prog 186 #[.iface 234 (.pointer a),.iface 234 (.pointer b)] w fun e w' => e = .returned (.tuple #[.pointer a,.pointer b,.bool true]) ∧ w = w':=by
 go_enter Tryz.func186,Tryz.ntmps186
 go_wp2
 go_ret3
 exact ⟨rfl,rfl⟩
def RLev (w : World) (c : Cfg) (n : Nat) (A : LA) (v : Value) (zs : List Int) (e : Ending) (w' : World) : Prop:=e = .returned v ∧ Upd (· = A.r) w w' ∧ LevIs w' c n A zs
set_option maxRecDepth 100000 in
set_option maxHeartbeats 2000000 in
theorem levmerge_ok {w c n A B zs ys} (h : LevIs w c n A zs) (h2 : LevIs w c n B ys) (f1 : FitL 4611686018427387903 zs) (f2 : FitL 4611686018427387903 ys) :
   Calls Tryz.prog 144 #[levV c n A,levV c n B] w (RLev w c n A (.int .i64 0) (List.zipWith (· + ·) zs ys)):=by
 cases hx : c.exact n with
 | true =>
   obtain ⟨ha,hv⟩:=h.arr hx
   obtain ⟨ha2,hv2⟩:=h2.arr hx
   rw [hv,hv2]
   have K:=Lib.hid (exmerge_ok ha ha2 f1 f2)
   have HX:=Lib.hid hx
   clear h h2 ha ha2 hv hv2 hx f1 f2
   go_enter Tryz.func144,Tryz.ntmps144
   go_wp2_with (first | (go_at_call 184; ((with_reducible refine (sketches_a _ _ _).mono ?_)); rintro e w' ⟨rfl,rfl⟩) | (go_at_call 186; ((with_reducible refine (arrays_a _ _ _).mono ?_)); rintro e w' ⟨rfl,rfl⟩) | (go_at_call 192; ((with_reducible refine K.out.mono ?_)); rintro e w1 ⟨rfl,hu,hg⟩))
   have HU:=Lib.hid hu
   have HG:=Lib.hid hg
   clear hu hg
   go_wp2
   go_ret
   exact ⟨rfl,HU.out,LevIs.of_arr HG.out HX.out⟩
 | false =>
   obtain ⟨ha,hv⟩:=h.sk hx
   obtain ⟨ha2,hv2⟩:=h2.sk hx
   rw [hv,hv2]
   have K:=Lib.hid (skmerge_ok ha ha2 f1 f2)
   have HX:=Lib.hid hx
   clear h h2 ha ha2 hv hv2 hx f1 f2
   go_enter Tryz.func144,Tryz.ntmps144
   go_wp2_with (first | (go_at_call 184; ((with_reducible refine (sketches_s _ _ _).mono ?_)); rintro e w' ⟨rfl,rfl⟩) | (go_at_call 191; ((with_reducible refine K.out.mono ?_)); rintro e w1 ⟨rfl,hu,hg⟩))
   have HU:=Lib.hid hu
   have HG:=Lib.hid hg
   clear hu hg
   go_wp2
   go_ret
   exact ⟨rfl,HU.out,LevIs.of_sk HG.out HX.out⟩
set_option maxRecDepth 100000 in
set_option maxHeartbeats 2000000 in
theorem levsubtract_ok {w c n A B zs ys} (h : LevIs w c n A zs) (h2 : LevIs w c n B ys) (f1 : FitL 4611686018427387903 zs) (f2 : FitL 4611686018427387903 ys) (hm : c.mode ≠ 2) :
   Calls Tryz.prog 146 #[levV c n A,levV c n B] w (RLev w c n A (.int .i64 0) (List.zipWith (· - ·) zs ys)):=by
 cases hx : c.exact n with
 | true =>
   obtain ⟨ha,hv⟩:=h.arr hx
   obtain ⟨ha2,hv2⟩:=h2.arr hx
   rw [hv,hv2]
   have K:=Lib.hid (exsubtract_ok ha ha2 f1 f2 hm)
   have HX:=Lib.hid hx
   clear h h2 ha ha2 hv hv2 hx f1 f2
   go_enter Tryz.func146,Tryz.ntmps146
   go_wp2_with (first | (go_at_call 184; ((with_reducible refine (sketches_a _ _ _).mono ?_)); rintro e w' ⟨rfl,rfl⟩) | (go_at_call 186; ((with_reducible refine (arrays_a _ _ _).mono ?_)); rintro e w' ⟨rfl,rfl⟩) | (go_at_call 194; ((with_reducible refine K.out.mono ?_)); rintro e w1 ⟨rfl,hu,hg⟩))
   have HU:=Lib.hid hu
   have HG:=Lib.hid hg
   clear hu hg
   go_wp2
   go_ret
   exact ⟨rfl,HU.out,LevIs.of_arr HG.out HX.out⟩
 | false =>
   obtain ⟨ha,hv⟩:=h.sk hx
   obtain ⟨ha2,hv2⟩:=h2.sk hx
   rw [hv,hv2]
   have K:=Lib.hid (sksubtract_ok ha ha2 f1 f2 hm)
   have HX:=Lib.hid hx
   clear h h2 ha ha2 hv hv2 hx f1 f2
   go_enter Tryz.func146,Tryz.ntmps146
   go_wp2_with (first | (go_at_call 184; ((with_reducible refine (sketches_s _ _ _).mono ?_)); rintro e w' ⟨rfl,rfl⟩) | (go_at_call 193; ((with_reducible refine K.out.mono ?_)); rintro e w1 ⟨rfl,hu,hg⟩))
   have HU:=Lib.hid hu
   have HG:=Lib.hid hg
   clear hu hg
   go_wp2
   go_ret
   exact ⟨rfl,HU.out,LevIs.of_sk HG.out HX.out⟩
set_option maxRecDepth 100000 in
set_option maxHeartbeats 2000000 in
theorem levsubtract_no {w c n A B zs ys} (h : LevIs w c n A zs) (h2 : LevIs w c n B ys) (hm : c.mode = 2) :
   Calls Tryz.prog 146 #[levV c n A,levV c n B] w (RVal (.int .i64 3) w):=by
 cases hx : c.exact n with
 | true =>
   obtain ⟨ha,hv⟩:=h.arr hx
   obtain ⟨ha2,hv2⟩:=h2.arr hx
   rw [hv,hv2]
   have K:=Lib.hid (exsubtract_no ha ha2 hm)
   clear h h2 ha ha2 hv hv2 hx
   go_enter Tryz.func146,Tryz.ntmps146
   go_wp2_with (first | (go_at_call 184; ((with_reducible refine (sketches_a _ _ _).mono ?_)); rintro e w' ⟨rfl,rfl⟩) | (go_at_call 186; ((with_reducible refine (arrays_a _ _ _).mono ?_)); rintro e w' ⟨rfl,rfl⟩) | (go_at_call 194; ((with_reducible refine K.out.mono ?_)); rintro e w1 ⟨rfl,hb⟩))
   have HB:=Lib.hid hb
   clear hb
   go_wp2
   go_ret
   exact ⟨rfl,HB.out⟩
 | false =>
   obtain ⟨ha,hv⟩:=h.sk hx
   obtain ⟨ha2,hv2⟩:=h2.sk hx
   rw [hv,hv2]
   have K:=Lib.hid (sksubtract_no ha ha2 hm)
   clear h h2 ha ha2 hv hv2 hx
   go_enter Tryz.func146,Tryz.ntmps146
   go_wp2_with (first | (go_at_call 184; ((with_reducible refine (sketches_s _ _ _).mono ?_)); rintro e w' ⟨rfl,rfl⟩) | (go_at_call 193; ((with_reducible refine K.out.mono ?_)); rintro e w1 ⟨rfl,hb⟩))
   have HB:=Lib.hid hb
   clear hb
   go_wp2
   go_ret
   exact ⟨rfl,HB.out⟩
end Go.Proofs.YtejaocnhekjfiaaGreatDoor
namespace Go.Proofs.YtejaocnhekjfiaaGreatDoor
open Go.RowKit
set_option linter.unusedVariables false
def lvVals (c : Cfg) (L : List LA) : List Value:=L.mapIdx fun n A => levV c n A
theorem lvVals_len (c : Cfg) (L : List LA) : (lvVals c L).length = L.length:=by simp [lvVals]
theorem lvVals_at {c : Cfg} {L : List LA} {n : Nat} {A : LA} (h : L[n]? = some A) : (lvVals c L)[n]? = some (levV c n A):=by unfold lvVals; rw [List.getElem?_mapIdx,h]; rfl
theorem lvVals_snoc (c : Cfg) (L : List LA) (A : LA) : lvVals c (L ++ [A]) = lvVals c L ++ [levV c L.length A]:=by
 unfold lvVals; rw [List.mapIdx_append]; simp
structure StackIs (w : World) (p q : Nat) (c : Cfg) (L : List LA) (C : List (List Int)) : Prop where
 ok : c.ok
 len : L.length = c.bits + 1
 lenC : C.length = c.bits + 1
 blk : ∃ cap : Nat,w.heap[p]? = some (.cells #[.int .i64 c.bits,.int .i64 c.rows,.int .i64 c.width,.int .i64 c.mode,.int .u64 c.seed,.slice (some ⟨q,0,none⟩) (c.bits + 1) cap] 181 (0,0)) ∧ c.bits + 1 ≤ cap ∧ cap ≤ 9223372036854775807
 row : ∃ rest : List Value,w.heap[q]? = some (.cells (lvVals c L ++ rest).toArray 183 (0,0))
 lev : ∀ (n : Nat) (A : LA) (zs : List Int),L[n]? = some A → C[n]? = some zs → LevIs w c n A zs
 dis : ∀ (n m : Nat) (A B : LA),L[n]? = some A → L[m]? = some B → A.r = B.r → n = m
def RowsOf (L : List LA) (k : Nat) : Prop:=∃ A ∈ L,k = A.r
theorem LevIs.upd {S : Nat → Prop} {w w' : World} {c n A zs} (h : LevIs w c n A zs) (hu : Upd S w w') (hb : ¬ S A.b) (hg : ¬ S A.g) (hr : ¬ S A.r) : LevIs w' c n A zs:=by
 unfold LevIs at *; split at h
 · rw [if_pos ‹_›]; exact h.upd hu hb hg hr
 · rw [if_neg ‹_›]; exact h.upd hu hb hg hr
theorem LevIs.ints {w c n A zs} (h : LevIs w c n A zs) : Ints w A.r zs:=by
 unfold LevIs at h; split at h
 · exact h.grid.row
 · exact h.grid.row
theorem LevIs.nob {w c n A zs} (h : LevIs w c n A zs) {l : Array Value} {t : TypeId} {fr : Nat × Nat} (k : Nat) (hk : w.heap[k]? = some (.cells l t fr)) (h1 : t ≠ 294) (h2 : t ≠ 298) : A.b ≠ k:=by
 rintro rfl
 unfold LevIs at h; split at h
 · have:=h.blk; rw [hk] at this; simp at this; exact h1 this.2.1
 · have:=h.blk; rw [hk] at this; simp at this; exact h2 this.2.1
theorem LevIs.nog {w c n A zs} (h : LevIs w c n A zs) {l : Array Value} {t : TypeId} {fr : Nat × Nat} (k : Nat) (hk : w.heap[k]? = some (.cells l t fr)) (h1 : t ≠ 338) : A.g ≠ k:=by
 rintro rfl
 unfold LevIs at h; split at h
 · obtain ⟨cap,hb,_⟩:=h.grid.blk; rw [hk] at hb; simp at hb; exact h1 hb.2.1
 · obtain ⟨cap,hb,_⟩:=h.grid.blk; rw [hk] at hb; simp at hb; exact h1 hb.2.1
theorem LevIs.nor {w c n A zs} (h : LevIs w c n A zs) {l : Array Value} {t : TypeId} {fr : Nat × Nat} (k : Nat) (hk : w.heap[k]? = some (.cells l t fr)) (h1 : t ≠ 2) : A.r ≠ k:=by
 rintro rfl
 obtain ⟨s,e⟩:=h.ints.row
 rw [hk] at e; simp at e; exact h1 e.2.1
theorem LevIs.other {w w' : World} {c n A zs} (h : LevIs w c n A zs) {r : Nat} {xs : List Int} (hi : Ints w r xs) (hne : A.r ≠ r) (hu : Upd (· = r) w w') : LevIs w' c n A zs:=by
 obtain ⟨s,e⟩:=hi.row
 exact h.upd hu (h.nob r e (by decide) (by decide)) (h.nog r e (by decide)) hne
theorem StackIs.mem {w p q c L C} (h : StackIs w p q c L C) {n : Nat} {A : LA} (hA : L[n]? = some A) : ∃ zs,C[n]? = some zs ∧ LevIs w c n A zs:=by
 have hn:=(List.getElem?_eq_some_iff.1 hA).1
 obtain ⟨zs,hz⟩ : ∃ zs,C[n]? = some zs:=⟨C[n]'(by rw [h.lenC,← h.len]; exact hn),List.getElem?_eq_getElem _⟩
 exact ⟨zs,hz,h.lev n A zs hA hz⟩
theorem StackIs.rowsNo {w p q c L C} (h : StackIs w p q c L C) {l : Array Value} {t : TypeId} {fr : Nat × Nat} (k : Nat) (hk : w.heap[k]? = some (.cells l t fr)) (h1 : t ≠ 2) : ¬ RowsOf L k:=by
 rintro ⟨A,hA,rfl⟩
 obtain ⟨n,hn⟩:=List.getElem?_of_mem hA
 obtain ⟨zs,hz,hl⟩:=h.mem hn
 exact hl.nor _ hk h1 rfl
theorem StackIs.upd {S : Nat → Prop} {w w' : World} {p q c L C} (h : StackIs w p q c L C) (hu : Upd S w w') (hp : ¬ S p) (hq : ¬ S q) (hA : ∀ A ∈ L,¬ S A.b ∧ ¬ S A.g ∧ ¬ S A.r) : StackIs w' p q c L C:=by
 obtain ⟨cap,hb,hc⟩:=h.blk
 obtain ⟨rest,hr⟩:=h.row
 exact ⟨h.ok,h.len,h.lenC,⟨cap,hu.heap hb hp,hc⟩,⟨rest,hu.heap hr hq⟩,fun n A zs h1 h2 => by
   have:=hA A (List.mem_of_getElem? h1)
   exact (h.lev n A zs h1 h2).upd hu this.1 this.2.1 this.2.2,h.dis⟩
theorem StackIs.below {w w' : World} {p q c L C} (h : StackIs w p q c L C) (hb : Below w.heap.size w w') : StackIs w' p q c L C:=
 h.upd (S:=fun _ => False) (Upd.of_below hb) id id (fun _ _ => ⟨id,id,id⟩)
theorem StackIs.put {w w' : World} {p q c L C} (h : StackIs w p q c L C) {n : Nat} {A : LA} {zs : List Int} (hA : L[n]? = some A) (hu : Upd (· = A.r) w w') (hl : LevIs w' c n A zs) : StackIs w' p q c L (C.set n zs):=by
 obtain ⟨cap,hb,hc⟩:=h.blk
 obtain ⟨rest,hr⟩:=h.row
 obtain ⟨xs,hxs,hlx⟩:=h.mem hA
 have hi:=hlx.ints
 have np : p ≠ A.r:=fun e => by obtain ⟨s,e2⟩:=hi.row; rw [← e,hb] at e2; simp at e2
 have nq : q ≠ A.r:=fun e => by obtain ⟨s,e2⟩:=hi.row; rw [← e,hr] at e2; simp at e2
 refine ⟨h.ok,h.len,by rw [List.length_set]; exact h.lenC,⟨cap,hu.heap hb np,hc⟩,⟨rest,hu.heap hr nq⟩,fun m B ys hB hy => ?_,h.dis⟩
 by_cases e : n = m
 · subst e
   rw [hA] at hB
   cases hB
   rw [List.getElem?_set_self (List.getElem?_eq_some_iff.1 hxs).1] at hy
   cases hy
   exact hl
 · rw [List.getElem?_set_ne e] at hy
   exact (h.lev m B ys hB hy).other hi (fun e2 => e (h.dis n m A B hA hB e2.symm)) hu
theorem StackIs.cells {w p q c L C} (h : StackIs w p q c L C) : ∃ cap : Nat,w.cell? ⟨p,0,none⟩ = some (.int .i64 c.bits) ∧ w.cell? ⟨p,1,none⟩ = some (.int .i64 c.rows) ∧ w.cell? ⟨p,2,none⟩ = some (.int .i64 c.width) ∧ w.cell? ⟨p,3,none⟩ = some (.int .i64 c.mode) ∧ w.cell? ⟨p,4,none⟩ = some (.int .u64 c.seed) ∧ w.cell? ⟨p,5,none⟩ = some (.slice (some ⟨q,0,none⟩) (c.bits + 1) cap) ∧ c.bits + 1 ≤ cap ∧ cap ≤ 9223372036854775807:=by
 obtain ⟨cap,hb,h1,h2⟩:=h.blk
 exact ⟨cap,(cell_of_row _ _ _ _ _ _ hb).trans rfl,(cell_of_row _ _ _ _ _ _ hb).trans rfl,(cell_of_row _ _ _ _ _ _ hb).trans rfl,(cell_of_row _ _ _ _ _ _ hb).trans rfl,(cell_of_row _ _ _ _ _ _ hb).trans rfl,(cell_of_row _ _ _ _ _ _ hb).trans rfl,h1,h2⟩
theorem StackIs.at_ {w p q c L C} (h : StackIs w p q c L C) {n : Nat} {A : LA} (hA : L[n]? = some A) : w.cell? ⟨q,n,none⟩ = some (levV c n A):=by
 obtain ⟨rest,hr⟩:=h.row
 refine (cell_of_row _ _ _ _ _ _ hr).trans ?_
 have hn:=(List.getElem?_eq_some_iff.1 hA).1
 simp only [List.getElem?_toArray]
 rw [List.getElem?_append_left (by rw [lvVals_len]; exact hn)]
 exact lvVals_at hA
def NewStack (c : Cfg) (C : List (List Int)) (w : World) (v : Value) (w' : World) : Prop:=
 ∃ (p q : Nat) (L : List LA),v = .pointer (some ⟨p,0,none⟩) ∧ StackIs w' p q c L C ∧ w.heap.size ≤ p ∧ w.heap.size ≤ q ∧ (∀ A ∈ L,w.heap.size ≤ A.b ∧ w.heap.size ≤ A.g ∧ w.heap.size ≤ A.r) ∧ Below w.heap.size w w'
end Go.Proofs.YtejaocnhekjfiaaGreatDoor
namespace Go.Proofs.YtejaocnhekjfiaaGreatDoor
open Go.RowKit
set_option linter.unusedVariables false
def thingV (p : Nat) : Value:=.agg #[.pointer (some ⟨p,0,none⟩),.pointer none]
def entAt (i p : Nat) : MapEntry:={ key:=.int .i64 ((i : Int) + 1),val:=thingV p,born:=i }
def entsFrom : Nat → List Nat → List MapEntry
 | _,[] => []
 | i,p :: ps => entAt i p :: entsFrom (i + 1) ps
def ents (ps : List Nat) : Array MapEntry:=(entsFrom 0 ps).toArray
theorem entsFrom_snoc (p : Nat) : ∀ (ps : List Nat) (i : Nat),entsFrom i (ps ++ [p]) = entsFrom i ps ++ [entAt (i + ps.length) p]
 | [],i => rfl
 | q :: ps,i => by
   show entAt i q :: entsFrom (i + 1) (ps ++ [p]) = _
   rw [entsFrom_snoc p ps (i + 1)]
   show _ = entAt i q :: (entsFrom (i + 1) ps ++ [entAt (i + (ps.length + 1)) p])
   rw [show i + 1 + ps.length = i + (ps.length + 1) by omega]
theorem ents_snoc (ps : List Nat) (p : Nat) : ents (ps ++ [p]) = (ents ps).push (entAt ps.length p):=by
 unfold ents; rw [entsFrom_snoc,Nat.zero_add]; simp
theorem entsFrom_len : ∀ (ps : List Nat) (i : Nat),(entsFrom i ps).length = ps.length
 | [],_ => rfl
 | _ :: ps,i => by show (entsFrom (i + 1) ps).length + 1 = ps.length + 1; rw [entsFrom_len ps]
theorem ents_size (ps : List Nat) : (ents ps).size = ps.length:=by simp [ents,entsFrom_len]
theorem same_ents (x : Int) (i p : Nat) : Instr.sameNow (.int .i64) (.int .i64 x) (entAt i p).key = some (x == (i : Int) + 1):=by
 simp [Instr.sameNow,entAt]
theorem find_yes (p : Nat) : ∀ (ps : List Nat) (i h j : Nat),ps[h]? = some p → Instr.findNow (.int .i64) (.int .i64 ((i : Int) + h + 1)) (entsFrom i ps) j = some (some (j + h,thingV p))
 | q :: ps,i,0,j,hp => by
   simp only [List.getElem?_cons_zero,Option.some.injEq] at hp
   subst hp
   show (match Instr.sameNow (.int .i64) _ (entAt i q).key with | some true => _ | some false => _ | none => _) = _
   rw [same_ents]
   simp [entAt]
 | q :: ps,i,h + 1,j,hp => by
   rw [List.getElem?_cons_succ] at hp
   show (match Instr.sameNow (.int .i64) _ (entAt i q).key with | some true => _ | some false => _ | none => _) = _
   rw [same_ents]
   have e : ((i : Int) + ((h + 1 : Nat) : Int) + 1 == (i : Int) + 1) = false:=by simp; omega
   rw [e]
   have:=find_yes p ps (i + 1) h (j + 1) hp
   rw [show ((i + 1 : Nat) : Int) + (h : Int) + 1 = (i : Int) + ((h + 1 : Nat) : Int) + 1 by push_cast; omega,show j + 1 + h = j + (h + 1) by omega] at this
   exact this
theorem find_no (x : Int) : ∀ (ps : List Nat) (i j : Nat),(x ≤ i ∨ (i : Int) + ps.length < x) → Instr.findNow (.int .i64) (.int .i64 x) (entsFrom i ps) j = some none
 | [],_,_,_ => rfl
 | q :: ps,i,j,hx => by
   show (match Instr.sameNow (.int .i64) _ (entAt i q).key with | some true => _ | some false => _ | none => _) = _
   rw [same_ents]
   have hl : (((q :: ps).length : Nat) : Int) = (ps.length : Int) + 1:=by simp
   rw [hl] at hx
   have e : (x == (i : Int) + 1) = false:=by simp; omega
   rw [e]
   exact find_no x ps (i + 1) (j + 1) (by push_cast; omega)
theorem und96 : Tryz.prog.underlying 96 = some (.map 3 114):=by kernel_rfl
theorem und3 : Tryz.prog.underlying 3 = some (.int .i64):=by kernel_rfl
theorem look_yes {w : World} {m n : Nat} {ps : List Nat} (hm : w.heap[m]? = some (.map (ents ps) n)) {h p : Nat} (hp : ps[h]? = some p) :
   (Instr.lookup 96 (.map (some m)) (.int .i64 ((h : Int) + 1)) true).run Tryz.prog w = .ok (.tuple #[thingV p,.bool true]) w:=by
 have h1:=find_yes p ps 0 h 0 hp
 rw [show (((0 : Nat) : Int) + (h : Int) + 1) = (h : Int) + 1 by omega] at h1
 have h2:=MapKept.run_findKey (P:=Tryz.prog) (w:=w) und3 h1
 simp [Instr.lookup,run_underlying und96,MapKept.run_getObj_map hm,MapKept.run_checkKey und3 (d:=.int .i64) (k:=.int .i64 ((h : Int) + 1)) rfl,ents,h2,Result.andThen]
theorem store_new {w : World} {m n : Nat} {ps : List Nat} (hm : w.heap[m]? = some (.map (ents ps) n)) (hn : n = ps.length) (p : Nat) :
   (Instr.mapUpdate 96 (.map (some m)) (.int .i64 ((ps.length : Int) + 1)) (thingV p)).run Tryz.prog w = .ok () { w with heap:=w.heap.setIfInBounds m (.map (ents (ps ++ [p])) (ps.length + 1)) }:=by
 subst hn
 have h1:=find_no ((ps.length : Int) + 1) ps 0 0 (.inr (by push_cast; omega))
 have h2:=MapKept.run_findKey (P:=Tryz.prog) (w:=w) und3 h1
 rw [ents_snoc]
 simp [Instr.mapUpdate,run_underlying und96,MapKept.run_getObj_map hm,MapKept.run_checkKey und3 (d:=.int .i64) (k:=.int .i64 ((ps.length : Int) + 1)) rfl,ents,h2,Result.andThen,MapKept.run_setObj_map _ hm,entAt]
end Go.Proofs.YtejaocnhekjfiaaGreatDoor
namespace Go.Proofs.YtejaocnhekjfiaaGreatDoor
open Go.RowKit
set_option linter.unusedVariables false
@[go_sem] theorem meth234Check (v : Value) (w : World) : (_root_.Go.method 522 234 v "Check").run Tryz.prog w = .ok (289, v) w := by kernel_rfl
@[go_sem] theorem nila234Check (v : Value) (w : World) : (_root_.Go.nilAhead 522 234 v "Check").run Tryz.prog w = .ok (some false) w := by kernel_rfl
@[go_sem] theorem meth237Check (v : Value) (w : World) : (_root_.Go.method 522 237 v "Check").run Tryz.prog w = .ok (297, v) w := by kernel_rfl
@[go_sem] theorem nila237Check (v : Value) (w : World) : (_root_.Go.nilAhead 522 237 v "Check").run Tryz.prog w = .ok (some false) w := by kernel_rfl
@[go_sem] theorem meth234Update (v : Value) (w : World) : (_root_.Go.method 522 234 v "Update").run Tryz.prog w = .ok (292, v) w := by kernel_rfl
@[go_sem] theorem nila234Update (v : Value) (w : World) : (_root_.Go.nilAhead 522 234 v "Update").run Tryz.prog w = .ok (some false) w := by kernel_rfl
@[go_sem] theorem meth237Update (v : Value) (w : World) : (_root_.Go.method 522 237 v "Update").run Tryz.prog w = .ok (300, v) w := by kernel_rfl
@[go_sem] theorem nila237Update (v : Value) (w : World) : (_root_.Go.nilAhead 522 237 v "Update").run Tryz.prog w = .ok (some false) w := by kernel_rfl
@[go_sem] theorem meth234Point (v : Value) (w : World) : (_root_.Go.method 522 234 v "Point").run Tryz.prog w = .ok (291, v) w := by kernel_rfl
@[go_sem] theorem nila234Point (v : Value) (w : World) : (_root_.Go.nilAhead 522 234 v "Point").run Tryz.prog w = .ok (some false) w := by kernel_rfl
@[go_sem] theorem meth237Point (v : Value) (w : World) : (_root_.Go.method 522 237 v "Point").run Tryz.prog w = .ok (299, v) w := by kernel_rfl
@[go_sem] theorem nila237Point (v : Value) (w : World) : (_root_.Go.nilAhead 522 237 v "Point").run Tryz.prog w = .ok (some false) w := by kernel_rfl
@[go_sem] theorem meth234Cells (v : Value) (w : World) : (_root_.Go.method 522 234 v "Cells").run Tryz.prog w = .ok (190, v) w := by kernel_rfl
@[go_sem] theorem nila234Cells (v : Value) (w : World) : (_root_.Go.nilAhead 522 234 v "Cells").run Tryz.prog w = .ok (some false) w := by kernel_rfl
@[go_sem] theorem meth237Cells (v : Value) (w : World) : (_root_.Go.method 522 237 v "Cells").run Tryz.prog w = .ok (218, v) w := by kernel_rfl
@[go_sem] theorem nila237Cells (v : Value) (w : World) : (_root_.Go.nilAhead 522 237 v "Cells").run Tryz.prog w = .ok (some false) w := by kernel_rfl
@[go_sem] theorem meth234Load (v : Value) (w : World) : (_root_.Go.method 522 234 v "Load").run Tryz.prog w = .ok (290, v) w := by kernel_rfl
@[go_sem] theorem nila234Load (v : Value) (w : World) : (_root_.Go.nilAhead 522 234 v "Load").run Tryz.prog w = .ok (some false) w := by kernel_rfl
@[go_sem] theorem meth237Load (v : Value) (w : World) : (_root_.Go.method 522 237 v "Load").run Tryz.prog w = .ok (298, v) w := by kernel_rfl
@[go_sem] theorem nila237Load (v : Value) (w : World) : (_root_.Go.nilAhead 522 237 v "Load").run Tryz.prog w = .ok (some false) w := by kernel_rfl
end Go.Proofs.YtejaocnhekjfiaaGreatDoor
namespace Go.Proofs.YtejaocnhekjfiaaGreatDoor
open Go.RowKit
set_option linter.unusedVariables false
set_option maxRecDepth 100000 in
set_option maxHeartbeats 1000000 in
theorem stlevel_ok {w p q c L C} (h : StackIs w p q c L C) (n : Nat) (A : LA) (hA : L[n]? = some A) :
   Calls Tryz.prog 136 #[.pointer (some ⟨p,0,none⟩),.int .i64 n] w fun e w' => e = .returned (.tuple #[levV c n A,.bool true]) ∧ w = w':=by
 obtain ⟨cap,c0,c1,c2,c3,c4,c5,h1,h2⟩:=h.cells
 have d:=h.at_ hA
 have hn:=(List.getElem?_eq_some_iff.1 hA).1
 rw [h.len] at hn
 have hb:=h.ok.b59
 obtain ⟨m,hm⟩ : ∃ m,c.bits + 1 = m:=⟨_,rfl⟩
 rw [hm] at c5 h1 hn
 have hm2 : (m : Int) ≤ 60:=by omega
 have hn2 : (n : Int) < (m : Int):=by omega
 have g0 : decide ((n : Int) < 0) = false:=by simp
 have g1 : decide (m ≤ n) = false:=by simp; omega
 clear h hA hm hb
 go_enter Tryz.func136,Tryz.ntmps136
 go_wp2_with fail
 go_ret2
 exact ⟨rfl,rfl⟩
noncomputable def levPoint (c : Cfg) (n : Nat) (zs : List Int) (key : Nat) : Int:=if c.exact n = true then zs.getD key 0 else skPoint c n zs key
set_option maxRecDepth 100000 in
set_option maxHeartbeats 1000000 in
theorem stpoint_ok {w p q c L C} (h : StackIs w p q c L C) (n : Nat) (A : LA) (zs : List Int) (hA : L[n]? = some A) (hz : C[n]? = some zs) (key : Nat) (hk : key < 2 ^ (c.bits - n)) :
   Calls Tryz.prog 89 #[.pointer (some ⟨p,0,none⟩),.agg #[.int .i64 n,.int .u64 key]] w fun e w' => e = .returned (.tuple #[.int .i64 (levPoint c n zs key),.int .i64 0]) ∧ Below w.heap.size w w':=by
 have hb1:=(Below.refl w.heap.size w).alloc (Nat.le_refl _) (.cells #[.int .i64 n,.int .u64 key] 46)
 have hbl:=heap_alloc_new w (.cells #[.int .i64 n,.int .u64 key] 46)
 have H1:=Lib.hid (h.below hb1)
 have KL:=Lib.hid (stlevel_ok H1.out n A hA)
 have hl:=H1.out.lev n A zs hA hz
 have HB:=Lib.hid hb1
 have c0 : (w.alloc (.cells #[.int .i64 n,.int .u64 key] 46)).cell? ⟨w.heap.size,0,none⟩ = some (.int .i64 n):=(cell_of_row _ _ _ _ _ _ hbl).trans rfl
 have c1 : (w.alloc (.cells #[.int .i64 n,.int .u64 key] 46)).cell? ⟨w.heap.size,1,none⟩ = some (.int .u64 key):=(cell_of_row _ _ _ _ _ _ hbl).trans rfl
 cases hx : c.exact n with
 | true =>
   obtain ⟨ha,hv⟩:=hl.arr hx
   rw [hv] at KL
   have K:=Lib.hid (expoint_ok ha key hk)
   have HX:=Lib.hid (show levPoint c n zs key = zs.getD key 0 by unfold levPoint; rw [if_pos hx])
   clear h hb1 hbl hl ha hv hx hA hz hk
   go_enter Tryz.func89,Tryz.ntmps89
   go_wp2_with fail
   refine KL.out.mono ?_
   rintro e w' ⟨rfl,rfl⟩
   go_wp2_with (go_at_call 291; ((with_reducible refine K.out.mono ?_)); rintro e w' ⟨rfl,rfl⟩)
   go_ret2
   exact ⟨by rw [HX.out]; rfl,HB.out⟩
 | false =>
   obtain ⟨ha,hv⟩:=hl.sk hx
   rw [hv] at KL
   have K:=Lib.hid (skpoint_ok ha h.ok (by have:=(List.getElem?_eq_some_iff.1 hA).1; have:=h.len; omega) key hk)
   have HX:=Lib.hid (show levPoint c n zs key = skPoint c n zs key by unfold levPoint; rw [if_neg (by rw [hx]; decide)])
   clear h hb1 hbl hl ha hv hx hA hz hk
   go_enter Tryz.func89,Tryz.ntmps89
   go_wp2_with fail
   refine KL.out.mono ?_
   rintro e w' ⟨rfl,rfl⟩
   go_wp2_with (go_at_call 299; ((with_reducible refine K.out.mono ?_)); rintro e w2 ⟨rfl,hb⟩)
   have HB2:=Lib.hid (HB.out.trans (hb.mono HB.out.size)); clear hb
   go_wp2_with fail
   go_ret2
   exact ⟨by rw [HX.out]; rfl,HB2.out⟩
end Go.Proofs.YtejaocnhekjfiaaGreatDoor
namespace Go.Proofs.YtejaocnhekjfiaaGreatDoor
open Go.RowKit
set_option linter.unusedVariables false
set_option maxRecDepth 100000 in
set_option maxHeartbeats 1000000 in
theorem stconfig_any {w p q c L C} (h : StackIs w p q c L C) : Calls Tryz.prog 78 #[.pointer (some ⟨p,0,none⟩)] w fun e w' => e = .returned (cfgV c) ∧ Below w.heap.size w w':=by
 obtain ⟨cap,c0,c1,c2,c3,c4,c5,h1,h2⟩:=h.cells
 have e0:=fun o => cell_make c0 o
 have e1:=fun o => cell_make c1 o
 have e2:=fun o => cell_make c2 o
 have e3:=fun o => cell_make c3 o
 have e4:=fun o => cell_make c4 o
 clear h
 go_enter Tryz.func78,Tryz.ntmps78
 go_wp2_with fail
 exact bodyPost_ret (v:=cfgV c) (by simp [results,Tryz.results78,go_sem,cfgV]) rfl ⟨rfl,(Below.refl _ _).alloc (Nat.le_refl _) _⟩
def RAt (c : Cfg) (n : Nat) (zs : List Int) (w : World) (e : Ending) (w' : World) : Prop:=∃ v,e = .returned (.tuple #[v,.bool true]) ∧ NewLev c n zs w v w'
set_option maxRecDepth 100000 in
set_option maxHeartbeats 1000000 in
theorem stat_ok {w p q c L C} (h : StackIs w p q c L C) (n : Nat) (A : LA) (zs : List Int) (hA : L[n]? = some A) (hz : C[n]? = some zs) :
   Calls Tryz.prog 142 #[.pointer (some ⟨p,0,none⟩),.int .i64 n] w (RAt c n zs w):=by
 have KL:=Lib.hid (stlevel_ok h n A hA)
 have K:=Lib.hid (levcopy_any (h.lev n A zs hA hz))
 clear h hA hz
 generalize levV c n A = lv at *
 go_enter Tryz.func142,Tryz.ntmps142
 go_wp2_with fail
 refine KL.out.mono ?_
 rintro e w' ⟨rfl,rfl⟩
 go_wp2_with (go_at_call 167; ((with_reducible refine K.out.mono ?_)); rintro e w' ⟨v,rfl,hv⟩)
 have HV:=Lib.hid hv; clear hv
 go_wp2_with fail
 go_ret2
 exact ⟨v,rfl,HV.out⟩
def RSt (w : World) (p q : Nat) (c : Cfg) (L : List LA) (C : List (List Int)) (v : Value) (e : Ending) (w' : World) : Prop:=e = .returned v ∧ Upd (RowsOf L) w w' ∧ StackIs w' p q c L C
set_option maxRecDepth 100000 in
set_option maxHeartbeats 1000000 in
theorem stload_ok {w p q c L C} (h : StackIs w p q c L C) (n : Nat) (A : LA) (zs ys : List Int) (gl : Nat) (hA : L[n]? = some A) (hz : C[n]? = some zs) (hl : Ints w gl ys) (hlen : ys.length = zs.length) (hne : gl ≠ A.r) (cap : Nat) :
   Calls Tryz.prog 103 #[.pointer (some ⟨p,0,none⟩),.int .i64 n,.slice (some ⟨gl,0,none⟩) ys.length cap] w (RSt w p q c L (C.set n ys) (.bool true)):=by
 have KL:=Lib.hid (stlevel_ok h n A hA)
 have hv:=h.lev n A zs hA hz
 have H:=Lib.hid h
 have HA:=Lib.hid hA
 have hR : ∀ k,k = A.r → RowsOf L k:=fun k e => ⟨A,List.mem_of_getElem? hA,e⟩
 have HR:=Lib.hid hR
 cases hx : c.exact n with
 | true =>
   obtain ⟨ha,hv'⟩:=hv.arr hx
   rw [hv'] at KL
   have K:=Lib.hid (exload_ok ha hl hlen hne cap)
   have HX:=Lib.hid hx
   generalize ys.length = m at *
   clear h hv ha hv' hx hA hz hl hlen hne hR
   go_enter Tryz.func103,Tryz.ntmps103
   go_wp2_with fail
   refine KL.out.mono ?_
   rintro e w' ⟨rfl,rfl⟩
   go_wp2_with (go_at_call 290; ((with_reducible refine K.out.mono ?_)); rintro e w1 ⟨rfl,hu,hg⟩)
   have HU:=Lib.hid hu
   have HG:=Lib.hid hg
   clear hu hg
   go_wp2_with fail
   go_ret
   exact ⟨rfl,HU.out.mono HR.out,H.out.put HA.out HU.out (LevIs.of_arr HG.out HX.out)⟩
 | false =>
   obtain ⟨ha,hv'⟩:=hv.sk hx
   rw [hv'] at KL
   have K:=Lib.hid (skload_ok ha hl hlen hne cap)
   have HX:=Lib.hid hx
   generalize ys.length = m at *
   clear h hv ha hv' hx hA hz hl hlen hne hR
   go_enter Tryz.func103,Tryz.ntmps103
   go_wp2_with fail
   refine KL.out.mono ?_
   rintro e w' ⟨rfl,rfl⟩
   go_wp2_with (go_at_call 298; ((with_reducible refine K.out.mono ?_)); rintro e w1 ⟨rfl,hu,hg⟩)
   have HU:=Lib.hid hu
   have HG:=Lib.hid hg
   clear hu hg
   go_wp2_with fail
   go_ret
   exact ⟨rfl,HU.out.mono HR.out,H.out.put HA.out HU.out (LevIs.of_sk HG.out HX.out)⟩
end Go.Proofs.YtejaocnhekjfiaaGreatDoor
namespace Go.Proofs.YtejaocnhekjfiaaGreatDoor
open Go.RowKit
set_option linter.unusedVariables false
theorem Upd.of_grown {w w' : World} {row : Option Nat} (h : w.grownBy w' row) : Upd (fun k => some k = row) w w':=⟨h.os,h.tape,h.output,h.size,fun k hk hn => h.block k hk hn⟩
structure Making (w wr : World) (c : Cfg) (s : Nat) (v : Value) (L : List LA) : Prop where
 slo : w.heap.size ≤ s
 own : wr.ownsRow w.heap.size 183 1 v L.length (lvVals c L)
 lev : ∀ (n : Nat) (A : LA),L[n]? = some A → LevIs wr c n A (zeroL c n)
 lo : ∀ A ∈ L,w.heap.size ≤ A.b ∧ w.heap.size ≤ A.g ∧ w.heap.size ≤ A.r ∧ A.r < wr.heap.size
 dis : ∀ (n m : Nat) (A B : LA),L[n]? = some A → L[m]? = some B → A.r = B.r → n = m
 bel : Below w.heap.size w wr
 cfg : wr.heap[w.heap.size]? = some (cfgO c)
 stk : wr.heap[s]? = some (.cells #[.int .i64 c.bits,.int .i64 c.rows,.int .i64 c.width,.int .i64 c.mode,.int .u64 c.seed,.slice none 0 0] 181 (0,0))
theorem own_keeps {w w' : World} {base : Nat} {v : Value} {n : Nat} {xs : List Value} (h : w.ownsRow base 183 1 v n xs) (hb : Below w.heap.size w w') : w'.ownsRow base 183 1 v n xs:=by
 rcases h with ⟨hl,⟨h,h0⟩ | ⟨g,cap,cur,h,hg,hh,r⟩⟩
 · exact ⟨hl,.inl ⟨h,h0⟩⟩
 · exact ⟨hl,.inr ⟨g,cap,cur,h,hg,(hb.block g (lt_of_block hh)).trans hh,r⟩⟩
theorem Making.below {w wr w' : World} {c s v L} (h : Making w wr c s v L) (hb : Below wr.heap.size wr w') : Making w w' c s v L:=
 ⟨h.slo,own_keeps h.own hb,fun n A hA => (h.lev n A hA).below hb,fun A hA => by obtain ⟨a,b,c,d⟩:=h.lo A hA; exact ⟨a,b,c,Nat.lt_of_lt_of_le d hb.size⟩,h.dis,h.bel.trans (hb.mono h.bel.size),(hb.block _ (lt_of_block h.cfg)).trans h.cfg,(hb.block _ (lt_of_block h.stk)).trans h.stk⟩
theorem Making.more {w wr w1 w2 : World} {c s v L v'} {A : LA} (h : Making w wr c s v L) (hn : NewLev c L.length (zeroL c L.length) wr (levV c L.length A) w1) (hA : LevIs w1 c L.length A (zeroL c L.length)) (hAb : wr.heap.size ≤ A.b ∧ wr.heap.size ≤ A.g ∧ wr.heap.size ≤ A.r) (hb : Below wr.heap.size wr w1)
   (ho : w2.ownsRow w.heap.size 183 1 v' (L.length + 1) (lvVals c L ++ [levV c L.length A])) {o : Obj} (hg : (w1.alloc o).grownBy w2 v.ownBlock) : Making w w2 c s v' (L ++ [A]):=by
 have h1:=(h.below hb).below ((Below.refl _ _).alloc (Nat.le_refl _) o)
 have hA1 : LevIs (w1.alloc o) c L.length A (zeroL c L.length):=hA.below ((Below.refl _ _).alloc (Nat.le_refl _) o)
 have hu:=Upd.of_grown hg
 have hkind : ∀ k,some k = v.ownBlock → ∃ cur,(w1.alloc o).heap[k]? = some (.cells cur 183 (0,0)) ∧ w.heap.size ≤ k:=by
   intro k hk
   rcases h1.own with ⟨_,⟨e,_⟩ | ⟨g,cap,cur,e,hg',hh,_⟩⟩
   · rw [e] at hk; simp [Value.ownBlock] at hk
   · rw [e] at hk; simp [Value.ownBlock] at hk; subst hk; exact ⟨cur,hh,hg'⟩
 have keepL : ∀ (n : Nat) (B : LA),LevIs (w1.alloc o) c n B (zeroL c n) → LevIs w2 c n B (zeroL c n):=by
   intro n B hB
   refine hB.upd hu ?_ ?_ ?_
   · intro e; obtain ⟨cur,hh,_⟩:=hkind _ e; exact hB.nob _ hh (by decide) (by decide) rfl
   · intro e; obtain ⟨cur,hh,_⟩:=hkind _ e; exact hB.nog _ hh (by decide) rfl
   · intro e; obtain ⟨cur,hh,_⟩:=hkind _ e; exact hB.nor _ hh (by decide) rfl
 have hsz : (w1.alloc o).heap.size ≤ w2.heap.size:=hg.size
 refine ⟨h.slo,?_,?_,?_,?_,?_,?_,?_⟩
 · rw [List.length_append,List.length_singleton,lvVals_snoc]; exact ho
 · intro n B hB
   by_cases e : n < L.length
   · rw [List.getElem?_append_left e] at hB
     exact keepL n B (h1.lev n B hB)
   · rw [List.getElem?_append_right (by omega)] at hB
     have : n - L.length = 0:=by
       have:=(List.getElem?_eq_some_iff.1 hB).1; simp at this; omega
     rw [this] at hB
     simp at hB; subst hB
     have : n = L.length:=by omega
     subst this
     exact keepL _ _ hA1
 · intro B hB
   rw [List.mem_append] at hB
   rcases hB with hB | hB
   · obtain ⟨a,b,c,d⟩:=h1.lo B hB; exact ⟨a,b,c,Nat.lt_of_lt_of_le d hsz⟩
   · simp at hB; subst hB
     have hs:=h.bel.size
     exact ⟨by omega,by omega,by omega,Nat.lt_of_lt_of_le hA1.ints.lt hsz⟩
 · intro n m X Y hX hY hr
   have key : ∀ (i j : Nat) (X Y : LA),(L ++ [A])[i]? = some X → (L ++ [A])[j]? = some Y → X.r = Y.r → i < L.length → ¬ j < L.length → False:=by
     intro i j X Y hX hY hr hi hj
     rw [List.getElem?_append_left hi] at hX
     rw [List.getElem?_append_right (by omega)] at hY
     have : j - L.length = 0:=by have:=(List.getElem?_eq_some_iff.1 hY).1; simp at this; omega
     rw [this] at hY; simp at hY; subst hY
     have:=(h.lo X (List.mem_of_getElem? hX)).2.2.2
     omega
   by_cases hn' : n < L.length
   · by_cases hm' : m < L.length
     · rw [List.getElem?_append_left hn'] at hX
       rw [List.getElem?_append_left hm'] at hY
       exact h.dis n m X Y hX hY hr
     · exact (key n m X Y hX hY hr hn' hm').elim
   · by_cases hm' : m < L.length
     · exact (key m n Y X hY hX hr.symm hm' hn').elim
     · have h3:=(List.getElem?_eq_some_iff.1 hX).1
       have h4:=(List.getElem?_eq_some_iff.1 hY).1
       simp at h3 h4; omega
 · exact ((h1.bel).trans ((hu.below (B:=w.heap.size) (fun k hk => by obtain ⟨cur,_,hh⟩:=hkind k hk; exact hh) h1.bel.size)))
 · refine hu.heap h1.cfg ?_
   intro e; obtain ⟨cur,hh,_⟩:=hkind _ e
   have:=h1.cfg; rw [hh] at this; simp [cfgO] at this
 · refine hu.heap h1.stk ?_
   intro e; obtain ⟨cur,hh,_⟩:=hkind _ e
   have:=h1.stk; rw [hh] at this; simp at this
end Go.Proofs.YtejaocnhekjfiaaGreatDoor
namespace Go.Proofs.YtejaocnhekjfiaaGreatDoor
open Go.RowKit
set_option linter.unusedVariables false
theorem info183 : (Tryz.prog.info? 183).map (fun i => (i.zero,i.size,i.bytes)) = some (some .nilIface,1,16):=by kernel_rfl
def zeroC (c : Cfg) : List (List Int):=(List.range (c.bits + 1)).map (zeroL c)
def RNewStack (c : Cfg) (C : List (List Int)) (w : World) (e : Ending) (w' : World) : Prop:=∃ v,e = .returned (.tuple #[v,.int .i64 0]) ∧ NewStack c C w v w'
theorem one_iface (t : TypeId) (p : Value) : ∀ u ∈ [Value.iface t p],u.oneCell' = true:=by
 intro u hu; simp at hu; subst hu; rfl
theorem levV_ex (c : Cfg) (n : Nat) (A : LA) : ∃ t,levV c n A = .iface t (.pointer (some ⟨A.b,0,none⟩)):=⟨_,rfl⟩
theorem Making.done {w wr : World} {c s v L} (hc : c.ok) (h : Making w wr c s v L) (hL : L.length = c.bits + 1) :
   NewStack c (zeroC c) w (.pointer (some ⟨s,0,none⟩)) (wr.setCell ⟨s,5,none⟩ v):=by
 have hu : Upd (· = s) wr (wr.setCell ⟨s,5,none⟩ v):=Upd.store (S:=(· = s)) wr _ 5 v rfl
 rcases h.own with ⟨hl,⟨rfl,h0⟩ | ⟨g,cap,cur,rfl,hg,hh,hnc,hcm,hcs,ht⟩⟩
 · omega
 · refine ⟨s,g,L,rfl,⟨hc,hL,by simp [zeroC],⟨cap,?_,by omega,by unfold maxLen at hcm; exact hcm⟩,⟨cur.toList.drop L.length,?_⟩,?_,h.dis⟩,h.slo,hg,fun A hA => ⟨(h.lo A hA).1,(h.lo A hA).2.1,(h.lo A hA).2.2.1⟩,?_⟩
   · rw [heap_setCell_same _ _ _ _ _ _ h.stk,hL]; rfl
   · have : g ≠ s:=by rintro rfl; rw [h.stk] at hh; simp at hh
     rw [heap_setCell_other _ _ _ _ this,hh]
     rw [Nat.mul_one] at ht
     rw [← ht,List.take_append_drop]
   · intro n A zs hA hz
     have hn:=(List.getElem?_eq_some_iff.1 hA).1
     have e : zs = zeroL c n:=by
       unfold zeroC at hz
       rw [List.getElem?_map,List.getElem?_range (by omega)] at hz
       simpa using hz.symm
     subst e
     have hA':=h.lev n A hA
     refine hA'.upd hu ?_ ?_ ?_
     · intro e; exact hA'.nob _ h.stk (by decide) (by decide) e
     · intro e; exact hA'.nog _ h.stk (by decide) e
     · intro e; exact hA'.nor _ h.stk (by decide) e
   · exact h.bel.trans (hu.below (fun k hk => by have:=h.slo; omega) h.bel.size)
set_option maxRecDepth 100000 in
set_option maxHeartbeats 4000000 in
theorem stnew_ok (c : Cfg) (hc : c.ok) (w : World) : Calls Tryz.prog 49 #[cfgV c] w (RNewStack c (zeroC c) w):=by
 have KR:=Lib.hid (fun w => right_ok c hc w)
 have hb0:=(Below.refl w.heap.size w).alloc (Nat.le_refl _) (cfgO c)
 have hbl:=heap_alloc_new w (cfgO c)
 have HB:=Lib.hid hb0
 have HBL:=Lib.hid hbl
 obtain ⟨a0,a1,a2,a3,a4⟩:=cfg5 hbl
 have KN:=Lib.hid (fun n hn w => levnew_ok c hc n hn w)
 have HC:=Lib.hid hc
 have b59:=hc.b59
 obtain ⟨i0,hi,hz0,hz1,hz2⟩:=info_parts info183
 unfold cfgV cfgO at *
 clear hb0 hbl hc
 go_enter Tryz.func49,Tryz.ntmps49
 go_wp2_with fail
 refine (KR.out _).mono ?_
 rintro e w2 ⟨rfl,hb⟩
 have HB2:=Lib.hid (HB.out.trans (hb.mono HB.out.size))
 have HBL2:=Lib.hid ((hb.block _ (lt_of_block HBL.out)).trans HBL.out)
 obtain ⟨a0,a1,a2,a3,a4⟩:=cfg5 (c:=c) HBL2.out
 clear hb HB HBL KR
 have e0:=fun o => cell_make a0 o
 go_wp2_with fail
 have HM0:=Lib.hid (show Making w (w2.alloc (.cells #[.int .i64 c.bits,.int .i64 c.rows,.int .i64 c.width,.int .i64 c.mode,.int .u64 c.seed,.slice none 0 0] 181)) c w2.heap.size (.slice none 0 0) [] from
   ⟨HB2.out.size,⟨rfl,.inl ⟨rfl,rfl⟩⟩,fun n A hA => by simp at hA,fun A hA => by simp at hA,fun n m A B hA => by simp at hA,HB2.out.alloc HB2.out.size _,(Below.heap_alloc _ _ _ (lt_of_block HBL2.out)).trans HBL2.out,heap_alloc_new _ _⟩)
 generalize w2.alloc (.cells #[.int .i64 c.bits,.int .i64 c.rows,.int .i64 c.width,.int .i64 c.mode,.int .u64 c.seed,.slice none 0 0] 181) = w3 at *
 generalize w2.heap.size = s at *
 clear e0 a0 a1 a2 a3 a4
 go_loopw [5,18] (fun u5 u18 wr => ∃ L : List LA,L.length ≤ c.bits + 1 ∧ u18 = .int .i64 L.length ∧ Hid (Making w wr c s u5 L)) (fun _ u18 _ => c.bits + 1 - (intOf u18).toNat)
 case atStart => exact ⟨[],by simp,rfl,Lib.hid HM0.out⟩
 case round =>
   obtain ⟨L,hk,rfl,HM⟩:=hrel
   by_cases hlt : L.length < c.bits + 1
   · obtain ⟨a0,a1,a2,a3,a4⟩:=cfg5 (c:=c) HM.out.cfg
     have hlt2 : (L.length : Int) < (c.bits : Int) + 1:=by omega
     have KX:=Lib.hid (KN.out L.length (by omega) wr)
     have hm1 : L.length + 1 ≤ maxLen:=by unfold maxLen; omega
     have hm2 : (L.length + 1) * 16 ≤ 140737488355328:=by omega
     generalize hLn : L.length = k at *
     have HLn:=Lib.hid hLn; clear hLn
     go_wp2_with fail
     refine KX.out.mono ?_
     rintro e w4 ⟨v,rfl,hnew⟩
     have HNW:=Lib.hid hnew
     obtain ⟨A,rfl,hA,hA1,hA2,hA3,hb⟩:=hnew
     obtain ⟨t,ht⟩:=levV_ex c k A
     have HT:=Lib.hid ht
     rw [ht]
     have HA:=Lib.hid (And.intro hA (And.intro (And.intro hA1 (And.intro hA2 hA3)) hb))
     have HO:=Lib.hid (own_keeps (own_keeps HM.out.own hb) ((Below.refl _ _).alloc (Nat.le_refl _) (.cells #[.iface t (.pointer (some ⟨A.b,0,none⟩))] 183)))
     have hz4 : w.heap.size ≤ w4.heap.size:=Nat.le_trans HM.out.bel.size hb.size
     clear hA hA1 hA2 hA3 hb ht
     rw [HLn.out] at HO
     go_wp2_with (at_builtin; refine wpList_append_own _ rfl (.tmp 27) (.tmp 29) 179 rfl w.heap.size 183 i0 .nilIface 1 16 Tryz.underlying179 hi hz0 hz1 hz2 rfl (by decide) u5 k (lvVals c L) rfl HO.out ⟨w4.heap.size,0,none⟩ 1 1 [.iface t (.pointer (some ⟨A.b,0,none⟩))] rfl rfl (news_one w4 _ 183) (one_iface _ _) hm1 hm2 (by simp; omega) ?_; intro v' w5 hown' hg' _)
     have HM2:=Lib.hid (show Making w w5 c s v' (L ++ [A]) from by
       have h1:=HA.out
       refine Making.more (o:=.cells #[.iface t (.pointer (some ⟨A.b,0,none⟩))] 183) HM.out (w1:=w4) (by rw [HLn.out]; exact HNW.out) (by rw [HLn.out]; exact h1.1) h1.2.1 h1.2.2 ?_ hg'
       rw [HLn.out,HT.out]; exact hown')
     clear hown' hg'
     go_wp2_with fail
     go_roundw
     case rel => exact ⟨L ++ [A],by simp [HLn.out]; omega,by rw [List.length_append,HLn.out]; rfl,Lib.hid HM2.out⟩
     case measure => simp [intOf]; omega
   · have hkk : L.length = c.bits + 1:=by omega
     have hfa : ¬ ((L.length : Int) < (c.bits : Int) + 1):=by omega
     obtain ⟨a',c',hv',_⟩:=Row.own HM.out.own
     subst hv'
     have HD:=Lib.hid (HM.out.done HC.out hkk)
     have f0 : wr.frozen? ⟨s,5,none⟩ = false:=frozen_of_row _ _ _ _ _ HM.out.stk
     have c5 : wr.cell? ⟨s,5,none⟩ = some (.slice none 0 0):=(cell_of_row _ _ _ _ _ _ HM.out.stk).trans rfl
     clear hlt hkk
     generalize L.length = k at *
     go_wp2_with fail
     go_ret2
     exact ⟨_,rfl,HD.out⟩
end Go.Proofs.YtejaocnhekjfiaaGreatDoor
namespace Go.Proofs.YtejaocnhekjfiaaGreatDoor
open Go.RowKit
set_option linter.unusedVariables false
noncomputable def levUpd (c : Cfg) (n : Nat) (zs : List Int) (key : Nat) (d : Int) : List Int:=if c.exact n = true then exUpd zs key d else skUpd c n zs key d
theorem FitL.mono {a b : Int} {zs : List Int} (h : FitL a zs) (hab : a ≤ b) : FitL b zs:=fun x hx => by have:=h x hx; omega
theorem FitL.getD {b : Int} {zs : List Int} (h : FitL b zs) (hb : 0 ≤ b) (k : Nat) : -b ≤ zs.getD k 0 ∧ zs.getD k 0 ≤ b:=by
 rw [List.getD_eq_getElem?_getD]
 cases e : zs[k]? with
 | none => simp; omega
 | some v => simpa using h v (List.mem_of_getElem? e)
theorem FitL.set {b : Int} {zs : List Int} (h : FitL b zs) (k : Nat) {v : Int} (hv : -b ≤ v ∧ v ≤ b) : FitL b (zs.set k v):=fun x hx => by
 rcases List.mem_or_eq_of_mem_set hx with h1 | h1
 · exact h x h1
 · rw [h1]; exact hv
theorem FitL.read {b : Int} {zs : List Int} (h : FitL b zs) (hb : 0 ≤ b) (W : Nat) (cols : List Nat) : FitL b (readC W zs cols):=fun x hx => by
 unfold readC at hx
 obtain ⟨i,hi,rfl⟩:=List.mem_mapIdx.1 hx
 exact h.getD hb _
theorem FitL.putC {b : Int} {zs vs : List Int} (h : FitL b zs) (hb : 0 ≤ b) (hv : FitL b vs) (W : Nat) (cols : List Nat) : ∀ k,FitL b (putC W zs cols vs k)
 | 0 => h
 | k + 1 => (FitL.putC h hb hv W cols k).set _ (hv.getD hb _)
theorem FitL.riseC {b : Int} {zs : List Int} (h : FitL b zs) (W : Nat) (cols : List Nat) {n : Int} (hn : -b ≤ n ∧ n ≤ b) : ∀ k,FitL b (riseC W zs cols n k)
 | 0 => h
 | k + 1 => by
   have:=FitL.riseC h W cols hn k
   unfold YtejaocnhekjfiaaGreatDoor.riseC riseAt
   split
   · exact this.set _ hn
   · exact this
theorem levUpd_fit {c : Cfg} (hc : c.ok) {n : Nat} {zs : List Int} {key : Nat} {d b D : Int} (h : FitL b zs) (hb : 0 ≤ b) (hd : -D ≤ d ∧ d ≤ D) (hD : 0 ≤ D) : FitL (b + D) (levUpd c n zs key d):=by
 have h':=h.mono (show b ≤ b + D by omega)
 unfold levUpd
 split
 · have:=h.getD hb key
   exact h'.set _ (by omega)
 · unfold skUpd
   split
   · unfold raiseC
     have h1 : readC c.width zs (colsN c n key) ≠ []:=fun e => by
       have:=congrArg List.length e
       rw [readC_len,(colsN_meet c hc n key).len] at this
       have:=hc.r1; simp at *; omega
     have h2:=h.read hb c.width (colsN c n key) _ (minV_mem h1)
     exact h'.riseC _ _ (by omega) _
   · unfold changeC
     refine h'.putC (by omega) (fun x hx => ?_) _ _ _
     obtain ⟨y,hy,rfl⟩:=List.mem_map.1 hx
     have:=h.read hb _ _ y hy
     omega
theorem levUpd_len {c : Cfg} {n : Nat} {zs : List Int} {key : Nat} {d : Int} : (levUpd c n zs key d).length = zs.length:=by
 unfold levUpd skUpd exUpd raiseC changeC
 split
 · simp
 · split
   · exact riseC_len _ _ _ _ _
   · exact putC_len _ _ _ _ _
end Go.Proofs.YtejaocnhekjfiaaGreatDoor
namespace Go.Proofs.YtejaocnhekjfiaaGreatDoor
open Go.RowKit Go.Shelf
set_option linter.unusedVariables false
set_option maxRecDepth 100000 in
set_option maxHeartbeats 1000000 in
theorem stat_any (p : Nat) (key : Nat) (w : World) :
   Calls Tryz.prog 128 #[.pointer (some ⟨p,0,none⟩),.int .u64 key] w fun e w' =>
     e = .returned (.func (.func 168) #[] #[.pointer (some ⟨w.heap.size,0,none⟩),.pointer (some ⟨w.heap.size + 1,0,none⟩)]) ∧
     w' = (w.alloc (.cells #[.pointer (some ⟨p,0,none⟩)] 108)).alloc (.cells #[.int .u64 key] 22):=by
 go_enter Tryz.func128,Tryz.ntmps128
 go_wp2_with fail
 go_ret
 exact ⟨rfl,rfl⟩
structure KeepR (n₀ : Nat) (T : Nat → Prop) (w w' : World) : Prop where
 size : w.heap.size ≤ w'.heap.size
 block : ∀ k,k < n₀ → ¬ T k → w'.heap[k]? = w.heap[k]?
theorem KeepR.trans {n₀ T} {a b c : World} (h : KeepR n₀ T a b) (k : KeepR n₀ T b c) : KeepR n₀ T a c:=⟨Nat.le_trans h.size k.size,fun i hi hr => (k.block i hi hr).trans (h.block i hi hr)⟩
theorem KeepR.cell {n₀ T} {w w' : World} (h : KeepR n₀ T w w') {b : Nat} (hb : b < n₀) (hr : ¬ T b) (o : Nat) : w'.cell? ⟨b,o,none⟩ = w.cell? ⟨b,o,none⟩:=World.cell?_of_block (h.block b hb hr)
theorem Upd.keepR {n₀ T} {S : Nat → Prop} {w w' : World} (h : Upd S w w') (hn : n₀ ≤ w.heap.size) (hs : ∀ k,k < n₀ → S k → T k) : KeepR n₀ T w w':=⟨h.size,fun k hk hr => h.block k (by omega) (fun e => hr (hs k hk e))⟩
attribute [local go_sem] Oper.semAt_some
abbrev Lvl (m : Nat):={ x : Nat // x < m }
def encL (c : Cfg) (L : List LA) (key : Nat) (x : Lvl (c.bits + 1)) : Array Value:=#[levV c x.1 (L.getD x.1 ⟨0,0,0⟩),.int .u64 ((key : Int) / 2 ^ x.1)]
set_option maxRecDepth 100000 in
set_option maxHeartbeats 2000000 in
theorem at1_stops (n : Nat) {p q c L C} (T : Nat → Prop) (b0 b1 n₀ key : Nat) (w : World) (h : StackIs w p q c L C) (hc0 : w.cell? ⟨b0,0,none⟩ = some (.pointer (some ⟨p,0,none⟩))) (hc1 : w.cell? ⟨b1,0,none⟩ = some (.int .u64 key))
   (hr0 : ¬ T b0) (hr1 : ¬ T b1) (hrp : ¬ T p) (hrq : ¬ T q) (hb0 : b0 < n₀) (hb1 : b1 < n₀) (hp : p < n₀) (hq : q < n₀) (hn : n₀ ≤ w.heap.size) (hk : key < 18446744073709551616) :
   SeqStopsK Fence.wide n Tryz.prog 168 #[.pointer (some ⟨b0,0,none⟩),.pointer (some ⟨b1,0,none⟩)] (encL c L key) (KeepR n₀ T) (fun xs => xs.map (·.1) = List.range (c.bits + 1)) (fun _ => True) (c.bits + 1) w:=fun l J Jx W hW hJ hJx hY h0 => by
 have hKW : KeepR n₀ T w W:=⟨hW.size,fun k hk hr => hW.block k (by omega)⟩
 obtain ⟨cap,hbk,hcap⟩:=h.blk
 obtain ⟨rest,hrow⟩:=h.row
 obtain ⟨cap',d0,d1,d2,d3,d4,d5,hcap',hcap''⟩:=h.cells
 have hat:=fun {n : Nat} {A : LA} (hA : L[n]? = some A) => h.at_ hA
 have hL:=h.len
 have hbits:=h.ok.b59
 clear h hbk hcap hrow rest cap
 have e0:=(hKW.cell hb0 hr0 0).trans hc0
 have e1:=(hKW.cell hb1 hr1 0).trans hc1
 have e5:=(hKW.cell hp hrp 5).trans d5
 obtain ⟨m,hm⟩ : ∃ m,c.bits + 1 = m:=⟨_,rfl⟩
 rw [hm] at e5
 refine callsIn_of_wp Tryz.func168 rfl trivial ?_ rfl
 simp only [Tryz.ntmps168,List.size_toArray,List.length_cons,List.length_nil,Nat.reduceAdd,Nat.reduceSub,Array.replicate_succ,Array.replicate_zero,List.push_toArray,List.append_toArray,List.nil_append,List.cons_append]
 gi_wp2
 gi_loopw [11] (fun i wr => ∃ (k : Nat) (pre : List (Lvl (c.bits + 1))),k ≤ m ∧ i = .int .i64 k ∧ pre.map (·.1) = List.range k ∧ J pre wr ∧ KeepR n₀ T W wr)
   (fun i _ => m - (intOf i).toNat)
 case atStart => exact ⟨0,[],Nat.zero_le _,rfl,rfl,h0,⟨Nat.le_refl _,fun _ _ _ => rfl⟩⟩
 case round =>
   obtain ⟨k,pre,hkm,rfl,hpre,hJs,hnx⟩:=hrel
   have hlen : pre.length = k:=by simpa using congrArg List.length hpre
   by_cases hlt : k < m
   · obtain ⟨A,hA⟩ : ∃ A,L[k]? = some A:=⟨_,List.getElem?_eq_getElem (by omega)⟩
     have hgd : L.getD k ⟨0,0,0⟩ = A:=by rw [List.getD_eq_getElem?_getD,hA]; rfl
     have f0:=(hnx.cell hb0 hr0 0).trans e0
     have f1:=(hnx.cell hb1 hr1 0).trans e1
     have hx:=((hnx.cell hq hrq k).trans ((hKW.cell hq hrq k).trans (hat hA)))
     obtain ⟨fn,tmps,assign,body,hy,hR⟩:=hY pre ⟨k,by omega⟩ wr hJs (by omega)
     unfold encL at hy
     dsimp only at hy
     rw [hgd] at hy
     clear hA hgd
     have hk60 : (k : Int) < 60:=by omega
     have hd : decide ((k : Int) < (m : Int)) = true:=by simp; omega
     have hdn : decide (k < m) = true:=by simp; omega
     have hsz : ((k : Int)).toNat = k:=rfl
     gi_wp2
     refine ⟨fun h => (by cases h),hR.mono ?_⟩
     rintro e W3 (⟨rfl,hJ3,hk3⟩ | ⟨rfl,hJx3⟩)
     · gi_wp2
       go_roundw
       case rel => exact ⟨k + 1,pre ++ [⟨k,by omega⟩],by omega,by simp,by simp [hpre,List.range_succ],hJ3,hnx.trans hk3⟩
       case measure => simp [intOf]; omega
     · gi_wp2
       refine bodyPost_ret (results_none rfl _ _ _) rfl ?_
       exact ⟨⟨_,rfl⟩,.inr ⟨pre ++ [⟨k,by omega⟩],trivial,hJx3⟩⟩
   · obtain rfl : k = m:=by omega
     gi_wp2
     go_end0
     exact ⟨⟨_,rfl⟩,.inl ⟨pre,hpre.trans (by rw [hm]),hJs⟩⟩
end Go.Proofs.YtejaocnhekjfiaaGreatDoor
namespace Go.Proofs.YtejaocnhekjfiaaGreatDoor
open Go.RowKit
set_option linter.unusedVariables false
def firstOf (x y : Int) : Int:=if x = 0 then y else x
set_option maxRecDepth 100000 in
set_option maxHeartbeats 1000000 in
theorem first_any (x y : Int) (g cap : Nat) (w : World) (h : w.heap[g]? = some (.cells #[.int .i64 x,.int .i64 y] 77 (0,0))) :
   Calls Tryz.prog 129 #[.slice (some ⟨g,0,none⟩) 2 cap] w fun e w' => e = .returned (.int .i64 (firstOf x y)) ∧ w = w':=by
 have c0 : w.cell? ⟨g,0,none⟩ = some (.int .i64 x):=(cell_of_row _ _ _ _ _ _ h).trans rfl
 have c1 : w.cell? ⟨g,1,none⟩ = some (.int .i64 y):=(cell_of_row _ _ _ _ _ _ h).trans rfl
 clear h
 go_enter Tryz.func129,Tryz.ntmps129
 go_wp2_with fail
 go_loop [8] (fun u => ∃ k : Nat,u = .int .i64 k ∧ (k = 0 ∨ (k = 1 ∧ x = 0) ∨ (k = 2 ∧ x = 0 ∧ y = 0))) (fun u => 2 - (intOf u).toNat)
 case atStart => exact ⟨0,rfl,.inl rfl⟩
 case round =>
   obtain ⟨k,rfl,(rfl | ⟨rfl,rfl⟩ | ⟨rfl,rfl,rfl⟩)⟩:=hrel
   · by_cases hx : x = 0
     · subst hx
       go_wp2_with fail
       go_round
       case rel => exact ⟨1,by go_num,.inr (.inl ⟨rfl,by trivial⟩)⟩
       case measure => simp [intOf]
     · have HX:=Lib.hid (show firstOf x y = x by unfold firstOf; rw [if_neg hx])
       go_wp2_with fail
       go_ret
       exact ⟨by rw [HX.out]; rfl,rfl⟩
   · by_cases hx : y = 0
     · subst hx
       go_wp2_with fail
       go_round
       case rel => exact ⟨2,by go_num,.inr (.inr ⟨rfl,by trivial,by trivial⟩)⟩
       case measure => simp [intOf]
     · have HX:=Lib.hid (show firstOf 0 y = y by unfold firstOf; rw [if_pos rfl])
       go_wp2_with fail
       go_ret
       exact ⟨by rw [HX.out]; rfl,rfl⟩
   · go_wp2_with fail
     go_ret
     exact ⟨rfl,rfl⟩
end Go.Proofs.YtejaocnhekjfiaaGreatDoor
namespace Go.Proofs.YtejaocnhekjfiaaGreatDoor
open Go.RowKit Go.Shelf
set_option linter.unusedVariables false
attribute [local go_sem] Oper.semAt_some
theorem upd_grown {W W' : World} {row : Option Nat} (hg : W.grownBy W' row) : Upd (fun k => row = some k) W W':=⟨hg.os,hg.tape,hg.output,hg.size,fun k hk h => hg.block k hk (fun e => h e.symm)⟩
theorem not_row {W : World} {row : Option Nat} {k : Nat} {l : Array Value} {t : TypeId} {fr : Nat × Nat} (h : W.heap[k]? = some (.cells l t fr)) (hr : ∀ r,row = some r → ∃ o : Obj,W.heap[r]? = some o ∧ o.isCells = false) : ¬ row = some k:=fun e => by
 obtain ⟨o,ho,hc⟩:=hr k e
 rw [h] at ho; cases ho; cases hc
theorem LevIs.cells3 {w c n A zs} (h : LevIs w c n A zs) : (∃ l t fr,w.heap[A.b]? = some (.cells l t fr)) ∧ (∃ l t fr,w.heap[A.g]? = some (.cells l t fr)) ∧ (∃ l t fr,w.heap[A.r]? = some (.cells l t fr)):=by
 have hr:=h.ints.row
 obtain ⟨s,e⟩:=hr
 refine ⟨?_,?_,⟨_,_,_,e⟩⟩
 · unfold LevIs at h; split at h
   · exact ⟨_,_,_,h.blk⟩
   · exact ⟨_,_,_,h.blk⟩
 · unfold LevIs at h; split at h
   · obtain ⟨_,hb,_⟩:=h.grid.blk; exact ⟨_,_,_,hb⟩
   · obtain ⟨_,hb,_⟩:=h.grid.blk; exact ⟨_,_,_,hb⟩
theorem StackIs.grown {W W' : World} {p q c L C} (h : StackIs W p q c L C) {row : Option Nat} (hg : W.grownBy W' row) (hr : ∀ r,row = some r → ∃ o : Obj,W.heap[r]? = some o ∧ o.isCells = false) : StackIs W' p q c L C:=by
 obtain ⟨cap,hb,_⟩:=h.blk
 obtain ⟨rest,hw⟩:=h.row
 refine h.upd (upd_grown hg) (not_row hb hr) (not_row hw hr) (fun A hA => ?_)
 obtain ⟨n,hn⟩:=List.getElem?_of_mem hA
 obtain ⟨zs,hz,hl⟩:=h.mem hn
 obtain ⟨⟨_,_,_,h1⟩,⟨_,_,_,h2⟩,⟨_,_,_,h3⟩⟩:=hl.cells3
 exact ⟨not_row h1 hr,not_row h2 hr,not_row h3 hr⟩
theorem Upd.keepsOthers {S : Nat → Prop} {W W' : World} (h : Upd S W W') (hs : ∀ k,S k → ∃ l t fr,W.heap[k]? = some (.cells l t fr)) : KeepsOthers W W':=
 ⟨h.size,fun k o hk ho => h.heap hk (fun hS => by obtain ⟨l,t,fr,e⟩:=hs k hS; rw [hk] at e; cases e; cases ho)⟩
theorem StackIs.lt {w p q c L C} (h : StackIs w p q c L C) : p < w.heap.size ∧ q < w.heap.size ∧ ∀ A ∈ L,A.b < w.heap.size ∧ A.g < w.heap.size ∧ A.r < w.heap.size:=by
 obtain ⟨cap,hb,_⟩:=h.blk
 obtain ⟨rest,hw⟩:=h.row
 refine ⟨lt_of_block hb,lt_of_block hw,fun A hA => ?_⟩
 obtain ⟨n,hn⟩:=List.getElem?_of_mem hA
 obtain ⟨zs,hz,hl⟩:=h.mem hn
 obtain ⟨⟨_,_,_,h1⟩,⟨_,_,_,h2⟩,⟨_,_,_,h3⟩⟩:=hl.cells3
 exact ⟨lt_of_block h1,lt_of_block h2,lt_of_block h3⟩
end Go.Proofs.YtejaocnhekjfiaaGreatDoor
namespace Go.Proofs.YtejaocnhekjfiaaGreatDoor
open Go.RowKit
set_option linter.unusedVariables false
structure SI where
 p : Nat
 q : Nat
 L : List LA
 C : List (List Int)
structure AggIs (w : World) (base a m : Nat) (c : Cfg) (S : List SI) : Prop where
 blk : w.heap[a]? = some (.cells #[.map (some m),.int .i64 (S.length : Int)] 98 (0,0))
 map : w.heap[m]? = some (.map (ents (S.map SI.p)) S.length)
 st : ∀ (i : Nat) (s : SI),S[i]? = some s → StackIs w s.p s.q c s.L s.C
 dis : ∀ (i j : Nat) (s t : SI),S[i]? = some s → S[j]? = some t → i ≠ j → ∀ A ∈ s.L,∀ B ∈ t.L,A.r ≠ B.r
 lo : base ≤ a ∧ base ≤ m
 slo : ∀ s ∈ S,∀ A ∈ s.L,base ≤ A.r
def AggB (a m : Nat) (S : List SI) (k : Nat) : Prop:=k = a ∨ k = m ∨ ∃ s ∈ S,RowsOf s.L k
theorem AggIs.base {w : World} {base a m : Nat} {c : Cfg} {S : List SI} (h : AggIs w base a m c S) : ∀ k,AggB a m S k → base ≤ k:=by
 rintro k (rfl | rfl | ⟨s,hs,A,hA,rfl⟩)
 · exact h.lo.1
 · exact h.lo.2
 · exact h.slo s hs A hA
theorem AggIs.no {w : World} {base a m : Nat} {c : Cfg} {S : List SI} (h : AggIs w base a m c S) {l : Array Value} {t : TypeId} {fr : Nat × Nat} (k : Nat) (hk : w.heap[k]? = some (.cells l t fr)) (h1 : t ≠ 2) (h2 : t ≠ 98) : ¬ AggB a m S k:=by
 rintro (rfl | rfl | ⟨s,hs,hr⟩)
 · have:=h.blk; rw [hk] at this; simp at this; exact h2 this.2.1
 · have:=h.map; rw [hk] at this; simp at this
 · obtain ⟨i,hi⟩:=List.getElem?_of_mem hs
   exact (h.st i s hi).rowsNo k hk h1 hr
theorem AggIs.keep {w w' : World} {base a m : Nat} {c : Cfg} {S : List SI} (h : AggIs w base a m c S) (hb : Below w.heap.size w w') : AggIs w' base a m c S:=
 ⟨(hb.block _ (lt_of_block h.blk)).trans h.blk,(hb.block _ (lt_of_block h.map)).trans h.map,fun i s hs => (h.st i s hs).below hb,h.dis,h.lo,h.slo⟩
theorem AggIs.c0 {w : World} {base a m : Nat} {c : Cfg} {S : List SI} (h : AggIs w base a m c S) : w.cell? ⟨a,0,none⟩ = some (.map (some m)):=(cell_of_row _ _ _ _ _ _ h.blk).trans rfl
theorem AggIs.c1 {w : World} {base a m : Nat} {c : Cfg} {S : List SI} (h : AggIs w base a m c S) : w.cell? ⟨a,1,none⟩ = some (.int .i64 (S.length : Int)):=(cell_of_row _ _ _ _ _ _ h.blk).trans rfl
theorem AggIs.ne {w : World} {base a m : Nat} {c : Cfg} {S : List SI} (h : AggIs w base a m c S) : a ≠ m:=by
 rintro rfl
 have h1:=h.blk
 rw [h.map] at h1
 simp at h1
theorem AggIs.put {w w' : World} {base a m : Nat} {c : Cfg} {S : List SI} (h : AggIs w base a m c S) {i : Nat} {s : SI} (hs : S[i]? = some s) {C : List (List Int)} (hu : Upd (RowsOf s.L) w w') (hst : StackIs w' s.p s.q c s.L C) :
   AggIs w' base a m c (S.set i { s with C:=C }) ∧ Upd (AggB a m S) w w':=by
 have hx:=h.st i s hs
 have hi:=(List.getElem?_eq_some_iff.1 hs).1
 have na : ¬ RowsOf s.L a:=hx.rowsNo _ h.blk (by decide)
 have nm : ¬ RowsOf s.L m:=by
   rintro ⟨A,hA,e⟩
   obtain ⟨n,hn⟩:=List.getElem?_of_mem hA
   obtain ⟨zs,hz,hl⟩:=hx.mem hn
   obtain ⟨s',e2⟩:=hl.ints.row
   rw [← e,h.map] at e2; simp at e2
 have hp : (S.set i { s with C:=C }).map SI.p = S.map SI.p:=by
   apply List.ext_getElem?
   intro j
   rw [List.getElem?_map,List.getElem?_map]
   by_cases e : i = j
   · subst e; rw [List.getElem?_set_self hi,hs]; rfl
   · rw [List.getElem?_set_ne e]
 have hget : ∀ (j : Nat) (t : SI),(S.set i { s with C:=C })[j]? = some t → ∃ t',S[j]? = some t' ∧ t'.L = t.L ∧ t'.p = t.p ∧ t'.q = t.q ∧ (j = i ∧ t.C = C ∨ j ≠ i ∧ t' = t):=fun j t e => by
   by_cases e2 : i = j
   · subst e2
     rw [List.getElem?_set_self hi] at e
     cases e
     exact ⟨s,hs,rfl,rfl,rfl,.inl ⟨rfl,rfl⟩⟩
   · rw [List.getElem?_set_ne e2] at e
     exact ⟨t,e,rfl,rfl,rfl,.inr ⟨fun e3 => e2 e3.symm,rfl⟩⟩
 refine ⟨⟨?_,?_,fun j t e => ?_,fun j k t u e1 e2 hne A hA B hB => ?_,h.lo,fun t ht A hA => ?_⟩,hu.mono fun k hk => .inr (.inr ⟨s,List.mem_of_getElem? hs,hk⟩)⟩
 · rw [List.length_set]; exact hu.heap h.blk na
 · rw [hp,List.length_set]; exact hu.heap h.map nm
 · obtain ⟨t',h1,h2,h3,h4,h5⟩:=hget j t e
   rcases h5 with ⟨h5,h6⟩ | ⟨h5,h6⟩
   · subst h5
     rw [hs] at h1
     cases h1
     rw [← h2,← h3,← h4,h6]; exact hst
   · subst h6
     have ht:=h.st j t' h1
     obtain ⟨_,hbt,_⟩:=ht.blk
     obtain ⟨_,hrt⟩:=ht.row
     refine ht.upd hu (hx.rowsNo _ hbt (by decide)) (hx.rowsNo _ hrt (by decide)) fun A hA => ?_
     obtain ⟨n,hn⟩:=List.getElem?_of_mem hA
     obtain ⟨zs,hz,hl⟩:=ht.mem hn
     obtain ⟨⟨l1,t1,f1,e1⟩,⟨l2,t2,f2,e2⟩,_⟩:=hl.cells3
     refine ⟨?_,?_,?_⟩
     · rintro ⟨B,hB,e⟩
       obtain ⟨n',hn'⟩:=List.getElem?_of_mem hB
       obtain ⟨zs',hz',hl'⟩:=hx.mem hn'
       obtain ⟨s',e3⟩:=hl'.ints.row
       exact hl.nob _ e3 (by decide) (by decide) e
     · rintro ⟨B,hB,e⟩
       obtain ⟨n',hn'⟩:=List.getElem?_of_mem hB
       obtain ⟨zs',hz',hl'⟩:=hx.mem hn'
       obtain ⟨s',e3⟩:=hl'.ints.row
       exact hl.nog _ e3 (by decide) e
     · rintro ⟨B,hB,e⟩
       exact h.dis j i t' s h1 hs h5 A hA B hB e
 · obtain ⟨t',h1,h2,_⟩:=hget j t e1
   obtain ⟨u',h1',h2',_⟩:=hget k u e2
   exact h.dis j k t' u' h1 h1' hne A (h2 ▸ hA) B (h2' ▸ hB)
 · obtain ⟨j,hj⟩:=List.getElem?_of_mem ht
   obtain ⟨t',h1,h2,_⟩:=hget j t hj
   exact h.slo t' (List.mem_of_getElem? h1) A (h2 ▸ hA)
theorem AggIs.push {w w2 : World} {base a m : Nat} {c : Cfg} {S : List SI} (h : AggIs w base a m c S) {s : SI} (hs : StackIs w s.p s.q c s.L s.C) (hd : ∀ t ∈ S,∀ A ∈ s.L,∀ B ∈ t.L,A.r ≠ B.r) (hlo : ∀ A ∈ s.L,base ≤ A.r)
   (hu : Upd (fun k => k = a ∨ k = m) w w2) (hA : w2.heap[a]? = some (.cells #[.map (some m),.int .i64 ((S.length : Int) + 1)] 98 (0,0))) (hM : w2.heap[m]? = some (.map (ents (S.map SI.p ++ [s.p])) (S.length + 1))) :
   AggIs w2 base a m c (S ++ [s]):=by
 have no : ∀ {t : SI},StackIs w t.p t.q c t.L t.C → StackIs w2 t.p t.q c t.L t.C:=fun {t} ht => by
   obtain ⟨_,hbt,_⟩:=ht.blk
   obtain ⟨_,hrt⟩:=ht.row
   have ns : ∀ (k : Nat) (l : Array Value) (ty : TypeId) (fr : Nat × Nat),w.heap[k]? = some (.cells l ty fr) → ty ≠ 98 → ¬ (k = a ∨ k = m):=by
     rintro k l ty fr hk hty (rfl | rfl)
     · have:=h.blk; rw [hk] at this; simp at this; exact hty this.2.1
     · have:=h.map; rw [hk] at this; simp at this
   refine ht.upd hu (ns _ _ _ _ hbt (by decide)) (ns _ _ _ _ hrt (by decide)) fun A hA => ?_
   obtain ⟨n,hn⟩:=List.getElem?_of_mem hA
   obtain ⟨zs,hz,hl⟩:=ht.mem hn
   refine ⟨?_,?_,?_⟩
   · rintro (e | e)
     · exact hl.nob _ h.blk (by decide) (by decide) e
     · obtain ⟨⟨l1,t1,f1,e1⟩,_⟩:=hl.cells3; rw [e,h.map] at e1; simp at e1
   · rintro (e | e)
     · exact hl.nog _ h.blk (by decide) e
     · obtain ⟨_,⟨l1,t1,f1,e1⟩,_⟩:=hl.cells3; rw [e,h.map] at e1; simp at e1
   · rintro (e | e)
     · exact hl.nor _ h.blk (by decide) e
     · obtain ⟨_,_,⟨l1,t1,f1,e1⟩⟩:=hl.cells3; rw [e,h.map] at e1; simp at e1
 have hget : ∀ (j : Nat) (t : SI),(S ++ [s])[j]? = some t → S[j]? = some t ∨ j = S.length ∧ t = s:=fun j t e => by
   rcases Nat.lt_or_ge j S.length with hj | hj
   · rw [List.getElem?_append_left hj] at e; exact .inl e
   · rw [List.getElem?_append_right hj] at e
     have : j - S.length = 0:=by
       rcases Nat.eq_zero_or_pos (j - S.length) with h0 | h0
       · exact h0
       · rw [List.getElem?_eq_none (by simp; omega)] at e; cases e
     rw [this] at e
     exact .inr ⟨by omega,by simpa using e.symm⟩
 refine ⟨?_,?_,fun j t e => ?_,fun j k t u e1 e2 hne A hA B hB => ?_,h.lo,fun t ht A hA => ?_⟩
 · rw [hA,List.length_append]; rfl
 · rw [hM,List.map_append,List.length_append]; rfl
 · rcases hget j t e with e | ⟨_,rfl⟩
   · exact no (h.st j t e)
   · exact no hs
 · rcases hget j t e1 with g1 | ⟨g1,rfl⟩ <;> rcases hget k u e2 with g2 | ⟨g2,rfl⟩
   · exact h.dis j k t u g1 g2 hne A hA B hB
   · exact fun e => hd t (List.mem_of_getElem? g1) B hB A hA e.symm
   · exact hd u (List.mem_of_getElem? g2) A hA B hB
   · exact absurd (g1.trans g2.symm) hne
 · rcases List.mem_append.1 ht with ht | ht
   · exact h.slo t ht A hA
   · rw [List.mem_singleton] at ht; subst ht; exact hlo A hA
theorem len_ents {w : World} {m n : Nat} {ps : List Nat} (hm : w.heap[m]? = some (.map (ents ps) n)) (ty : TypeId) : (Builtin.len_ #[96] ty #[.map (some m)]).run Tryz.prog w = .ok (.int .i64 (ps.length : Int)) w:=by
 simp [Builtin.len_,run_underlying und96,MapKept.run_getObj_map hm,goInt,Result.andThen,ents_size]
end Go.Proofs.YtejaocnhekjfiaaGreatDoor
namespace Go.Proofs.YtejaocnhekjfiaaGreatDoor
open Go.RowKit
set_option linter.unusedVariables false
set_option maxRecDepth 100000 in
set_option maxHeartbeats 1000000 in
theorem new_any (c : Cfg) (base : Nat) (w : World) (hb : base ≤ w.heap.size) : Calls Tryz.prog 30 #[] w fun e w' => e = .returned (.pointer (some ⟨w.heap.size + 1,0,none⟩)) ∧ AggIs w' base (w.heap.size + 1) w.heap.size c [] ∧ Below w.heap.size w w':=by
 have hmm:=@run_makeMap Tryz.prog
 go_enter Tryz.func30,Tryz.ntmps30
 go_wp2_with fail
 go_ret
 have h1:=heap_alloc_new w (.map #[] 0)
 have h2:=heap_alloc_new (w.alloc (.map #[] 0)) (.cells #[.map (some w.heap.size),.int .i64 0] 98)
 rw [World.size_alloc] at h2
 exact ⟨rfl,⟨h2,(Below.heap_alloc _ _ _ (by simp)).trans h1,by simp,by simp,⟨by omega,hb⟩,by simp⟩,((Below.refl _ _).alloc (Nat.le_refl _) _).alloc (by simp) _⟩
set_option maxRecDepth 100000 in
set_option maxHeartbeats 1000000 in
theorem done_ok (w : World) : Calls Tryz.prog 79 #[.int .i64 0] w fun e w' => e = .returned (.tuple #[.iface 138 (.agg #[]),.int .i64 0]) ∧ w = w':=by
 go_enter Tryz.func79,Tryz.ntmps79
 go_wp2_with fail
 go_ret2
 exact ⟨rfl,rfl⟩
set_option maxRecDepth 100000 in
set_option maxHeartbeats 1000000 in
theorem done_no (x : Int) (hx : x ≠ 0) (w : World) : Calls Tryz.prog 79 #[.int .i64 x] w fun e w' => e = .returned (.tuple #[.nilIface,.int .i64 x]) ∧ w = w':=by
 have g0 : (x == 0) = false:=by simpa using hx
 have g1 : (x != 0) = true:=by simpa using hx
 go_enter Tryz.func79,Tryz.ntmps79
 go_wp2_with fail
 go_ret2
 exact ⟨rfl,rfl⟩
set_option maxRecDepth 100000 in
set_option maxHeartbeats 1000000 in
theorem anumber_ok (n : Int) (w : World) : Calls Tryz.prog 88 #[.int .i64 n,.int .i64 0] w fun e w' => e = .returned (.tuple #[.iface 142 (.agg #[.int .i64 n]),.int .i64 0]) ∧ w = w':=by
 go_enter Tryz.func88,Tryz.ntmps88
 go_wp2_with fail
 go_ret2
 exact ⟨rfl,rfl⟩
set_option maxRecDepth 100000 in
set_option maxHeartbeats 1000000 in
theorem tstack_any (p : Nat) (w : World) : Calls Tryz.prog 85 #[thingV p] w fun e w' => e = .returned (.pointer (some ⟨p,0,none⟩)) ∧ w' = w.alloc (.cells #[.pointer (some ⟨p,0,none⟩),.pointer none] 114):=by
 unfold thingV
 go_enter Tryz.func85,Tryz.ntmps85
 go_wp2_with fail
 go_ret
 exact ⟨rfl,rfl⟩
set_option maxRecDepth 100000 in
set_option maxHeartbeats 1000000 in
theorem made_ok {w : World} {base a m : Nat} {c : Cfg} {S : List SI} (h : AggIs w base a m c S) {s : SI} (hs : StackIs w s.p s.q c s.L s.C) (hd : ∀ t ∈ S,∀ A ∈ s.L,∀ B ∈ t.L,A.r ≠ B.r) (hlo : ∀ A ∈ s.L,base ≤ A.r) (hS : S.length < 20) :
   Calls Tryz.prog 50 #[.pointer (some ⟨a,0,none⟩),thingV s.p,.int .i64 0] w fun e w' => e = .returned (.tuple #[.iface 140 (.agg #[.int .i64 ((S.length : Int) + 1)]),.int .i64 0]) ∧ AggIs w' base a m c (S ++ [s]) ∧ Upd (AggB a m S) w w':=by
 have hb1:=(Below.refl w.heap.size w).alloc (Nat.le_refl _) (.cells #[.pointer (some ⟨s.p,0,none⟩),.pointer none] 114)
 have hA:=h.keep hb1
 have hc0:=hA.c0
 have hc1:=hA.c1
 have hl:=len_ents hA.map
 have hn : (S.length : Int) < 20:=by omega
 have hf : (w.alloc (.cells #[.pointer (some ⟨s.p,0,none⟩),.pointer none] 114)).frozen? ⟨a,1,none⟩ = false:=frozen_of_row _ _ _ _ _ hA.blk
 unfold thingV
 go_enter Tryz.func50,Tryz.ntmps50
 go_wp2_with fail
 have hsz:=lt_of_block hA.blk
 have hsm:=lt_of_block hA.map
 have hne:=h.ne
 have hA1 : ((w.alloc (.cells #[.pointer (some ⟨s.p,0,none⟩),.pointer none] 114)).setCell ⟨a,1,none⟩ (.int .i64 ((S.length : Int) + 1))).heap[a]? = some (.cells #[.map (some m),.int .i64 ((S.length : Int) + 1)] 98 (0,0)):=
   heap_setCell_same _ _ _ _ _ _ hA.blk
 have hM1 : ((w.alloc (.cells #[.pointer (some ⟨s.p,0,none⟩),.pointer none] 114)).setCell ⟨a,1,none⟩ (.int .i64 ((S.length : Int) + 1))).heap[m]? = some (.map (ents (S.map SI.p)) S.length):=
   (heap_setCell_other _ _ _ _ (fun e => hne e.symm)).trans hA.map
 have hbx:=heap_alloc_new w (.cells #[.pointer (some ⟨s.p,0,none⟩),.pointer none] 114)
 have hnb : w.heap.size ≠ a:=by have:=lt_of_block h.blk; omega
 have hB1 : ((w.alloc (.cells #[.pointer (some ⟨s.p,0,none⟩),.pointer none] 114)).setCell ⟨a,1,none⟩ (.int .i64 ((S.length : Int) + 1))).heap[w.heap.size]? = some (.cells #[.pointer (some ⟨s.p,0,none⟩),.pointer none] 114 (0,0)):=
   (heap_setCell_other _ _ _ _ hnb).trans hbx
 have hU1 : Upd (fun k => k = a ∨ k = m) w ((w.alloc (.cells #[.pointer (some ⟨s.p,0,none⟩),.pointer none] 114)).setCell ⟨a,1,none⟩ (.int .i64 ((S.length : Int) + 1))):=
   ((Upd.refl _ w).alloc _).trans (Upd.store _ _ _ _ (.inl rfl))
 have hbs:=h.blk
 clear hA hc0 hc1 hl hf hb1
 generalize hW : ((w.alloc (.cells #[.pointer (some ⟨s.p,0,none⟩),.pointer none] 114)).setCell ⟨a,1,none⟩ (.int .i64 ((S.length : Int) + 1))) = W1 at *
 have HW:=Lib.hid hW
 have c0 : W1.cell? ⟨a,0,none⟩ = some (.map (some m)):=(cell_of_row _ _ _ _ _ _ hA1).trans rfl
 have c1 : W1.cell? ⟨a,1,none⟩ = some (.int .i64 ((S.length : Int) + 1)):=(cell_of_row _ _ _ _ _ _ hA1).trans rfl
 have d0 : W1.cell? ⟨w.heap.size,0,none⟩ = some (.pointer (some ⟨s.p,0,none⟩)):=(cell_of_row _ _ _ _ _ _ hB1).trans rfl
 have d1 : W1.cell? ⟨w.heap.size,1,none⟩ = some (.pointer none):=(cell_of_row _ _ _ _ _ _ hB1).trans rfl
 have hst:=store_new (w:=W1.drew) (m:=m) (n:=S.length) (ps:=S.map SI.p) hM1 (by simp) s.p
 unfold thingV at hst
 simp only [List.length_map] at hst
 generalize hW2 : ({ W1.drew with heap:=W1.drew.heap.setIfInBounds m (.map (ents (S.map SI.p ++ [s.p])) (S.length + 1)) } : World) = W2 at hst
 have hother : ∀ k,k ≠ m → W2.heap[k]? = W1.heap[k]?:=fun k hk => by
   rw [← hW2]
   exact Array.getElem?_setIfInBounds_ne (fun e => hk e.symm)
 have hA2 : W2.heap[a]? = some (.cells #[.map (some m),.int .i64 ((S.length : Int) + 1)] 98 (0,0)):=(hother a hne).trans hA1
 have hM2 : W2.heap[m]? = some (.map (ents (S.map SI.p ++ [s.p])) (S.length + 1)):=by
   rw [← hW2]
   exact Array.getElem?_setIfInBounds_self_of_lt (lt_of_block hM1)
 have hU2 : Upd (fun k => k = a ∨ k = m) w W2:=by
   refine hU1.trans ⟨by rw [← hW2]; rfl,by rw [← hW2]; rfl,by rw [← hW2]; rfl,by rw [← hW2]; simp,fun k _ hk => hother k (fun e => hk (.inr e))⟩
 have e1 : W2.cell? ⟨a,1,none⟩ = some (.int .i64 ((S.length : Int) + 1)):=(cell_of_row _ _ _ _ _ _ hA2).trans rfl
 have HA2:=Lib.hid hA2
 have HM2:=Lib.hid hM2
 have HU2:=Lib.hid hU2
 clear hW2 hother hA2 hM2 hU2
 have HA1:=Lib.hid hA1
 have HM1:=Lib.hid hM1
 have HU1:=Lib.hid hU1
 have HS:=Lib.hid hs
 have HH:=Lib.hid h
 have HD:=Lib.hid hd
 have HLO:=Lib.hid hlo
 have HNE:=Lib.hid hne
 have HSM:=Lib.hid hsm
 clear hW hA1 hM1 hB1 hbx hU1 hs h hd hlo hnb hbs hne hsz hsm hS
 go_still_tail 9,(by kernel_rfl)
 change wpList _ _ _ _ _ W1.drew
 go_wp2_with fail
 go_ret2
 refine ⟨rfl,HH.out.push HS.out HD.out HLO.out HU2.out HA2.out HM2.out,HU2.out.mono ?_⟩
 rintro k (rfl | rfl)
 · exact .inl rfl
 · exact .inr (.inl rfl)
end Go.Proofs.YtejaocnhekjfiaaGreatDoor
namespace Go.Proofs.YtejaocnhekjfiaaGreatDoor.S25
open Go.RowKit
set_option linter.unusedVariables false
theorem dec_pos (s : ByteArray) (i : Nat) : 1 ≤ (Utf8.decode s i).2:=by
 simp only [Utf8.decode]
 repeat' split
 all_goals simp
theorem dec_le (s : ByteArray) (i : Nat) (h : i < s.size) : i + (Utf8.decode s i).2 ≤ s.size:=by
 rw [Lib.decode_at]
 unfold Lib.decodeN
 repeat' split
 all_goals simp only
 all_goals omega
theorem dec_lt (s : ByteArray) (i : Nat) : (Utf8.decode s i).1 < 1114112:=by
 rw [Lib.decode_at]
 have h0:=(s.get! i).toNat_lt
 unfold Lib.decodeN
 repeat' split
 all_goals simp only
 all_goals omega
def tornAt (s : ByteArray) (i : Nat) : Option Nat:=
  if i < s.size then (if Utf8.decode s i = (65533,1) then some i else tornAt s (i + (Utf8.decode s i).2)) else none
termination_by s.size - i
decreasing_by (have:=dec_pos s i; omega)
def tornI (s : ByteArray) : Int:=match tornAt s 0 with | some i => i | none => -1
def keyAt (s : ByteArray) (i k : Nat) : Nat:=
  if i < s.size then keyAt s (i + (Utf8.decode s i).2) ((k * 1114112 + ((Utf8.decode s i).1 + 1)) % PR) else k
termination_by s.size - i
decreasing_by (have:=dec_pos s i; omega)
section
variable {P : Program}
theorem next_at (w : World) (k : Nat) (s : ByteArray) (pos : Nat) (hk : w.heap[k]? = some (.stringIter s pos)) (h : pos < s.size) :
   ∃ w1,(∀ ty,(Instr.next (.pointer (some ⟨k,0,none⟩)) true ty).run P w = .ok (.tuple #[.bool true,.int .i64 pos,.int .i32 (Utf8.decode s pos).1]) w1) ∧
     w1.heap[k]? = some (.stringIter s (pos + (Utf8.decode s pos).2)) ∧ (∀ B,B ≤ k → Below B w w1) ∧ w1.heap.size = w.heap.size:=by
 have hlt : k < w.heap.size:=by
   rcases Nat.lt_or_ge k w.heap.size with h | h
   · exact h
   · rw [Array.getElem?_eq_none h] at hk; cases hk
 refine ⟨{ w with heap:=w.heap.setIfInBounds k (.stringIter s (pos + (Utf8.decode s pos).2)) },?_,?_,?_,?_⟩
 · intro ty
   simp only [Instr.next,getObj,setObj,Sem.run_bind,Sem.run,hk,Result.andThen,h,if_true]
   simp [goInt]
 · simp [hlt]
 · intro B hB
   refine ⟨rfl,rfl,rfl,by simp,fun j hj => ?_⟩
   simp only
   rw [Array.getElem?_setIfInBounds_ne (by omega)]
 · simp
theorem next_end (w : World) (k : Nat) (s : ByteArray) (pos : Nat) (hk : w.heap[k]? = some (.stringIter s pos)) (h : ¬ pos < s.size) (ty : TypeId) :
   (Instr.next (.pointer (some ⟨k,0,none⟩)) true ty).run P w = .ok (.tuple #[.bool false]) w:=by
 simp [Instr.next,getObj,Sem.run,hk,h]
end
theorem iterPos_of {w : World} {k : Nat} {s : ByteArray} {p : Nat} (h : w.heap[k]? = some (.stringIter s p)) : w.iterPos k = p:=by simp [World.iterPos,h]
structure Tabs (w : World) : Prop where
 u8 : Lib.Utf8Tabs 2 3 w
 pow : Lib.TabIs Tryz.prog w "internal/strconv.uint64pow10" .u64 Lib.pow10Tab
 es : ∃ te pe,w.cell? ⟨8,0,none⟩ = some (.iface te pe)
 er : ∃ te pe,w.cell? ⟨9,0,none⟩ = some (.iface te pe)
 low : 10 ≤ w.heap.size
theorem gPow : Tryz.prog.globalNamed "internal/strconv.uint64pow10" = some 4 := by kernel_rfl
theorem Tabs.below {w w' : World} (h : Tabs w) (hb : Below w.heap.size w w') : Tabs w':=by
 have hl:=h.low
 have hc : ∀ b o,b < 10 → w'.cell? ⟨b,o,none⟩ = w.cell? ⟨b,o,none⟩:=fun b o hb2 => hb.cell (p:=⟨b,o,none⟩) (by simp only; omega)
 refine ⟨⟨fun c h2 => ?_,fun i h2 => ?_⟩,?_,?_,?_,Nat.le_trans h.low hb.size⟩
 · rw [hc 2 _ (by omega)]; exact h.u8.1 c h2
 · rw [hc 3 _ (by omega),hc 3 _ (by omega)]; exact h.u8.2 i h2
 · have:=h.pow
   unfold Lib.TabIs World.var? at *
   rw [gPow] at *
   simp only [Option.bind_some] at *
   rw [hb.block 4 (by omega)]
   exact this
 · rw [hc 8 _ (by omega)]; exact h.es
 · rw [hc 9 _ (by omega)]; exact h.er
theorem lt_of_block' {w : World} {k : Nat} {o : Obj} (h : w.heap[k]? = some o) : k < w.heap.size:=(Array.getElem?_eq_some_iff.1 h).1
theorem decodeGo_tail (s : ByteArray) (i : Nat) (h : i < s.size) : Lib.decodeGo (s.extract i s.size) = Utf8.decode s i:=by
 unfold Lib.decodeGo
 rw [if_neg (by simp [ByteArray.size_extract]; omega),Lib.tail_decode,Nat.add_zero]
set_option maxRecDepth 100000 in
set_option maxHeartbeats 1000000 in
theorem torn_any (s : ByteArray) (w : World) (hs : s.size ≤ 1048576) (hT : Tabs w) :
   Calls Tryz.prog 44 #[.string s] w fun e w' => e = .returned (.int .i64 (tornI s)) ∧ Below w.heap.size w w':=by
 have HT:=Lib.hid hT; clear hT
 go_enter Tryz.func44,Tryz.ntmps44
 go_wp2
 have hk0:=World.iter_heap w s 0
 have hb0 : Below w.heap.size w (w.iter s 0):=(Below.refl _ _).alloc (Nat.le_refl _) _
 have HK0:=Lib.hid (And.intro hk0 hb0)
 clear hk0 hb0
 generalize w.iter s 0 = w0 at *
 go_loopw [3] (fun u3 wr => ∃ pos,pos ≤ s.size ∧ Hid (wr.heap[w.heap.size]? = some (.stringIter s pos)) ∧ Hid (Below w.heap.size w wr) ∧ Hid (tornAt s pos = tornAt s 0)) (fun _ wr => s.size - wr.iterPos w.heap.size)
 case atStart => exact ⟨0,by omega,Lib.hid HK0.out.1,Lib.hid HK0.out.2,Lib.hid rfl⟩
 case round =>
   obtain ⟨pos,hp,HK,HB,HR⟩:=hrel
   clear HK0
   have HIP:=Lib.hid (iterPos_of HK.out)
   by_cases hlt : pos < s.size
   · obtain ⟨w1,hn,hk1,hb1,hz1⟩:=next_at (P:=Tryz.prog) wr w.heap.size s pos HK.out hlt
     have HK1:=Lib.hid hk1
     have HB1:=Lib.hid (HB.out.trans (hb1 _ (Nat.le_refl _)))
     have hstep : Utf8.decode s pos ≠ (65533,1) → tornAt s (pos + (Utf8.decode s pos).2) = tornAt s 0:=fun h => by
       rw [← HR.out]; conv => rhs; rw [tornAt,if_pos hlt,if_neg h]
     have hstop : Utf8.decode s pos = (65533,1) → tornAt s 0 = some pos:=fun h => by
       rw [← HR.out,tornAt,if_pos hlt,if_pos h]
     have HST:=Lib.hid (And.intro hstep hstop)
     have hle:=dec_le s pos hlt
     have hd1:=dec_pos s pos
     have hdt:=decodeGo_tail s pos hlt
     have KD:=Lib.hid (Tryz.utf8_DecodeRuneInString (s.extract pos s.size) w1 (HT.out.below HB1.out).u8)
     rw [hdt] at KD
     clear hb1 hz1 hk1 hstep hstop hdt
     obtain ⟨c,n,hcn⟩ : ∃ c n,Utf8.decode s pos = (c,n):=⟨_,_,rfl⟩
     rw [hcn] at HST KD HK1 hn hle hd1
     clear hcn
     simp only at hn hle hd1
     by_cases hc : c = 65533
     · subst hc
       by_cases hn1 : n = 1
       · subst hn1
         have HS3:=Lib.hid (show tornI s = (pos : Int) by unfold tornI; rw [HST.out.2 rfl])
         clear HST
         go_wp2_with fail
         refine KD.out.mono ?_
         rintro e w2 ⟨rfl,hb2⟩
         have HB2:=Lib.hid (HB1.out.then hb2)
         clear hb2
         go_wp2_with fail
         go_ret
         exact ⟨by rw [HS3.out]; rfl,HB2.out⟩
       · have hne : ((n : Int) == 1) = false:=by simp; omega
         have HS2:=Lib.hid (HST.out.1 (fun h => hn1 (by cases h; rfl)))
         clear HST hn1
         go_wp2_with fail
         refine KD.out.mono ?_
         rintro e w2 ⟨rfl,hb2⟩
         have HB2:=Lib.hid (HB1.out.then hb2)
         have HK2:=Lib.hid ((hb2.block _ (lt_of_block' HK1.out)).trans HK1.out)
         have HI2:=Lib.hid (iterPos_of HK2.out)
         clear hb2
         go_wp2_with fail
         go_roundw
         case rel => exact ⟨pos + n,hle,HK2,HB2,HS2⟩
         case measure => rw [HI2.out,HIP.out]; omega
     · have hne : ((c : Int) != 65533) = true:=by simp; omega
       have HS2:=Lib.hid (HST.out.1 (fun h => hc (by cases h; rfl)))
       have HI2:=Lib.hid (iterPos_of HK1.out)
       clear HST hc KD
       go_wp2_with fail
       go_roundw
       case rel => exact ⟨pos + n,hle,HK1,HB1,HS2⟩
       case measure => rw [HI2.out,HIP.out]; omega
   · have hn:=next_end (P:=Tryz.prog) wr w.heap.size s pos HK.out hlt
     have hnone : tornI s = -1:=by unfold tornI; rw [← HR.out,tornAt,if_neg hlt]
     have HN:=Lib.hid hnone
     clear hnone
     go_wp2_with fail
     go_ret
     exact ⟨by rw [HN.out]; rfl,HB.out⟩
end Go.Proofs.YtejaocnhekjfiaaGreatDoor.S25
namespace Go.Proofs.YtejaocnhekjfiaaGreatDoor.S25
open Go.RowKit
set_option linter.unusedVariables false
def keyV (s : ByteArray) : Nat:=match tornAt s 0 with | some _ => 0 | none => keyAt s 0 0
def errV (s : ByteArray) : Int:=match tornAt s 0 with | some _ => 13 | none => 0
theorem key_round (k c : Nat) : ((k * 1114112) % PR + (c + 1)) % PR = (k * 1114112 + (c + 1)) % PR:=by rw [Nat.mod_add_mod]
theorem PR_lt : PR < 9223372036854775808:=by rw [PR_eq]; omega
set_option maxRecDepth 100000 in
set_option maxHeartbeats 1000000 in
theorem key_any (s : ByteArray) (w : World) (hs : s.size ≤ 1048576) (hT : Tabs w) :
   Calls Tryz.prog 118 #[.string s] w fun e w' => e = .returned (.tuple #[.int .u64 (keyV s),.int .i64 (errV s)]) ∧ Below w.heap.size w w':=by
 have HT:=Lib.hid hT; clear hT
 have KT:=Lib.hid (torn_any s w hs HT.out)
 cases ht : tornAt s 0 with
 | some i =>
   have e1 : tornI s = (i : Int):=by unfold tornI; rw [ht]
   have e2 : keyV s = 0:=by unfold keyV; rw [ht]
   have e3 : errV s = 13:=by unfold errV; rw [ht]
   rw [e1] at KT
   rw [e2,e3]
   clear e1 e2 e3 ht
   have hi : decide ((0 : Int) ≤ (i : Int)) = true:=by simp
   go_enter Tryz.func118,Tryz.ntmps118
   go_wp2_with fail
   refine KT.out.mono ?_
   rintro e w1 ⟨rfl,hb1⟩
   have HB1:=Lib.hid hb1; clear hb1
   go_wp2_with fail
   go_ret2
   exact ⟨rfl,HB1.out⟩
 | none =>
   have e1 : tornI s = -1:=by unfold tornI; rw [ht]
   have e2 : keyV s = keyAt s 0 0:=by unfold keyV; rw [ht]
   have e3 : errV s = 0:=by unfold errV; rw [ht]
   rw [e1] at KT
   rw [e2,e3]
   clear e1 e2 e3 ht
   go_enter Tryz.func118,Tryz.ntmps118
   go_wp2_with fail
   refine KT.out.mono ?_
   rintro e w1 ⟨rfl,hb1⟩
   have HB1:=Lib.hid hb1; clear hb1
   go_wp2_with fail
   have hk0:=World.iter_heap w1 s 0
   have hb0 : Below w1.heap.size w1 (w1.iter s 0):=(Below.refl _ _).alloc (Nat.le_refl _) _
   have HK0:=Lib.hid (And.intro hk0 (HB1.out.then hb0))
   have HLE:=Lib.hid (show w.heap.size ≤ w1.heap.size from HB1.out.size)
   clear hk0 hb0
   generalize w1.iter s 0 = w0 at *
   generalize w1.heap.size = b1 at *
   go_loopw [4] (fun u4 wr => ∃ pos k : Nat,pos ≤ s.size ∧ u4 = .int .u64 k ∧ Hid (k < PR) ∧ Hid (wr.heap[b1]? = some (.stringIter s pos)) ∧ Hid (Below w.heap.size w wr) ∧ Hid (keyAt s pos k = keyAt s 0 0)) (fun _ wr => s.size - wr.iterPos b1)
   case atStart => exact ⟨0,0,by omega,rfl,Lib.hid PR_pos,Lib.hid HK0.out.1,Lib.hid HK0.out.2,Lib.hid rfl⟩
   case round =>
     obtain ⟨pos,k,hp,rfl,HKK,HK,HB,HR⟩:=hrel
     clear HK0
     have HIP:=Lib.hid (iterPos_of HK.out)
     by_cases hlt : pos < s.size
     · obtain ⟨w2,hn,hk1,hb1,hz1⟩:=next_at (P:=Tryz.prog) wr b1 s pos HK.out hlt
       have HK1:=Lib.hid hk1
       have HBB:=Lib.hid (HB.out.trans (hb1 _ HLE.out))
       have hstep : keyAt s (pos + (Utf8.decode s pos).2) ((k * 1114112 + ((Utf8.decode s pos).1 + 1)) % PR) = keyAt s 0 0:=by
         rw [← HR.out]; conv => rhs; rw [keyAt,if_pos hlt]
       have hle:=dec_le s pos hlt
       have hd1:=dec_pos s pos
       have hcl:=dec_lt s pos
       have HST:=Lib.hid hstep
       clear hb1 hz1 hk1 hstep
       obtain ⟨c,n,hcn⟩ : ∃ c n,Utf8.decode s pos = (c,n):=⟨_,_,rfl⟩
       rw [hcn] at HST HK1 hn hle hd1 hcl
       clear hcn
       simp only at hn hle hd1 hcl
       have HI2:=Lib.hid (iterPos_of HK1.out)
       have hpl:=PR_lt
       have hkk:=HKK.out
       have KM:=Lib.hid (fun w => mul_any k 1114112 w (by omega) (by omega))
       have KA:=fun w => add_any ((k * 1114112) % PR) (c + 1) w (by have:=Nat.mod_lt (k * 1114112) PR_pos; omega) (by omega)
       rw [key_round] at KA
       have HM:=Lib.hid (Nat.mod_lt (k * 1114112 + (c + 1)) PR_pos)
       have hc1 : ((c + 1 : Nat) : Int) = (c : Int) + 1:=by omega
       rw [hc1] at KA
       have KA:=Lib.hid KA
       obtain ⟨k2,hk2⟩ : ∃ k2,(k * 1114112 + (c + 1)) % PR = k2:=⟨_,rfl⟩
       obtain ⟨k1,hk1⟩ : ∃ k1,(k * 1114112) % PR = k1:=⟨_,rfl⟩
       rw [hk2] at KA HM HST
       rw [hk1] at KA KM
       clear hk1 hk2
       have hw1 : IntKind.u64.wrap (c : Int) = (c : Int):=by rw [IntKind.wrap_u64]; omega
       have hw2 : IntKind.u64.wrap ((c : Int) + 1) = (c : Int) + 1:=by rw [IntKind.wrap_u64]; omega
       clear hpl hkk hc1 hcl
       go_wp2_with fail
       refine (KM.out _).mono ?_
       rintro e w3 ⟨rfl,rfl⟩
       go_wp2_with fail
       refine (KA.out _).mono ?_
       rintro e w3 ⟨rfl,rfl⟩
       go_wp2_with fail
       go_roundw
       case rel => exact ⟨pos + n,k2,hle,rfl,Lib.hid HM.out,HK1,HBB,HST⟩
       case measure => rw [HI2.out,HIP.out]; omega
     · have hn:=next_end (P:=Tryz.prog) wr b1 s pos HK.out hlt
       have hfin : k = keyAt s 0 0:=by rw [← HR.out,keyAt,if_neg hlt]
       have HN:=Lib.hid hfin
       clear hfin
       go_wp2_with fail
       go_ret2
       exact ⟨by rw [← HN.out]; rfl,HB.out⟩
end Go.Proofs.YtejaocnhekjfiaaGreatDoor.S25
namespace Go.Proofs.YtejaocnhekjfiaaGreatDoor.S25
open Go.RowKit
set_option linter.unusedVariables false
end Go.Proofs.YtejaocnhekjfiaaGreatDoor.S25
namespace Go.Proofs.YtejaocnhekjfiaaGreatDoor.S25
open Go.RowKit
set_option linter.unusedVariables false
theorem get_byte (s : ByteArray) (i : Nat) (h : i < s.size) : (s[i]'h).toNat = (s.get! i).toNat:=by
 have:=get_at s i h
 rw [Nat.add_zero] at this
 rw [this]
def bAt (s : ByteArray) (i : Nat) : Nat:=(s.get! i).toNat
theorem bAt_get (s : ByteArray) (i : Nat) (h : i < s.size) : (s[i]'h).toNat = bAt s i:=get_byte s i h
theorem bAt_list (s : ByteArray) (i : Nat) (h : i < s.size) : s.data.toList[i]? = some (s.get! i):=by
 have:=get_at s i h
 rw [Nat.add_zero] at this
 rw [this]
 simp only [Array.getElem?_toList]
 exact Array.getElem?_eq_getElem h
theorem ext_size (s : ByteArray) (a b : Nat) (hb : b ≤ s.size) : (s.extract a b).size = b - a:=by rw [ByteArray.size_extract]; omega
theorem ext_get (s : ByteArray) (a b i : Nat) (hb : b ≤ s.size) (hi : a + i < b) : bAt (s.extract a b) i = bAt s (a + i):=by
 have h1 : i < (s.extract a b).size:=by rw [ext_size s a b hb]; omega
 have e1:=bAt_list (s.extract a b) i h1
 have e2:=bAt_list s (a + i) (by omega)
 have e3 : (s.extract a b).data.toList[i]? = s.data.toList[a + i]?:=by
   simp only [ByteArray.data_extract,Array.getElem?_toList]
   rw [Array.getElem?_extract]
   rw [if_pos]
   have : b ≤ s.data.size:=hb
   omega
 rw [e3,e2] at e1
 unfold bAt
 rw [Option.some.inj e1]
def skipTo (s : ByteArray) (e : Nat) : Nat:=if e < s.size ∧ bAt s e ≠ 32 then skipTo s (e + 1) else e
termination_by s.size - e
theorem skipTo_ge (s : ByteArray) (e : Nat) : e ≤ skipTo s e:=by
 induction e using skipTo.induct (s:=s) with
 | case1 e h ih => rw [skipTo,if_pos h]; omega
 | case2 e h => rw [skipTo,if_neg h]; omega
theorem skipTo_le (s : ByteArray) (e : Nat) (he : e ≤ s.size) : skipTo s e ≤ s.size:=by
 induction e using skipTo.induct (s:=s) with
 | case1 e h ih => rw [skipTo,if_pos h]; exact ih (by omega)
 | case2 e h => rw [skipTo,if_neg h]; exact he
def quoteAt (s : ByteArray) (a : Nat) : Int:=Lib.indexByte (s.extract (a + 1) s.size).data.toList 34
theorem quoteAt_some {s : ByteArray} {a : Nat} (h : 0 ≤ quoteAt s a) : a + 1 + (quoteAt s a).toNat < s.size ∧ bAt s (a + 1 + (quoteAt s a).toNat) = 34:=by
 obtain ⟨i,hi⟩:=Int.eq_ofNat_of_zero_le h
 have h1:=(Lib.indexByte_some (l:=(s.extract (a + 1) s.size).data.toList) (c:=34) (o:=i) hi).1
 have hlt:=(List.getElem?_eq_some_iff.1 h1).1
 have hsz : (s.extract (a + 1) s.size).data.toList.length = s.size - (a + 1):=by
   have:=ext_size s (a + 1) s.size (Nat.le_refl _)
   rw [← this]; rfl
 rw [hsz] at hlt
 have hI : (quoteAt s a).toNat = i:=by rw [hi]; rfl
 rw [hI]
 refine ⟨by omega,?_⟩
 rw [← ext_get s (a + 1) s.size i (Nat.le_refl _) (by omega)]
 have:=bAt_list (s.extract (a + 1) s.size) i (by rw [ext_size s _ _ (Nat.le_refl _)]; omega)
 rw [h1] at this
 unfold bAt
 simp only [Option.some.injEq] at this
 rw [← this]; rfl
def wordFrom (s : ByteArray) (a : Nat) : Nat:=if bAt s a = 34 then (if 0 ≤ quoteAt s a then a + 1 + (quoteAt s a).toNat else s.size) else a
def wordEnd (s : ByteArray) (a : Nat) : Nat:=skipTo s (wordFrom s a)
theorem wordFrom_le {s : ByteArray} {a : Nat} (h : a < s.size) : a ≤ wordFrom s a ∧ wordFrom s a ≤ s.size:=by
 unfold wordFrom
 split
 · split
   · rename_i h2; have:=quoteAt_some h2; omega
   · omega
 · omega
theorem wordEnd_gt {s : ByteArray} {a : Nat} (h : a < s.size) (h2 : bAt s a ≠ 32) : a < wordEnd s a ∧ wordEnd s a ≤ s.size:=by
 have hl:=wordFrom_le h
 refine ⟨?_,skipTo_le s _ hl.2⟩
 unfold wordEnd
 by_cases hq : bAt s a = 34
 · have hg:=skipTo_ge s (wordFrom s a)
   have : a < wordFrom s a:=by
     unfold wordFrom
     rw [if_pos hq]
     split <;> omega
   omega
 · have e : wordFrom s a = a:=by unfold wordFrom; rw [if_neg hq]
   rw [e,skipTo,if_pos ⟨h,h2⟩]
   have:=skipTo_ge s (a + 1)
   omega
def wordsAt (s : ByteArray) (i : Nat) : List (Nat × Nat):=
  if h : i < s.size then (if h2 : bAt s i = 32 then wordsAt s (i + 1) else (i,wordEnd s i) :: wordsAt s (wordEnd s i)) else []
termination_by s.size - i
decreasing_by
  · omega
  · have:=wordEnd_gt h h2; omega
def wordsOf (s : ByteArray) : List (ByteArray × Nat):=(wordsAt s 0).map fun p => (s.extract p.1 p.2,p.1)
end Go.Proofs.YtejaocnhekjfiaaGreatDoor.S25
