/- Walks and plain laws, part 13: Run Ag11 Ag12 Tot S14Plain S14Facts S14Basic S14Span S14Halves S14Rev S14Same S14Clos S14Cover Val. -/
import Derived.Test.YtejaocnhekjfiaaGreatDoorK01
import Derived.Test.YtejaocnhekjfiaaGreatDoorK04
import Derived.Test.YtejaocnhekjfiaaGreatDoorK05
import Derived.Test.YtejaocnhekjfiaaGreatDoorK09
import Derived.Test.YtejaocnhekjfiaaGreatDoorK10
import Derived.Test.YtejaocnhekjfiaaGreatDoorK12
import Derived.Test.YtejaocnhekjfiaaGreatDoorRows
import Derived.Deep.QuietTactic
import Derived.BigQuiet
import Derived.RegionTactic
import Derived.ChangeAlike
import Derived.Laws.StructEq
import Derived.Maps.AppendAt
import Derived.OneCell
import Derived.Defers
namespace Go.Proofs.YtejaocnhekjfiaaGreatDoor
open Go.RowKit Go.Shelf
set_option linter.unusedVariables false
attribute [local go_sem] Oper.semAt_some
open S25 (I64 Tabs)
theorem AggIs.turn {w w' : World} {base a m x : Nat} {c : Cfg} {S : List SI} (h : AggIs w base a m c S)
   (hx : ∀ l t fr,w.heap[x]? = some (.cells l t fr) → t ≠ 98 ∧ t ≠ 181 ∧ t ≠ 183 ∧ t ≠ 294 ∧ t ≠ 298 ∧ t ≠ 338 ∧ t ≠ 2) (hm : m ≠ x) (hu : Upd (fun k => k = x) w w') : AggIs w' base a m c S:=by
 by_cases hc : ∃ l t fr,w.heap[x]? = some (.cells l t fr)
 · obtain ⟨l,t,fr,hc⟩:=hc
   exact h.other hc (hx l t fr hc) hu
 · have ne : ∀ (k : Nat) (l' : Array Value) (t' : TypeId) (fr' : Nat × Nat),w.heap[k]? = some (.cells l' t' fr') → ¬ k = x:=by
     rintro k l' t' fr' hk rfl
     exact hc ⟨_,_,_,hk⟩
   refine ⟨hu.heap h.blk (ne _ _ _ _ h.blk),hu.heap h.map hm,fun i s hs => ?_,h.dis,h.lo,h.slo⟩
   have hst:=h.st i s hs
   obtain ⟨_,hbt,_⟩:=hst.blk
   obtain ⟨_,hrt⟩:=hst.row
   refine hst.upd hu (ne _ _ _ _ hbt) (ne _ _ _ _ hrt) fun A hA => ?_
   obtain ⟨n,hn⟩:=List.getElem?_of_mem hA
   obtain ⟨zs,hz,hl⟩:=hst.mem hn
   obtain ⟨sr,er⟩:=hl.ints.row
   unfold LevIs at hl
   split at hl
   · obtain ⟨cap,hb,_⟩:=hl.grid.blk
     exact ⟨ne _ _ _ _ hl.blk,ne _ _ _ _ hb,ne _ _ _ _ er⟩
   · obtain ⟨cap,hb,_⟩:=hl.grid.blk
     exact ⟨ne _ _ _ _ hl.blk,ne _ _ _ _ hb,ne _ _ _ _ er⟩
def SplitR (w : World) (s : ByteArray) (e : Ending) (w' : World) : Prop:=
 e = .returned (.func (.func 113) #[] #[.pointer (some ⟨w.heap.size + 1,0,none⟩),.pointer (some ⟨w.heap.size,0,none⟩),.pointer (some ⟨w.heap.size + 2,0,none⟩)]) ∧
   w' = ((w.alloc (.cells #[.string s] 9)).alloc (.cells #[.string ⟨#[10]⟩] 9)).alloc (.cells #[.int .i64 0] 3)
set_option maxRecDepth 100000 in
set_option maxHeartbeats 1000000 in
theorem split67 (s : ByteArray) (w : World) : Calls Tryz.prog 67 #[.string s,.string ⟨#[10]⟩,.int .i64 0] w (SplitR w s):=by
 go_enter Tryz.func67,Tryz.ntmps67
 go_wp2_with fail
 go_ret
 exact ⟨rfl,rfl⟩
set_option maxRecDepth 100000 in
set_option maxHeartbeats 1000000 in
theorem split43 (s : ByteArray) (w : World) : Calls Tryz.prog 43 #[.string s,.string ⟨#[10]⟩] w (SplitR w s):=by
 have K:=Lib.hid (split67 s)
 go_enter Tryz.func43,Tryz.ntmps43
 go_wp2_with fail
 refine (K.out _).mono ?_
 rintro e w1 ⟨rfl,rfl⟩
 go_wp2_with fail
 go_ret
 exact ⟨rfl,rfl⟩
def Script (c : Cfg) (xs : List ByteArray) (ts : List ByteArray) (Ss : Nat → List (List (List Int))) : Prop:=
 ∀ (base a m : Nat) (S : List SI) (w : World) (k : Nat) (x : ByteArray),xs[k]? = some x → AggIs w base a m c S → S.map (·.C) = Ss k → Tabs w → base ≤ w.heap.size →
   ∃ t,ts[k]? = some t ∧ Calls Tryz.prog 11 #[.pointer (some ⟨a,0,none⟩),.string x] w fun e w' => e = .returned (.tuple #[.string t,.bool true]) ∧ ∃ S',AggIs w' base a m c S' ∧ S'.map (·.C) = Ss (k + 1) ∧ Upd (AggB a m S) w w'
structure RunI (w : World) (c : Cfg) (n₀ B3 B4 a m : Nat) (ts : List ByteArray) (Ss : Nat → List (List (List Int))) (k : Nat) (W : World) : Prop where
 low : Below w.heap.size w W
 b4 : Boxed W B4 32 (.pointer (some ⟨a,0,none⟩))
 row : ∃ v,Boxed W B3 71 v ∧ W.ownsRow n₀ 9 1 v k ((ts.take k).map Value.string)
 agg : ∃ S,AggIs W w.heap.size a m c S ∧ S.map (·.C) = Ss k
 size : n₀ ≤ W.heap.size
 bx : ∀ j,j < 3 → ∃ l t,W.heap[B4 + 1 + j]? = some (.cells l t (0,0)) ∧ (t = 9 ∨ t = 3)
theorem AggIs.grown {w w' : World} {base a m : Nat} {c : Cfg} {S : List SI} {row : Option Nat} (h : AggIs w base a m c S) (hg : w.grownBy w' row) (hm : row ≠ some m)
   (hx : ∀ r,row = some r → ∀ l t fr,w.heap[r]? = some (.cells l t fr) → t ≠ 98 ∧ t ≠ 181 ∧ t ≠ 183 ∧ t ≠ 294 ∧ t ≠ 298 ∧ t ≠ 338 ∧ t ≠ 2) : AggIs w' base a m c S:=by
 have hu:=upd_grown hg
 cases row with
 | none => exact h.keep (Upd.toBelow (hu.mono (fun k hk => by cases hk)))
 | some x => exact h.turn (hx x rfl) (fun e => hm (by rw [e])) (hu.mono (fun k hk => by cases hk; rfl))
theorem RunI.abides {w : World} {c : Cfg} {n₀ B3 B4 a m : Nat} {ts : List ByteArray} {Ss : Nat → List (List (List Int))} (h1 : w.heap.size ≤ B3) (h2 : B3 < B4) (h3 : m < B4) (h4 : n₀ = B4 + 4) :
   AbidesB (B4 + 1) n₀ (RunI w c n₀ B3 B4 a m ts Ss):=by
 constructor
 · intro k W W' row h hg hr
   obtain ⟨v,hv,ho⟩:=h.row
   obtain ⟨S,hA,hS⟩:=h.agg
   have nb : ∀ j,j < n₀ → some j ≠ row:=fun j hj e => by have:=(hr j e.symm).1; omega
   refine ⟨h.low.grown hg h.low.size (fun r e => by have:=(hr r e).1; omega),h.b4.kept hg (nb _ (by omega)),⟨v,hv.kept hg (nb _ (by omega)),ho.kept hg ?_⟩,
     ⟨S,hA.grown hg (fun e => (nb m (by omega)) e.symm) (fun r e l t fr hc => by obtain ⟨_,o,ho,hc'⟩:=hr r e; rw [hc] at ho; cases ho; cases hc'),hS⟩,Nat.le_trans h.size hg.size,fun j hj => ?_⟩
   · rcases ho.2 with ⟨rfl,_⟩ | ⟨g,cap,cur,rfl,_,hgb,_⟩
     · exact .inl rfl
     · refine .inr fun e => ?_
       obtain ⟨_,o,ho,hc⟩:=hr g (by simpa [Value.ownBlock] using e.symm)
       rw [hgb] at ho; cases ho; cases hc
   · obtain ⟨l,t,hb,ht⟩:=h.bx j hj
     exact ⟨l,t,(hg.block _ (lt_of_block hb) (nb _ (by omega))).trans hb,ht⟩
 · intro k W u h
   obtain ⟨v,hv,ho⟩:=h.row
   obtain ⟨S,hA,hS⟩:=h.agg
   have hg:=grownBy_setCell' W (B4 + 1) u
   obtain ⟨l1,t1,hb1,ht1⟩:=h.bx 0 (by omega)
   have hb1 : W.heap[B4 + 1]? = some (.cells l1 t1 (0,0)):=hb1
   refine ⟨h.low.grown hg h.low.size (fun r e => by cases e; omega),h.b4.kept hg (fun e => by simp at e),⟨v,hv.kept hg (fun e => by simp at e; omega),ho.kept hg ?_⟩,
     ⟨S,hA.grown hg (fun e => by simp at e; omega) (fun r e l t fr hc => by
       cases e; rw [hb1] at hc; cases hc
       rcases ht1 with rfl | rfl <;> decide),hS⟩,Nat.le_trans h.size hg.size,fun j hj => ?_⟩
   · rcases ho.2 with ⟨rfl,_⟩ | ⟨g,cap,cur,rfl,hge,hgb,_⟩
     · exact .inl rfl
     · refine .inr fun e => ?_
       have : g = B4 + 1:=by simpa [Value.ownBlock] using e
       omega
   · by_cases e : j = 0
     · subst e
       exact ⟨_,t1,heap_setCell_same _ _ _ _ _ _ hb1,ht1⟩
     · obtain ⟨l,t,hb,ht⟩:=h.bx j hj
       exact ⟨l,t,(heap_setCell_other _ _ _ _ (show B4 + 1 + j ≠ B4 + 1 by omega)).trans hb,ht⟩
theorem ownsRow_base {w : World} {base base' : Nat} {e : TypeId} {size : Nat} {v : Value} {n : Nat} {xs : List Value} (h : w.ownsRow base e size v n xs) (hb : base' ≤ base) : w.ownsRow base' e size v n xs:=
 ⟨h.1,h.2.imp id (fun ⟨g,cap,cur,e1,e2,r⟩ => ⟨g,cap,cur,e1,Nat.le_trans hb e2,r⟩)⟩
theorem ownsRow_upd {w w' : World} {S : Nat → Prop} {base : Nat} {e : TypeId} {size : Nat} {v : Value} {n : Nat} {xs : List Value} (h : w.ownsRow base e size v n xs) (hu : Upd S w w') (hS : ∀ k l fr,w.heap[k]? = some (.cells l e fr) → ¬ S k) : w'.ownsRow base e size v n xs:=
 ⟨h.1,h.2.imp id (fun ⟨g,cap,cur,e1,e2,e3,r⟩ => ⟨g,cap,cur,e1,e2,hu.heap e3 (hS g _ _ e3),r⟩)⟩
theorem ownsRow_g {w : World} {base : Nat} {e : TypeId} {size : Nat} {v : Value} {n : Nat} {xs : List Value} (h : w.ownsRow base e size v n xs) {r : Nat} (hr : v.ownBlock = some r) : base ≤ r ∧ ∃ l fr,w.heap[r]? = some (.cells l e fr):=by
 rcases h.2 with ⟨rfl,_⟩ | ⟨g,cap,cur,rfl,hb,hg,_⟩
 · cases hr
 · obtain rfl : g = r:=by simpa [Value.ownBlock] using hr
   exact ⟨hb,_,_,hg⟩
theorem RunI.next {w W W1 w3 : World} {c : Cfg} {n₀ B3 B4 a m k : Nat} {ts : List ByteArray} {Ss : Nat → List (List (List Int))} {v v' : Value} {S S1 : List SI} {t : ByteArray} (h1 : w.heap.size ≤ B3) (h2 : B3 < B4) (h3 : m < B4) (h4 : n₀ = B4 + 4) (hI : RunI w c n₀ B3 B4 a m ts Ss k W)
   (hAg : AggIs W w.heap.size a m c S) (hA1 : AggIs W1 w.heap.size a m c S1) (hS1 : S1.map (·.C) = Ss (k + 1)) (hu : Upd (AggB a m S) W W1) (hv : Boxed W B3 71 v) (ho : W.ownsRow n₀ 9 1 v k ((ts.take k).map Value.string))
   (hown' : w3.ownsRow n₀ 9 1 v' (k + 1) ((ts.take k).map Value.string ++ [.string t])) (hgrow : (W1.alloc (.cells #[.string t] 9)).grownBy w3 v.ownBlock) (ht : ts[k]? = some t) :
   Boxed w3 B3 71 v ∧ KeepsFrom n₀ W (w3.setCell ⟨B3,0,none⟩ v') ∧ Kp3 (B4 + 1) W (w3.setCell ⟨B3,0,none⟩ v') ∧ RunI w c n₀ B3 B4 a m ts Ss (k + 1) (w3.setCell ⟨B3,0,none⟩ v'):=by
 have hsz:=hu.size
 have ho1:=ownsRow_upd ho hu (fun k l fr hk => hAg.no k hk (by decide) (by decide))
 have hv1 : Boxed W1 B3 71 v:=hu.heap hv (hAg.no _ hv (by decide) (by decide))
 have hn : w.heap.size ≤ n₀:=by omega
 have hs1 : n₀ ≤ W1.heap.size:=Nat.le_trans hI.size hsz
 obtain ⟨hv2,hv3,_,hk2,hb2⟩:=hv1.appended (by decide) (ownsRow_base ho1 hn) (Nat.le_trans hn hs1) h1 (ownsRow_base hown' hn) hgrow
 have hlow1 : Below w.heap.size w W1:=hI.low.trans (hu.below hAg.base hI.low.size)
 have hg2:=grownBy_setCell' w3 B3 v'
 have own_ne : ∀ j,j < n₀ → some j ≠ v.ownBlock:=fun j hj e => by have:=(ownsRow_g ho1 e.symm).1; omega
 have blk1 : ∀ j,j < 3 → (w3.setCell ⟨B3,0,none⟩ v').heap[B4 + 1 + j]? = W.heap[B4 + 1 + j]?:=fun j hj => by
   obtain ⟨l,ty,hb,hty⟩:=hI.bx j hj
   have hb1 : W1.heap[B4 + 1 + j]? = some (.cells l ty (0,0)):=hu.heap hb (hAg.no _ hb (by rcases hty with rfl | rfl <;> decide) (by rcases hty with rfl | rfl <;> decide))
   have hb2 : w3.heap[B4 + 1 + j]? = some (.cells l ty (0,0)):=(hgrow.block _ (by simp; omega) (own_ne _ (by omega))).trans ((Below.heap_alloc W1 _ _ (lt_of_block hb1)).trans hb1)
   exact ((heap_setCell_other _ _ _ _ (show B4 + 1 + j ≠ B3 by omega)).trans hb2).trans hb.symm
 have hb41 : Boxed W1 B4 32 (.pointer (some ⟨a,0,none⟩)):=hu.heap hI.b4 (hAg.no _ hI.b4 (by decide) (by decide))
 have hb42 : Boxed w3 B4 32 (.pointer (some ⟨a,0,none⟩)):=(hb41.alloc _).kept hgrow (own_ne _ (by omega))
 have hA2:=hA1.keep ((Below.refl _ W1).alloc (Nat.le_refl _) (.cells #[.string t] 9))
 have hA3:=hA2.grown hgrow (fun e => (own_ne m (by omega)) e.symm) (fun r e l ty fr hc => by
   obtain ⟨_,l',fr',hc'⟩:=ownsRow_g ho1 e
   have hc'':=(Below.heap_alloc W1 (.cells #[.string t] 9) _ (lt_of_block hc')).trans hc'
   rw [hc] at hc''; cases hc''; decide)
 have hA4:=hA3.grown hg2 (fun e => by simp at e; have:=hv2; unfold Boxed at this; rw [e,hA3.map] at this; cases this) (fun r e l ty fr hc => by
   cases e
   have:=hv2; unfold Boxed at this; rw [hc] at this; cases this; decide)
 have hkf : KeepsFrom n₀ W W1:=⟨hsz,fun k o hk ho hc => (hu.block k (Array.getElem?_eq_some_iff.1 ho).1 (by
   rintro (rfl | rfl | ⟨s,hs,A,hA,rfl⟩)
   · rw [hAg.blk] at ho; cases ho; cases hc
   · omega
   · obtain ⟨i,hi⟩:=List.getElem?_of_mem hs
     obtain ⟨n,hn⟩:=List.getElem?_of_mem hA
     obtain ⟨zs,hz,hl⟩:=(hAg.st i s hi).mem hn
     obtain ⟨_,er⟩:=hl.ints.row
     rw [er] at ho; cases ho; cases hc)).trans ho⟩
 have hsz3 : W1.heap.size ≤ (w3.setCell ⟨B3,0,none⟩ v').heap.size:=hk2.size
 refine ⟨hv2,hkf.trans (hk2.from _),⟨Nat.le_trans hsz hsz3,blk1 0 (by omega),blk1 1 (by omega),blk1 2 (by omega)⟩,
   ⟨hlow1.trans hb2,hb42.other (by omega) v',⟨v',hv3,?_⟩,⟨S1,hA4,hS1⟩,Nat.le_trans hs1 hsz3,fun j hj => ?_⟩⟩
 · have e1 : (ts.take (k + 1)).map Value.string = (ts.take k).map Value.string ++ [.string t]:=by rw [List.take_add_one,ht]; simp
   rw [e1]
   exact hown'.kept hg2 (.inr (hv2.not_row (by decide) hown').symm)
 · obtain ⟨l,ty,hb,hty⟩:=hI.bx j hj
   exact ⟨l,ty,(blk1 j hj).trans hb,hty⟩
set_option maxRecDepth 100000 in
set_option maxHeartbeats 2000000 in
theorem run_any (c : Cfg) (s : ByteArray) (xs ts : List ByteArray) (Ss : Nat → List (List (List Int))) (hs : Splits s xs) (hsz : s.size ≤ 1048576) (hxt : xs.length = ts.length) (hxl : xs.length ≤ 1000) (h0 : Ss 0 = []) (hL : Script c xs ts Ss) (w : World) (hT : Tabs w) :
   Calls Tryz.prog 28 #[.string s] w fun e w' => ∃ v n₀,e = .returned v ∧ w'.ownsRow n₀ 9 1 v xs.length (ts.map Value.string) ∧ Below w.heap.size w w':=by
 have HT:=Lib.hid hT
 have HS:=Lib.hid hs
 have HL:=Lib.hid hL
 have H0:=Lib.hid h0
 have hs1 : ¬ 1048576 < s.size:=by omega
 have hs2 : ((s.size : Nat) : Int) ≤ 1048576:=by omega
 clear hT hs hL h0
 refine (callsIn_wide (n:=9)).1 ?_
 refine callsIn_of_wp_marks Tryz.func28 rfl trivial ?_ rfl
 simp only [Tryz.ntmps28,List.size_toArray,List.length_cons,List.length_nil,Nat.reduceAdd,Nat.reduceSub,Array.replicate_succ,Array.replicate_zero,List.push_toArray,List.append_toArray,List.nil_append,List.cons_append]
 have hA0:=heap_alloc_new w (.cells #[.slice none 0 0] 71)
 have hb0:=(Below.refl w.heap.size w).alloc (Nat.le_refl _) (.cells #[.slice none 0 0] 71)
 gi_wp2
 refine ⟨trivial,(callsIn_wide.2 (new_any c w.heap.size _ (by simp))).mono ?_⟩
 rintro e w1 ⟨rfl,hA,hb1⟩
 have hA1:=(hb1.block _ (lt_of_block hA0)).trans hA0
 have hb1':=hb0.trans (hb1.mono hb0.size)
 have hsz1:=hb1.size
 rw [World.size_alloc] at hA hsz1
 clear hb0 hb1 hA0
 gi_wp2
 refine ⟨trivial,(callsIn_wide.2 (split43 s _)).mono ?_⟩
 rintro e w2 ⟨rfl,hw2⟩
 gi_wp2
 rw [← hw2]
 have hB4 : Boxed w2 w1.heap.size 32 (.pointer (some ⟨w.heap.size + 1 + 1,0,none⟩)):=by
   rw [hw2]; exact (((Boxed.new w1 32 _).alloc _).alloc _).alloc _
 have hB3 : Boxed w2 w.heap.size 71 (.slice none 0 0):=by
   rw [hw2]; exact ((((show Boxed w1 w.heap.size 71 (.slice none 0 0) from hA1).alloc _).alloc _).alloc _).alloc _
 have g0 : strAt w2 (w1.heap.size + 1) s:=by
   have h:=(((Boxed.new (w1.alloc (.cells #[.pointer (some ⟨w.heap.size + 1 + 1,0,none⟩)] 32)) 9 (.string s)).alloc (.cells #[.string ⟨#[10]⟩] 9)).alloc (.cells #[.int .i64 0] 3))
   rw [World.size_alloc] at h
   rw [hw2]; exact h
 have g1 : strAt w2 (w1.heap.size + 1 + 1) ⟨#[10]⟩:=by
   have h:=((Boxed.new ((w1.alloc (.cells #[.pointer (some ⟨w.heap.size + 1 + 1,0,none⟩)] 32)).alloc (.cells #[.string s] 9)) 9 (.string ⟨#[10]⟩)).alloc (.cells #[.int .i64 0] 3))
   rw [World.size_alloc,World.size_alloc] at h
   rw [hw2]; exact h
 have g2 : w2.heap[w1.heap.size + 1 + 2]? = some (.cells #[.int .i64 0] 3 (0,0)):=by
   have h:=Boxed.new (((w1.alloc (.cells #[.pointer (some ⟨w.heap.size + 1 + 1,0,none⟩)] 32)).alloc (.cells #[.string s] 9)).alloc (.cells #[.string ⟨#[10]⟩] 9)) 3 (.int .i64 0)
   rw [World.size_alloc,World.size_alloc,World.size_alloc] at h
   rw [hw2]; exact h
 have hsz2 : w2.heap.size = w1.heap.size + 4:=by rw [hw2]; simp
 have hb12 : Below w1.heap.size w1 w2:=by
   rw [hw2]
   exact ((((Below.refl _ w1).alloc (Nat.le_refl _) _).alloc (by simp) _).alloc (by simp; omega) _).alloc (by simp; omega) _
 have hI0 : RunI w c w2.heap.size w.heap.size w1.heap.size (w.heap.size + 1 + 1) (w.heap.size + 1) ts Ss 0 w2:=
   ⟨hb1'.trans (hb12.mono hb1'.size),hB4,⟨_,hB3,World.ownsRow_nil _ _ _ _⟩,⟨[],hA.keep hb12,H0.out.symm⟩,Nat.le_refl _,fun j hj => by
     match j,hj with
     | 0,_ => exact ⟨_,_,g0,.inl rfl⟩
     | 1,_ => exact ⟨_,_,g1,.inl rfl⟩
     | 2,_ => exact ⟨_,_,g2,.inr rfl⟩⟩
 have ham:=hA.lo
 have hmlt : w.heap.size + 1 < w1.heap.size:=lt_of_block hA.map
 have hAb:=RunI.abides (w:=w) (c:=c) (ts:=ts) (Ss:=Ss) (a:=w.heap.size + 1 + 1) (Nat.le_refl w.heap.size) (show w.heap.size < w1.heap.size by omega) hmlt hsz2
 clear hw2 hB4 hB3 hA hA1
 obtain ⟨i0,hi,hz0,hz1,hz2⟩ : ∃ i0,Tryz.prog.info? 9 = some i0 ∧ i0.zero = some (.string ⟨#[]⟩) ∧ i0.size = 1 ∧ i0.bytes = 16:=⟨_,rfl,by kernel_rfl,by kernel_rfl,by kernel_rfl⟩
 refine wpIn_rangeFunc_box rfl (by decide) (gf:=113) (lb:=#[.pointer (some ⟨w1.heap.size + 1 + 1,0,none⟩),.pointer (some ⟨w1.heap.size + 1,0,none⟩),.pointer (some ⟨w1.heap.size + 1 + 2,0,none⟩)]) rfl trivial (enters_of Tryz.func113 (by kernel_rfl) rfl)
   (split_seq _ (w1.heap.size + 1) s xs HS.out hsz w2 g0 g1 g2) (by omega)
   (fun W => ⟨Nat.le_refl _,rfl,rfl,rfl⟩) (fun h k => ⟨Nat.le_trans h.size k.size,k.h0.trans h.h0,k.h1.trans h.h1,k.h2.trans h.h2⟩)
   (fun W l o' hl => ⟨by simp,World.putObj_heap_other (by omega),World.putObj_heap_other (by omega),World.putObj_heap_other (by omega)⟩) (fun _ => rfl)
   (RunI w c w2.heap.size w.heap.size w1.heap.size (w.heap.size + 1 + 1) (w.heap.size + 1) ts Ss) hAb hI0 ?a₁ ?assign ?body ?done
 case assign =>
   intro l x W K hK
   gi_wp2
   exact hK
 case body =>
   intro l k x W hx hI
   have q4:=hI.b4.cell
   obtain ⟨S,hAg,hS⟩:=hI.agg
   obtain ⟨t,ht,KL⟩:=HL.out _ _ _ S W k x hx hAg hS (HT.out.below hI.low) hI.low.size
   have HSZ2:=Lib.hid hsz2
   have HML:=Lib.hid hmlt
   have HI:=Lib.hid hI
   clear hsz2 g0 g1 g2 hAb hI0 hb12
   gi_wp2
   refine ⟨trivial,CallsIn.inRound l ((callsIn_wide.2 KL).mono ?_)⟩
   rintro e W1 ⟨rfl,S1,hA1,hS1,hu⟩
   obtain ⟨v,hv,ho⟩:=HI.out.row
   have ho1:=ownsRow_upd ho hu (fun k l fr hk => hAg.no k hk (by decide) (by decide))
   have hv1 : Boxed W1 w.heap.size 71 v:=hu.heap hv (hAg.no _ hv (by decide) (by decide))
   have hc:=hv1.cell
   have hkk : k < 1000:=by have:=(List.getElem?_eq_some_iff.1 hx).1; omega
   have hs1 : w2.heap.size ≤ W1.heap.size:=Nat.le_trans HI.out.size hu.size
   gi_wp2_with (gi_at_builtin; refine wpListIn_append_own _ rfl _ _ 71 rfl w2.heap.size 9 i0 (.string ⟨#[]⟩) 1 16 Tryz.underlying71 hi hz0 hz1 hz2 rfl (by decide) _ _ _ rfl (ho1.alloc _) ⟨W1.heap.size,0,none⟩ 1 1 [.string t] rfl rfl (cell_one_new _ _ _) (by simp [Value.oneCell']) (by unfold maxLen; omega) (by omega) (by simp; omega) ?_; intro v' w3 hown' hgrow _; obtain ⟨g',cap',rfl⟩:=ownsRow_succ hown'; obtain ⟨hv3,hkf,hkp,hIn⟩:=RunI.next (Nat.le_refl _) (Nat.lt_of_succ_lt HML.out) HML.out HSZ2.out HI.out hAg hA1 hS1 hu hv ho hown' hgrow ht; have hc1:=hv3.cell; have hf1:=hv3.frozen)
   exact ⟨hkf,hkp,hIn⟩
 case done =>
   intro D W hD hI hK
   obtain ⟨v,hv,ho⟩:=hI.row
   have hc:=hv.cell
   have hlow:=hI.low
   rw [hxt,List.take_length] at ho
   have HSZ2:=Lib.hid hsz2
   clear hsz2
   gi_wp2
   refine ⟨by simp,.inl ⟨_,_,rfl,run_takeDeferred hK,?_⟩⟩
   exact ⟨_,results_tmp rfl _ _ _,v,_,rfl,ownsRow_putObj (by rw [hxt]; exact ho) _ hK rfl,hlow.trans (belowK_b (w:=w) (Nat.le_refl _) W D _ _ (by have:=HSZ2.out; omega) hK rfl rfl)⟩
end Go.Proofs.YtejaocnhekjfiaaGreatDoor
namespace Go.Proofs.YtejaocnhekjfiaaGreatDoor
open Go.RowKit
set_option linter.unusedVariables false
set_option maxRecDepth 100000 in
set_option maxHeartbeats 1000000 in
theorem query_range {w : World} {base a m : Nat} {c : Cfg} {S : List SI} (h : AggIs w base a m c S) {i : Nat} {s : SI} (hs : S[i]? = some s) (al : Option Addr) (cl : Nat) (lo hi : Nat) (r : Int) (hr : Row w al 2 [.int .i64 lo,.int .i64 hi]) (hl1 : lo ≤ 9223372036854775807) (hl2 : hi ≤ 9223372036854775807) (KR : ∀ w',Below w.heap.size w w' → Calls Tryz.prog 90 #[.pointer (some ⟨s.p,0,none⟩),.int .u64 lo,.int .u64 hi] w' fun e w2 => e = .returned (.tuple #[.int .i64 r,.int .i64 0]) ∧ Below w'.heap.size w' w2) :
   Calls Tryz.prog 54 #[.pointer (some ⟨a,0,none⟩),.agg #[.string ⟨#[114,97,110,103,101]⟩,.int .i64 ((i : Int) + 1),.slice al 2 cl]] w fun e w' => e = .returned (.tuple #[.iface 142 (.agg #[.int .i64 r]),.int .i64 0]) ∧ AggIs w' base a m c S ∧ Below w.heap.size w w':=by
 have hb1:=(Below.refl w.heap.size w).alloc (Nat.le_refl _) (.cells #[.string ⟨#[114,97,110,103,101]⟩,.int .i64 ((i : Int) + 1),.slice al 2 cl] 127)
 have hbx:=heap_alloc_new w (.cells #[.string ⟨#[114,97,110,103,101]⟩,.int .i64 ((i : Int) + 1),.slice al 2 cl] 127)
 have hA:=h.keep hb1
 generalize hW : w.alloc (.cells #[.string ⟨#[114,97,110,103,101]⟩,.int .i64 ((i : Int) + 1),.slice al 2 cl] 127) = W1 at hb1 hbx hA
 have HW:=Lib.hid hW
 have hc0:=hA.c0
 have d0 : W1.cell? ⟨w.heap.size,0,none⟩ = some (.string ⟨#[114,97,110,103,101]⟩):=(cell_of_row _ _ _ _ _ _ hbx).trans rfl
 have d1 : W1.cell? ⟨w.heap.size,1,none⟩ = some (.int .i64 ((i : Int) + 1)):=(cell_of_row _ _ _ _ _ _ hbx).trans rfl
 have hsp : (S.map SI.p)[i]? = some s.p:=by rw [List.getElem?_map,hs]; rfl
 have hlook:=fun (w' : World) (hw : w'.heap[m]? = some (.map (ents (S.map SI.p)) S.length)) => look_yes hw hsp
 have hkt:=fun w => tstack_any s.p w
 unfold thingV at hlook hkt
 have KT:=Lib.hid hkt
 have hmm:=hA.map
 have hm1 : ((W1.alloc (.cells #[.pointer none,.pointer none] 114)).drew).heap[m]? = some (.map (ents (S.map SI.p)) S.length):=(Below.heap_alloc _ _ _ (lt_of_block hmm)).trans hmm
 have l1:=hlook W1.drew hmm
 have l2:=hlook (W1.alloc (.cells #[.pointer none,.pointer none] 114)).drew hm1
 have hb2:=((Below.refl W1.heap.size W1).alloc (Nat.le_refl _) (.cells #[.pointer (some ⟨s.p,0,none⟩),.pointer none] 114)).drew
 have hbm : ((W1.alloc (.cells #[.pointer (some ⟨s.p,0,none⟩),.pointer none] 114)).drew).heap[W1.heap.size]? = some (.cells #[.pointer (some ⟨s.p,0,none⟩),.pointer none] 114 (0,0)):=heap_alloc_new W1 (.cells #[.pointer (some ⟨s.p,0,none⟩),.pointer none] 114)
 have hc0':=fun o => cell_make hc0 o
 have d1':=fun o => cell_make d1 o
 have KP:=Lib.hid (fun (w' : World) (hbw : Below W1.heap.size W1 w') => KR w' (hb1.then hbw))
 obtain ⟨b0,o0,ha0,hr0,hl0⟩:=hr.2 0 (.int .i64 lo) rfl
 obtain ⟨b1,o1,ha1,hr1,hl1⟩:=hr.2 1 (.int .i64 hi) rfl
 rw [ha0] at ha1
 simp only [Option.some.injEq,Addr.mk.injEq,and_true] at ha1
 obtain ⟨rfl,rfl⟩:=ha1
 subst ha0
 have R0:=Lib.hid ((hb1.cell (p:=⟨b0,o0 + 0,none⟩) hl0).trans hr0)
 have R1:=Lib.hid ((hb1.cell (p:=⟨b0,o0 + 1,none⟩) hl1).trans hr1)
 have RL:=Lib.hid (Nat.lt_of_lt_of_le hl0 hb1.size)
 clear hr hr0 hr1 hl0 hl1 KR
 have HA:=Lib.hid hA
 have HS:=Lib.hid hs
 have HB1:=Lib.hid hb1
 have HX:=Lib.hid hbx
 have HB2:=Lib.hid hb2
 have HBM:=Lib.hid hbm
 clear hkt hlook hmm hm1 h hs hb1 hbx hA hsp hb2 hbm d0
 go_enter Tryz.func54,Tryz.ntmps54
 go_wp2_with fail
 clear hW
 go_cut [6,7] (fun s6 s7 wx => s6 = .pointer (some ⟨W1.heap.size,0,none⟩) ∧ s7 = .bool true ∧ wx = (W1.alloc (.cells #[.pointer (some ⟨s.p,0,none⟩),.pointer none] 114)).drew)
 case first =>
   go_region
   all_goals go_wp2_with fail
   all_goals go_meet
   all_goals exact ⟨rfl,rfl,rfl⟩
 case rest =>
   obtain ⟨rfl,rfl,hwc⟩:=hcut
   clear l1 l2 hc0 hc0' d1 d1'
   have d0:=((HB2.out).cell (p:=⟨w.heap.size,0,none⟩) (lt_of_block HX.out)).trans ((cell_of_row _ _ _ _ _ _ HX.out).trans rfl)
   have d2:=((HB2.out).cell (p:=⟨w.heap.size,2,none⟩) (lt_of_block HX.out)).trans ((cell_of_row _ _ _ _ _ _ HX.out).trans rfl)
   have e0 : ((W1.alloc (.cells #[.pointer (some ⟨s.p,0,none⟩),.pointer none] 114)).drew).cell? ⟨W1.heap.size,0,none⟩ = some (.pointer (some ⟨s.p,0,none⟩)):=(cell_of_row _ _ _ _ _ _ HBM.out).trans rfl
   have e1 : ((W1.alloc (.cells #[.pointer (some ⟨s.p,0,none⟩),.pointer none] 114)).drew).cell? ⟨W1.heap.size,1,none⟩ = some (.pointer none):=(cell_of_row _ _ _ _ _ _ HBM.out).trans rfl
   rw [← hwc] at d0 d2 e0 e1 HBM HB2
   clear hwc
   obtain ⟨X,hX⟩ : ∃ x : World,x = wc:=⟨_,rfl⟩
   subst hX
   go_wp2_with fail
   ((with_reducible refine (KT.out X).mono ?_); rintro e w2 ⟨rfl,rfl⟩)
   have hb3:=HB2.out.alloc HB2.out.size (.cells #[.pointer (some ⟨s.p,0,none⟩),.pointer none] 114)
   have c0:=cell_make d0 (.cells #[.pointer (some ⟨s.p,0,none⟩),.pointer none] 114)
   have c2:=cell_make d2 (.cells #[.pointer (some ⟨s.p,0,none⟩),.pointer none] 114)
   clear d0 d2 e0 e1
   generalize hY : X.alloc (.cells #[.pointer (some ⟨s.p,0,none⟩),.pointer none] 114) = Y at *
   have HB3:=Lib.hid hb3
   clear hY hb3
   go_upto_region 16 with fail
   have hc2:=c2
   have f2 : ∀ w',Below Y.heap.size Y w' → w'.cell? ⟨w.heap.size,2,none⟩ = some (.slice (some ⟨b0,o0,none⟩) 2 cl):=fun w' hb => (hb.cell (p:=⟨w.heap.size,2,none⟩) (block_lt_of_cell c2)).trans c2
   have g0 : ∀ w',Below Y.heap.size Y w' → w'.cell? ⟨b0,o0,none⟩ = some (.int .i64 lo):=fun w' hb => ((HB3.out.then hb).cell (p:=⟨b0,o0,none⟩) RL.out).trans R0.out
   have g1 : ∀ w',Below Y.heap.size Y w' → w'.cell? ⟨b0,o0 + 1,none⟩ = some (.int .i64 hi):=fun w' hb => ((HB3.out.then hb).cell (p:=⟨b0,o0 + 1,none⟩) RL.out).trans R1.out
   have kw : IntKind.u64.wrap (lo : Int) = (lo : Int):=IntWalk.u64_in _ (by omega)
   have kw2 : IntKind.u64.wrap (hi : Int) = (hi : Int):=IntWalk.u64_in _ (by omega)
   have F2:=Lib.hid f2; have G0:=Lib.hid g0; have G1:=Lib.hid g1
   clear f2 g0 g1 hc2 c2
   have T:=Lib.hid (Below.refl Y.heap.size Y).drew
   refine wp_region_phase (by kernel_rfl) ?_
   refine wpAnyH_take (i:=0) (oi:=⟨_,_,_,_,_,_⟩) (v:=?vv0) rfl (by kernel_rfl) (by kernel_rfl) (by kernel_rfl) (fun _ _ _ h => h) (Or.inl ⟨by rfl,?yy0⟩) T.out ?_
   case yy0 => (intro w' hw'; go_simp; try with_reducible rfl)
   try simp only [Act.put,List.setIfInBounds_toArray,List.set_cons_zero,List.set_cons_succ]
   refine wpAnyH_take (i:=1) (oi:=⟨_,_,_,_,_,_⟩) (v:=?vv1) rfl (by kernel_rfl) (by kernel_rfl) (by kernel_rfl) (fun _ _ _ h => h) (Or.inl ⟨by rfl,?yy1⟩) T.out ?_
   case yy1 => (intro w' hw'; go_simp; try with_reducible rfl)
   try simp only [Act.put,List.setIfInBounds_toArray,List.set_cons_zero,List.set_cons_succ]
   refine wpAnyH_take (i:=2) (oi:=⟨_,_,_,_,_,_⟩) (v:=?vv2) rfl (by kernel_rfl) (by kernel_rfl) (by kernel_rfl) (fun _ _ _ h => h) (Or.inl ⟨by rfl,?yy2⟩) T.out ?_
   case yy2 => (intro w' hw'; have c2:=F2.out w' hw'; have g0:=G0.out w' hw'; have g1:=G1.out w' hw'; go_simp; try with_reducible rfl)
   try simp only [Act.put,List.setIfInBounds_toArray,List.set_cons_zero,List.set_cons_succ]
   refine wpAnyH_take (i:=3) (oi:=⟨_,_,_,_,_,_⟩) (v:=?vv3) rfl (by kernel_rfl) (by kernel_rfl) (by kernel_rfl) (fun _ _ _ h => h) (Or.inl ⟨by rfl,?yy3⟩) T.out ?_
   case yy3 => (intro w' hw'; go_simp; try with_reducible rfl)
   try simp only [Act.put,List.setIfInBounds_toArray,List.set_cons_zero,List.set_cons_succ]
   refine wpAnyH_take (i:=4) (oi:=⟨_,_,_,_,_,_⟩) (v:=?vv4) rfl (by kernel_rfl) (by kernel_rfl) (by kernel_rfl) (fun _ _ _ h => h) (Or.inl ⟨by rfl,?yy4⟩) T.out ?_
   case yy4 => (intro w' hw'; have c2:=F2.out w' hw'; have g0:=G0.out w' hw'; have g1:=G1.out w' hw'; go_simp; try with_reducible rfl)
   try simp only [Act.put,List.setIfInBounds_toArray,List.set_cons_zero,List.set_cons_succ]
   refine wpAnyH_take (i:=5) (oi:=⟨_,_,_,_,_,_⟩) (v:=?vv5) rfl (by kernel_rfl) (by kernel_rfl) (by kernel_rfl) (fun _ _ _ h => h) (Or.inl ⟨by rfl,?yy5⟩) T.out ?_
   case yy5 => (intro w' hw'; go_simp; try with_reducible rfl)
   try simp only [Act.put,List.setIfInBounds_toArray,List.set_cons_zero,List.set_cons_succ]
   refine wpAnyH_take (i:=6) (oi:=⟨_,_,_,_,_,_⟩) (v:=?vv6) rfl (by kernel_rfl) (by kernel_rfl) (by kernel_rfl) (fun _ _ _ h => h) (Or.inl ⟨by rfl,?yy6⟩) T.out ?_
   case yy6 => (intro w' hw'; go_simp; try with_reducible rfl)
   try simp only [Act.put,List.setIfInBounds_toArray,List.set_cons_zero,List.set_cons_succ]
   refine wpAnyH_take (i:=7) (oi:=⟨_,_,_,_,_,_⟩) (v:=?vv7) rfl (by kernel_rfl) (by kernel_rfl) (by kernel_rfl) (fun _ _ _ h => h) (Or.inl ⟨by rfl,?yy7⟩) T.out ?_
   case yy7 => (intro w' hw'; have c2:=F2.out w' hw'; have g0:=G0.out w' hw'; have g1:=G1.out w' hw'; go_simp; try with_reducible rfl)
   try simp only [Act.put,List.setIfInBounds_toArray,List.set_cons_zero,List.set_cons_succ]
   refine wpAnyH_take (i:=8) (oi:=⟨_,_,_,_,_,_⟩) (v:=?vv8) rfl (by kernel_rfl) (by kernel_rfl) (by kernel_rfl) (fun _ _ _ h => h) (Or.inl ⟨by rfl,?yy8⟩) T.out ?_
   case yy8 => (intro w' hw'; go_simp; try with_reducible rfl)
   try simp only [Act.put,List.setIfInBounds_toArray,List.set_cons_zero,List.set_cons_succ]
   refine wpAnyH_take (i:=9) (oi:=⟨_,_,_,_,_,_⟩) (v:=?vv9) rfl (by kernel_rfl) (by kernel_rfl) (by kernel_rfl) (fun _ _ _ h => h) (Or.inl ⟨by rfl,?yy9⟩) T.out ?_
   case yy9 => (intro w' hw'; have c2:=F2.out w' hw'; have g0:=G0.out w' hw'; have g1:=G1.out w' hw'; go_simp; try with_reducible rfl)
   try simp only [Act.put,List.setIfInBounds_toArray,List.set_cons_zero,List.set_cons_succ]
   refine wpAnyH_take (i:=10) (oi:=⟨_,_,_,_,_,_⟩) (v:=?vv10) rfl (by kernel_rfl) (by kernel_rfl) (by kernel_rfl) (fun _ _ _ h => h) (Or.inl ⟨by rfl,?yy10⟩) T.out ?_
   case yy10 => (intro w' hw'; go_simp; try with_reducible rfl)
   try simp only [Act.put,List.setIfInBounds_toArray,List.set_cons_zero,List.set_cons_succ]
   refine wpAnyH_ready (rs:=[11]) (by kernel_rfl) (by simp) ?_
   refine AllReadyH.cons (o:=⟨_,_,_,_,_,_⟩) rfl (fun K hK => ?_) AllReadyH.nil
   go_simp
   with_reducible refine (KP.out _ (HB3.out.then T.out)).mono ?_
   rintro e w3 ⟨rfl,hb⟩
   have T:=Lib.hid (T.out.then hb)
   clear hb
   refine hK.out _ _ T.out (fun hHeld => ?_)
   clear hK K hHeld
   try simp only [Act.put,List.setIfInBounds_toArray,List.set_cons_zero,List.set_cons_succ]
   refine wpAnyH_take (i:=12) (oi:=⟨_,_,_,_,_,_⟩) (v:=?vv12) rfl (by kernel_rfl) (by kernel_rfl) (by kernel_rfl) (fun _ _ _ h => h) (Or.inl ⟨by rfl,?yy12⟩) T.out ?_
   case yy12 => (intro w' hw'; go_simp; try with_reducible rfl)
   try simp only [Act.put,List.setIfInBounds_toArray,List.set_cons_zero,List.set_cons_succ]
   refine wpAnyH_take (i:=13) (oi:=⟨_,_,_,_,_,_⟩) (v:=?vv13) rfl (by kernel_rfl) (by kernel_rfl) (by kernel_rfl) (fun _ _ _ h => h) (Or.inl ⟨by rfl,?yy13⟩) T.out ?_
   case yy13 => (intro w' hw'; go_simp; try with_reducible rfl)
   try simp only [Act.put,List.setIfInBounds_toArray,List.set_cons_zero,List.set_cons_succ]
   refine wpAnyH_ready (rs:=[14]) (by kernel_rfl) (by simp) ?_
   refine AllReadyH.cons (o:=⟨_,_,_,_,_,_⟩) rfl (fun K hK => ?_) AllReadyH.nil
   go_simp
   with_reducible refine (anumber_ok _ _).mono ?_
   rintro e w4 ⟨rfl,rfl⟩
   refine hK.out _ _ T.out (fun hHeld => ?_)
   clear hK K hHeld
   try simp only [Act.put,List.setIfInBounds_toArray,List.set_cons_zero,List.set_cons_succ]
   refine wpAnyH_take (i:=15) (oi:=⟨_,_,_,_,_,_⟩) (v:=?vv15) rfl (by kernel_rfl) (by kernel_rfl) (by kernel_rfl) (fun _ _ _ h => h) (Or.inl ⟨by rfl,?yy15⟩) T.out ?_
   case yy15 => (intro w' hw'; go_simp; try with_reducible rfl)
   try simp only [Act.put,List.setIfInBounds_toArray,List.set_cons_zero,List.set_cons_succ]
   refine wpAnyH_take (i:=16) (oi:=⟨_,_,_,_,_,_⟩) (v:=?vv16) rfl (by kernel_rfl) (by kernel_rfl) (by kernel_rfl) (fun _ _ _ h => h) (Or.inl ⟨by rfl,?yy16⟩) T.out ?_
   case yy16 => (intro w' hw'; go_simp; try with_reducible rfl)
   try simp only [Act.put,List.setIfInBounds_toArray,List.set_cons_zero,List.set_cons_succ]
   refine wpAnyH_take (i:=17) (oi:=⟨_,_,_,_,_,_⟩) (v:=?vv17) rfl (by kernel_rfl) (by kernel_rfl) (by kernel_rfl) (fun _ _ _ h => h) (Or.inl ⟨by rfl,?yy17⟩) T.out ?_
   case yy17 => (intro w' hw'; go_simp; try with_reducible rfl)
   try simp only [Act.put,List.setIfInBounds_toArray,List.set_cons_zero,List.set_cons_succ]
   refine wpAnyH_take (i:=18) (oi:=⟨_,_,_,_,_,_⟩) (v:=?vv18) rfl (by kernel_rfl) (by kernel_rfl) (by kernel_rfl) (fun _ _ _ h => h) (Or.inl ⟨by rfl,?yy18⟩) T.out ?_
   case yy18 => (intro w' hw'; go_simp; try with_reducible rfl)
   try simp only [Act.put,List.setIfInBounds_toArray,List.set_cons_zero,List.set_cons_succ]
   refine wpAnyH_done (by kernel_rfl) ?_ _
   go_wp2_with fail
   go_ret2
   exact ⟨rfl,HA.out.keep (HB3.out.then T.out),HB1.out.then (HB3.out.then T.out)⟩
end Go.Proofs.YtejaocnhekjfiaaGreatDoor
namespace Go.Proofs.YtejaocnhekjfiaaGreatDoor
open Go.RowKit
set_option linter.unusedVariables false
set_option maxRecDepth 100000 in
set_option maxHeartbeats 1000000 in
theorem query_quantile {w : World} {base a m : Nat} {c : Cfg} {S : List SI} (h : AggIs w base a m c S) {i : Nat} {s : SI} (hs : S[i]? = some s) (al : Option Addr) (cl : Nat) (k0 : Int) (key : Nat) (hr : Row w al 1 [.int .i64 k0]) (KR : ∀ w',Below w.heap.size w w' → Calls Tryz.prog 91 #[.pointer (some ⟨s.p,0,none⟩),.int .i64 k0] w' fun e w2 => e = .returned (.tuple #[.int .u64 key,.int .i64 0]) ∧ Below w'.heap.size w' w2) :
   Calls Tryz.prog 54 #[.pointer (some ⟨a,0,none⟩),.agg #[.string ⟨#[113,117,97,110,116,105,108,101]⟩,.int .i64 ((i : Int) + 1),.slice al 1 cl]] w fun e w' => e = .returned (.tuple #[.iface 145 (.agg #[.int .u64 key]),.int .i64 0]) ∧ AggIs w' base a m c S ∧ Below w.heap.size w w':=by
 have hb1:=(Below.refl w.heap.size w).alloc (Nat.le_refl _) (.cells #[.string ⟨#[113,117,97,110,116,105,108,101]⟩,.int .i64 ((i : Int) + 1),.slice al 1 cl] 127)
 have hbx:=heap_alloc_new w (.cells #[.string ⟨#[113,117,97,110,116,105,108,101]⟩,.int .i64 ((i : Int) + 1),.slice al 1 cl] 127)
 have hA:=h.keep hb1
 generalize hW : w.alloc (.cells #[.string ⟨#[113,117,97,110,116,105,108,101]⟩,.int .i64 ((i : Int) + 1),.slice al 1 cl] 127) = W1 at hb1 hbx hA
 have HW:=Lib.hid hW
 have hc0:=hA.c0
 have d0 : W1.cell? ⟨w.heap.size,0,none⟩ = some (.string ⟨#[113,117,97,110,116,105,108,101]⟩):=(cell_of_row _ _ _ _ _ _ hbx).trans rfl
 have d1 : W1.cell? ⟨w.heap.size,1,none⟩ = some (.int .i64 ((i : Int) + 1)):=(cell_of_row _ _ _ _ _ _ hbx).trans rfl
 have hsp : (S.map SI.p)[i]? = some s.p:=by rw [List.getElem?_map,hs]; rfl
 have hlook:=fun (w' : World) (hw : w'.heap[m]? = some (.map (ents (S.map SI.p)) S.length)) => look_yes hw hsp
 have hkt:=fun w => tstack_any s.p w
 unfold thingV at hlook hkt
 have KT:=Lib.hid hkt
 have hmm:=hA.map
 have hm1 : ((W1.alloc (.cells #[.pointer none,.pointer none] 114)).drew).heap[m]? = some (.map (ents (S.map SI.p)) S.length):=(Below.heap_alloc _ _ _ (lt_of_block hmm)).trans hmm
 have l1:=hlook W1.drew hmm
 have l2:=hlook (W1.alloc (.cells #[.pointer none,.pointer none] 114)).drew hm1
 have hb2:=((Below.refl W1.heap.size W1).alloc (Nat.le_refl _) (.cells #[.pointer (some ⟨s.p,0,none⟩),.pointer none] 114)).drew
 have hbm : ((W1.alloc (.cells #[.pointer (some ⟨s.p,0,none⟩),.pointer none] 114)).drew).heap[W1.heap.size]? = some (.cells #[.pointer (some ⟨s.p,0,none⟩),.pointer none] 114 (0,0)):=heap_alloc_new W1 (.cells #[.pointer (some ⟨s.p,0,none⟩),.pointer none] 114)
 have hc0':=fun o => cell_make hc0 o
 have d1':=fun o => cell_make d1 o
 have KP:=Lib.hid (fun (w' : World) (hbw : Below W1.heap.size W1 w') => KR w' (hb1.then hbw))
 obtain ⟨b0,o0,ha0,hr0,hl0⟩:=hr.2 0 (.int .i64 k0) rfl
 subst ha0
 have R0:=Lib.hid ((hb1.cell (p:=⟨b0,o0 + 0,none⟩) hl0).trans hr0)
 have RL:=Lib.hid (Nat.lt_of_lt_of_le hl0 hb1.size)
 clear hr hr0 hl0 KR
 have HA:=Lib.hid hA
 have HS:=Lib.hid hs
 have HB1:=Lib.hid hb1
 have HX:=Lib.hid hbx
 have HB2:=Lib.hid hb2
 have HBM:=Lib.hid hbm
 clear hkt hlook hmm hm1 h hs hb1 hbx hA hsp hb2 hbm d0
 go_enter Tryz.func54,Tryz.ntmps54
 go_wp2_with fail
 clear hW
 go_cut [6,7] (fun s6 s7 wx => s6 = .pointer (some ⟨W1.heap.size,0,none⟩) ∧ s7 = .bool true ∧ wx = (W1.alloc (.cells #[.pointer (some ⟨s.p,0,none⟩),.pointer none] 114)).drew)
 case first =>
   go_region
   all_goals go_wp2_with fail
   all_goals go_meet
   all_goals exact ⟨rfl,rfl,rfl⟩
 case rest =>
   obtain ⟨rfl,rfl,hwc⟩:=hcut
   clear l1 l2 hc0 hc0' d1 d1'
   have d0:=((HB2.out).cell (p:=⟨w.heap.size,0,none⟩) (lt_of_block HX.out)).trans ((cell_of_row _ _ _ _ _ _ HX.out).trans rfl)
   have d2:=((HB2.out).cell (p:=⟨w.heap.size,2,none⟩) (lt_of_block HX.out)).trans ((cell_of_row _ _ _ _ _ _ HX.out).trans rfl)
   have e0 : ((W1.alloc (.cells #[.pointer (some ⟨s.p,0,none⟩),.pointer none] 114)).drew).cell? ⟨W1.heap.size,0,none⟩ = some (.pointer (some ⟨s.p,0,none⟩)):=(cell_of_row _ _ _ _ _ _ HBM.out).trans rfl
   have e1 : ((W1.alloc (.cells #[.pointer (some ⟨s.p,0,none⟩),.pointer none] 114)).drew).cell? ⟨W1.heap.size,1,none⟩ = some (.pointer none):=(cell_of_row _ _ _ _ _ _ HBM.out).trans rfl
   rw [← hwc] at d0 d2 e0 e1 HBM HB2
   clear hwc
   obtain ⟨X,hX⟩ : ∃ x : World,x = wc:=⟨_,rfl⟩
   subst hX
   go_wp2_with fail
   ((with_reducible refine (KT.out X).mono ?_); rintro e w2 ⟨rfl,rfl⟩)
   have hb3:=HB2.out.alloc HB2.out.size (.cells #[.pointer (some ⟨s.p,0,none⟩),.pointer none] 114)
   have c0:=cell_make d0 (.cells #[.pointer (some ⟨s.p,0,none⟩),.pointer none] 114)
   have c2:=cell_make d2 (.cells #[.pointer (some ⟨s.p,0,none⟩),.pointer none] 114)
   clear d0 d2 e0 e1
   generalize hY : X.alloc (.cells #[.pointer (some ⟨s.p,0,none⟩),.pointer none] 114) = Y at *
   have HB3:=Lib.hid hb3
   clear hY hb3
   have g0 : Y.cell? ⟨b0,o0,none⟩ = some (.int .i64 k0):=(HB3.out.cell (p:=⟨b0,o0,none⟩) RL.out).trans R0.out
   go_wp2_with fail
   refine (KP.out _ HB3.out).mono ?_
   rintro e w3 ⟨rfl,hb⟩
   have HB4:=Lib.hid (HB3.out.then hb)
   clear hb
   go_wp2_with fail
   go_ret2
   exact ⟨rfl,HA.out.keep HB4.out,HB1.out.then HB4.out⟩
end Go.Proofs.YtejaocnhekjfiaaGreatDoor
namespace Go.Proofs.YtejaocnhekjfiaaGreatDoor
open Go.RowKit
set_option linter.unusedVariables false
set_option maxRecDepth 100000 in
set_option maxHeartbeats 1000000 in
theorem expoint_zero {w b g r c n zs} (h : ArrIs w b g r c n zs) (h0 : 0 < 2 ^ (c.bits - n)) : Calls Tryz.prog 291 #[.pointer (some ⟨b,0,none⟩),.int .u64 0] w fun e w' => e = .returned (.tuple #[.int .i64 (zs.getD 0 0),.int .i64 0]) ∧ w = w':=by
 have:=expoint_ok h 0 h0
 simpa using this
set_option maxRecDepth 100000 in
set_option maxHeartbeats 1000000 in
theorem total_ok {w : World} {p q : Nat} {c : Cfg} {L : List LA} {C : List (List Int)} (h : StackIs w p q c L C) (A : LA) (zs : List Int) (hA : L[c.bits]? = some A) (hz : C[c.bits]? = some zs) :
   Calls Tryz.prog 86 #[.pointer (some ⟨p,0,none⟩)] w fun e w' => e = .returned (.int .i64 (zs.getD 0 0)) ∧ Below w.heap.size w w':=by
 have hx : c.exact c.bits = true:=by unfold Cfg.exact; have:=h.ok.w1; simp; omega
 obtain ⟨cap',d0,d1,d2,d3,d4,d5,hcap',hcap''⟩:=h.cells
 have hat:=h.at_ hA
 have hl:=h.lev _ A zs hA hz
 obtain ⟨ha,hv⟩:=hl.arr hx
 rw [hv] at hat
 have KX:=Lib.hid (fun w' (hb : Below w.heap.size w w') => expoint_zero (ha.below hb) (Nat.pow_pos (by decide)))
 have hb59:=h.ok.b59
 have F0:=Lib.hid (show ∀ w',Below w.heap.size w w' → w'.cell? ⟨p,0,none⟩ = some (.int .i64 c.bits) from fun w' hb => (hb.cell (p:=⟨p,0,none⟩) (block_lt_of_cell d0)).trans d0)
 have F5:=Lib.hid (show ∀ w',Below w.heap.size w w' → w'.cell? ⟨p,5,none⟩ = some (.slice (some ⟨q,0,none⟩) (c.bits + 1) cap') from fun w' hb => (hb.cell (p:=⟨p,5,none⟩) (block_lt_of_cell d5)).trans d5)
 have FQ:=Lib.hid (show ∀ w',Below w.heap.size w w' → w'.cell? ⟨q,c.bits,none⟩ = some (.iface 234 (.pointer (some ⟨A.b,0,none⟩))) from fun w' hb => (hb.cell (p:=⟨q,c.bits,none⟩) (block_lt_of_cell hat)).trans hat)
 have hbI : (c.bits : Int) < (c.bits : Int) + 1:=by omega
 generalize zs.getD 0 0 = r at *
 have T:=Lib.hid (Below.refl w.heap.size w).drew
 clear h hA hz hx d0 d1 d2 d3 d4 d5 hcap' hcap'' hat hl ha hv
 go_enter Tryz.func86,Tryz.ntmps86
 go_upto_region 1 with fail
 refine wp_region_phase (by kernel_rfl) ?_
 refine wpAnyH_take (i:=0) (oi:=⟨_,_,_,_,_,_⟩) (v:=?vva0) rfl (by kernel_rfl) (by kernel_rfl) (by kernel_rfl) (fun _ _ _ h => h) (Or.inl ⟨by rfl,?yya0⟩) T.out ?_
 case yya0 => (intro w' hw'; go_simp; try with_reducible rfl)
 try simp only [Act.put,List.setIfInBounds_toArray,List.set_cons_zero,List.set_cons_succ]
 refine wpAnyH_take (i:=1) (oi:=⟨_,_,_,_,_,_⟩) (v:=?vva1) rfl (by kernel_rfl) (by kernel_rfl) (by kernel_rfl) (fun _ _ _ h => h) (Or.inl ⟨by rfl,?yya1⟩) T.out ?_
 case yya1 => (intro w' hw'; go_simp; try with_reducible rfl)
 try simp only [Act.put,List.setIfInBounds_toArray,List.set_cons_zero,List.set_cons_succ]
 refine wpAnyH_take (i:=2) (oi:=⟨_,_,_,_,_,_⟩) (v:=?vva2) rfl (by kernel_rfl) (by kernel_rfl) (by kernel_rfl) (fun _ _ _ h => h) (Or.inl ⟨by rfl,?yya2⟩) T.out ?_
 case yya2 => (intro w' hw'; go_simp; try with_reducible rfl)
 try simp only [Act.put,List.setIfInBounds_toArray,List.set_cons_zero,List.set_cons_succ]
 refine wpAnyH_take (i:=3) (oi:=⟨_,_,_,_,_,_⟩) (v:=?vva3) rfl (by kernel_rfl) (by kernel_rfl) (by kernel_rfl) (fun _ _ _ h => h) (Or.inl ⟨by rfl,?yya3⟩) T.out ?_
 case yya3 => (intro w' hw'; have c0:=F0.out w' hw'; have c5:=F5.out w' hw'; have cq:=FQ.out w' hw'; go_simp; try with_reducible rfl)
 try simp only [Act.put,List.setIfInBounds_toArray,List.set_cons_zero,List.set_cons_succ]
 refine wpAnyH_take (i:=4) (oi:=⟨_,_,_,_,_,_⟩) (v:=?vva4) rfl (by kernel_rfl) (by kernel_rfl) (by kernel_rfl) (fun _ _ _ h => h) (Or.inl ⟨by rfl,?yya4⟩) T.out ?_
 case yya4 => (intro w' hw'; go_simp; try with_reducible rfl)
 try simp only [Act.put,List.setIfInBounds_toArray,List.set_cons_zero,List.set_cons_succ]
 refine wpAnyH_take (i:=5) (oi:=⟨_,_,_,_,_,_⟩) (v:=?vva5) rfl (by kernel_rfl) (by kernel_rfl) (by kernel_rfl) (fun _ _ _ h => h) (Or.inl ⟨by rfl,?yya5⟩) T.out ?_
 case yya5 => (intro w' hw'; go_simp; try with_reducible rfl)
 try simp only [Act.put,List.setIfInBounds_toArray,List.set_cons_zero,List.set_cons_succ]
 refine wpAnyH_take (i:=6) (oi:=⟨_,_,_,_,_,_⟩) (v:=?vva6) rfl (by kernel_rfl) (by kernel_rfl) (by kernel_rfl) (fun _ _ _ h => h) (Or.inl ⟨by rfl,?yya6⟩) T.out ?_
 case yya6 => (intro w' hw'; go_simp; try with_reducible rfl)
 try simp only [Act.put,List.setIfInBounds_toArray,List.set_cons_zero,List.set_cons_succ]
 refine wpAnyH_take (i:=7) (oi:=⟨_,_,_,_,_,_⟩) (v:=?vva7) rfl (by kernel_rfl) (by kernel_rfl) (by kernel_rfl) (fun _ _ _ h => h) (Or.inl ⟨by rfl,?yya7⟩) T.out ?_
 case yya7 => (intro w' hw'; go_simp; try with_reducible rfl)
 try simp only [Act.put,List.setIfInBounds_toArray,List.set_cons_zero,List.set_cons_succ]
 refine wpAnyH_take (i:=8) (oi:=⟨_,_,_,_,_,_⟩) (v:=?vva8) rfl (by kernel_rfl) (by kernel_rfl) (by kernel_rfl) (fun _ _ _ h => h) (Or.inl ⟨by rfl,?yya8⟩) T.out ?_
 case yya8 => (intro w' hw'; have c0:=F0.out w' hw'; have c5:=F5.out w' hw'; have cq:=FQ.out w' hw'; go_simp; try with_reducible rfl)
 try simp only [Act.put,List.setIfInBounds_toArray,List.set_cons_zero,List.set_cons_succ]
 refine wpAnyH_take (i:=9) (oi:=⟨_,_,_,_,_,_⟩) (v:=?vva9) rfl (by kernel_rfl) (by kernel_rfl) (by kernel_rfl) (fun _ _ _ h => h) (Or.inl ⟨by rfl,?yya9⟩) T.out ?_
 case yya9 => (intro w' hw'; go_simp; try with_reducible rfl)
 try simp only [Act.put,List.setIfInBounds_toArray,List.set_cons_zero,List.set_cons_succ]
 refine wpAnyH_take (i:=10) (oi:=⟨_,_,_,_,_,_⟩) (v:=?vva10) rfl (by kernel_rfl) (by kernel_rfl) (by kernel_rfl) (fun _ _ _ h => h) (Or.inl ⟨by rfl,?yya10⟩) T.out ?_
 case yya10 => (intro w' hw'; have c0:=F0.out w' hw'; have c5:=F5.out w' hw'; have cq:=FQ.out w' hw'; go_simp; try with_reducible rfl)
 try simp only [Act.put,List.setIfInBounds_toArray,List.set_cons_zero,List.set_cons_succ]
 refine wpAnyH_ready (rs:=[11]) (by kernel_rfl) (by simp) ?_
 refine AllReadyH.cons (o:=⟨_,_,_,_,_,_⟩) rfl (fun K hK => ?_) AllReadyH.nil
 go_simp
 with_reducible refine (KX.out _ T.out).mono ?_
 rintro e w2 ⟨rfl,rfl⟩
 refine hK.out _ _ T.out (fun hHeld => ?_)
 clear hK K hHeld
 try simp only [Act.put,List.setIfInBounds_toArray,List.set_cons_zero,List.set_cons_succ]
 refine wpAnyH_take (i:=12) (oi:=⟨_,_,_,_,_,_⟩) (v:=?vva12) rfl (by kernel_rfl) (by kernel_rfl) (by kernel_rfl) (fun _ _ _ h => h) (Or.inl ⟨by rfl,?yya12⟩) T.out ?_
 case yya12 => (intro w' hw'; go_simp; try with_reducible rfl)
 try simp only [Act.put,List.setIfInBounds_toArray,List.set_cons_zero,List.set_cons_succ]
 refine wpAnyH_take (i:=13) (oi:=⟨_,_,_,_,_,_⟩) (v:=?vva13) rfl (by kernel_rfl) (by kernel_rfl) (by kernel_rfl) (fun _ _ _ h => h) (Or.inl ⟨by rfl,?yya13⟩) T.out ?_
 case yya13 => (intro w' hw'; go_simp; try with_reducible rfl)
 try simp only [Act.put,List.setIfInBounds_toArray,List.set_cons_zero,List.set_cons_succ]
 refine wpAnyH_take (i:=14) (oi:=⟨_,_,_,_,_,_⟩) (v:=?vva14) rfl (by kernel_rfl) (by kernel_rfl) (by kernel_rfl) (fun _ _ _ h => h) (Or.inl ⟨by rfl,?yya14⟩) T.out ?_
 case yya14 => (intro w' hw'; go_simp; try with_reducible rfl)
 try simp only [Act.put,List.setIfInBounds_toArray,List.set_cons_zero,List.set_cons_succ]
 refine wpAnyH_take (i:=15) (oi:=⟨_,_,_,_,_,_⟩) (v:=?vva15) rfl (by kernel_rfl) (by kernel_rfl) (by kernel_rfl) (fun _ _ _ h => h) (Or.inl ⟨by rfl,?yya15⟩) T.out ?_
 case yya15 => (intro w' hw'; go_simp; try with_reducible rfl)
 try simp only [Act.put,List.setIfInBounds_toArray,List.set_cons_zero,List.set_cons_succ]
 refine wpAnyH_take (i:=16) (oi:=⟨_,_,_,_,_,_⟩) (v:=?vva16) rfl (by kernel_rfl) (by kernel_rfl) (by kernel_rfl) (fun _ _ _ h => h) (Or.inl ⟨by rfl,?yya16⟩) T.out ?_
 case yya16 => (intro w' hw'; go_simp; try with_reducible rfl)
 try simp only [Act.put,List.setIfInBounds_toArray,List.set_cons_zero,List.set_cons_succ]
 refine wpAnyH_done (by kernel_rfl) ?_ _
 go_wp2_with fail
 go_ret
 exact ⟨rfl,T.out⟩
end Go.Proofs.YtejaocnhekjfiaaGreatDoor
namespace Go.Proofs.YtejaocnhekjfiaaGreatDoor.S14
def cv (L lo hi : Nat) : List (Nat × Nat):=
  if lo < hi then
    (if lo % 2 = 1 then [(L,lo)] else []) ++
    (if (if lo % 2 = 1 then lo + 1 else lo) ≤ (if hi % 2 = 0 then hi - 1 else hi) then
      cv (L + 1) ((if lo % 2 = 1 then lo + 1 else lo) / 2) ((if hi % 2 = 0 then hi - 1 else hi) / 2) else []) ++
    (if hi % 2 = 0 then [(L,hi)] else [])
  else [(L,lo)]
termination_by hi - lo
decreasing_by all_goals (split <;> split <;> omega)
def lv (a e : Nat) : Nat:=if a % 2 = 0 ∧ a + 2 ≤ e then lv (a / 2) (e / 2) + 1 else 0
termination_by e
end Go.Proofs.YtejaocnhekjfiaaGreatDoor.S14
namespace Go.Proofs.YtejaocnhekjfiaaGreatDoor.S14
end Go.Proofs.YtejaocnhekjfiaaGreatDoor.S14
namespace Go.Proofs.YtejaocnhekjfiaaGreatDoor.S14
open Go.RowKit
set_option linter.unusedVariables false
theorem below_drewN {B : Nat} {w w' : World} (h : Below B w w') (n : Nat) : Below B w (w'.drewN n):=⟨h.os,h.tape,h.output,h.size,h.block⟩
theorem pow_le59 {k : Nat} (h : k ≤ 59) : 2 ^ k ≤ 576460752303423488:=Nat.pow_le_pow_right (by omega) h
def isP (n L I : Int) : Bool:=decide (1 ≤ n) && decide (n ≤ 59) && decide (0 ≤ L) && decide (L ≤ n) && decide (I < ((2 ^ (n - L).toNat : Nat) : Int))
theorem wrap_pow {k : Nat} (h : k ≤ 59) : IntKind.u64.wrap (2 ^ k) = ((2 ^ k : Nat) : Int):=by
 have hp:=pow_le59 h
 have e : (2 : Int) ^ k = ((2 ^ k : Nat) : Int):=by push_cast; rfl
 rw [IntKind.wrap_u64,e]
 generalize 2 ^ k = P at *
 omega
set_option maxRecDepth 100000 in
set_option maxHeartbeats 200000 in
theorem is_any (n L I : Int) (w : World) (h0 : 0 ≤ I) :
   Calls Tryz.prog 183 #[.int .i64 n,.agg #[.int .i64 L,.int .u64 I]] w fun e w' => e = .returned (.bool (isP n L I)) ∧ Below w.heap.size w w':=by
 have c0 : (w.alloc (.cells #[.int .i64 L,.int .u64 I] 46)).cell? ⟨w.heap.size,0,none⟩ = some (.int .i64 L):=(cell_of_row _ _ _ _ _ _ (heap_alloc_new w _)).trans rfl
 have c1 : (w.alloc (.cells #[.int .i64 L,.int .u64 I] 46)).cell? ⟨w.heap.size,1,none⟩ = some (.int .u64 I):=(cell_of_row _ _ _ _ _ _ (heap_alloc_new w _)).trans rfl
 by_cases h1 : 1 ≤ n
 · by_cases h2 : n ≤ 59
   · by_cases h3 : 0 ≤ L
     · by_cases h4 : L ≤ n
       · obtain ⟨k,hk⟩ : ∃ k : Nat,n - L = k:=⟨(n - L).toNat,by omega⟩
         have hk2 : k ≤ 59:=by omega
         have hw:=wrap_pow hk2
         have hd : isP n L I = decide (I < ((2 ^ k : Nat) : Int)):=by unfold isP; rw [hk]; simp [h1,h2,h3,h4]
         have HD:=Lib.hid hd
         have HK:=Lib.hid hk
         have hsub : IntKind.i64.wrap (n - L) = (k : Int):=by rw [IntKind.wrap_i64]; omega
         clear hd hk
         generalize 2 ^ k = P at *
         go_enter Tryz.func183,Tryz.ntmps183
         go_wp2_with fail
         go_quiet (fail)
         go_wp2
         go_ret
         exact ⟨by rw [HD.out]; rfl,below_drewN ((Below.refl _ _).alloc (Nat.le_refl _) _) _⟩
       · have hd : isP n L I = false:=by simp [isP,h4]
         have HD:=Lib.hid hd
         have g : decide (L ≤ n) = false:=by simpa using h4
         clear hd h4
         go_enter Tryz.func183,Tryz.ntmps183
         go_wp2_with fail
         go_quiet (fail)
         go_wp2
         go_ret
         exact ⟨by rw [HD.out]; rfl,below_drewN ((Below.refl _ _).alloc (Nat.le_refl _) _) _⟩
     · have hd : isP n L I = false:=by simp [isP,h3]
       have HD:=Lib.hid hd
       have g : decide (0 ≤ L) = false:=by simpa using h3
       clear hd h3
       go_enter Tryz.func183,Tryz.ntmps183
       go_wp2_with fail
       go_quiet (fail)
       go_wp2
       go_ret
       exact ⟨by rw [HD.out]; rfl,below_drewN ((Below.refl _ _).alloc (Nat.le_refl _) _) _⟩
   · have hd : isP n L I = false:=by simp [isP,h2]
     have HD:=Lib.hid hd
     have g : decide (n ≤ 59) = false:=by simpa using h2
     clear hd h2
     go_enter Tryz.func183,Tryz.ntmps183
     go_wp2_with fail
     go_quiet (fail)
     go_wp2
     go_ret
     exact ⟨by rw [HD.out]; rfl,below_drewN ((Below.refl _ _).alloc (Nat.le_refl _) _) _⟩
 · have hd : isP n L I = false:=by simp [isP,h1]
   have HD:=Lib.hid hd
   have g : decide (1 ≤ n) = false:=by simpa using h1
   clear hd h1
   go_enter Tryz.func183,Tryz.ntmps183
   go_wp2_with fail
   go_quiet (fail)
   go_wp2
   go_ret
   exact ⟨by rw [HD.out]; rfl,below_drewN ((Below.refl _ _).alloc (Nat.le_refl _) _) _⟩
end Go.Proofs.YtejaocnhekjfiaaGreatDoor.S14
namespace Go.Proofs.YtejaocnhekjfiaaGreatDoor.S14
open Go.RowKit
set_option linter.unusedVariables false
theorem isP_nat {n L I : Int} (h0 : 0 ≤ I) (h : isP n L I = true) : ∃ (N l i : Nat),n = N ∧ L = l ∧ I = i ∧ 1 ≤ N ∧ N ≤ 59 ∧ l ≤ N ∧ i < 2 ^ (N - l) ∧ i * 2 ^ l + 2 ^ l ≤ 576460752303423488:=by
 unfold isP at h
 simp only [Bool.and_eq_true,decide_eq_true_eq] at h
 obtain ⟨⟨⟨⟨h1,h2⟩,h3⟩,h4⟩,h5⟩:=h
 obtain ⟨N,rfl⟩:=Int.eq_ofNat_of_zero_le (show 0 ≤ n by omega)
 obtain ⟨l,rfl⟩:=Int.eq_ofNat_of_zero_le h3
 obtain ⟨i,rfl⟩:=Int.eq_ofNat_of_zero_le h0
 have e : ((N : Int) - (l : Int)).toNat = N - l:=by omega
 rw [e] at h5
 have h6 : i < 2 ^ (N - l):=by exact_mod_cast h5
 refine ⟨N,l,i,rfl,rfl,rfl,by omega,by omega,by omega,h6,?_⟩
 have h7 : (i + 1) * 2 ^ l ≤ 2 ^ (N - l) * 2 ^ l:=Nat.mul_le_mul_right _ h6
 rw [← Nat.pow_add,show N - l + l = N by omega,Nat.add_mul,Nat.one_mul] at h7
 exact Nat.le_trans h7 (pow_le59 (by omega))
end Go.Proofs.YtejaocnhekjfiaaGreatDoor.S14
namespace Go.Proofs.YtejaocnhekjfiaaGreatDoor.S14
open Go.RowKit
set_option linter.unusedVariables false
def halfV (n L I : Int) : Value:=if isP n L I && decide (0 < L) then .tuple #[.agg #[.int .i64 (L - 1),.int .u64 (2 * I)],.agg #[.int .i64 (L - 1),.int .u64 (2 * I + 1)],.bool true] else .tuple #[.agg #[.int .i64 0,.int .u64 0],.agg #[.int .i64 0,.int .u64 0],.bool false]
theorem info30 : (Tryz.prog.info? 46).map (fun i => (i.zero,i.size,i.bytes)) = some (some (.agg #[.int .i64 0,.int .u64 0]),2,16):=by kernel_rfl
def PAt (w : World) (b : Nat) (h l : Int) : Prop:=w.heap[b]? = some (.cells #[.int .i64 h,.int .u64 l] 46 (0,0))
theorem PAt.c0 {w b h l} (k : PAt w b h l) : w.cell? ⟨b,0,none⟩ = some (.int .i64 h):=(cell_of_row _ _ _ _ _ _ k).trans rfl
theorem PAt.c1 {w b h l} (k : PAt w b h l) : w.cell? ⟨b,1,none⟩ = some (.int .u64 l):=(cell_of_row _ _ _ _ _ _ k).trans rfl
theorem PAt.f {w b h l} (k : PAt w b h l) (i : Nat) : w.frozen? ⟨b,i,none⟩ = false:=frozen_of_row _ _ _ _ _ k
theorem PAt.new (w : World) (h l : Int) {b : Nat} (hb : b = w.heap.size) : PAt (w.alloc (.cells #[.int .i64 h,.int .u64 l] 46)) b h l:=by subst hb; exact heap_alloc_new w _
theorem PAt.alloc {w b h l} (k : PAt w b h l) (o : Obj) : PAt (w.alloc o) b h l:=by
 unfold PAt at *
 rw [← k]
 exact heap_alloc_old w o (lt_of_block k)
theorem PAt.below {w w' b h l} (k : PAt w b h l) (hb : Below w.heap.size w w') : PAt w' b h l:=(hb.block b (lt_of_block k)).trans k
theorem two_set {w : World} {g : Nat} {p q : Int} (h : PAt w g p q) (x y : Int) : PAt ((w.setCell ⟨g,0,none⟩ (.int .i64 x)).setCell ⟨g,1,none⟩ (.int .u64 y)) g x y:=by
 unfold PAt at *
 rw [heap_setCell_same _ _ _ _ _ _ (heap_setCell_same _ _ _ _ _ _ h)]; rfl
theorem two_other {w : World} {g b : Nat} {p q : Int} (h : PAt w b p q) (hn : b ≠ g) (x y : Int) : PAt ((w.setCell ⟨g,0,none⟩ (.int .i64 x)).setCell ⟨g,1,none⟩ (.int .u64 y)) b p q:=by
 unfold PAt at *
 rw [heap_setCell_other _ _ _ _ hn,heap_setCell_other _ _ _ _ hn]; exact h
set_option maxRecDepth 100000 in
set_option maxHeartbeats 400000 in
theorem halves_any (n L I : Int) (w : World) (h0 : 0 ≤ I) :
   Calls Tryz.prog 140 #[.int .i64 n,.agg #[.int .i64 L,.int .u64 I]] w fun e w' => e = .returned (halfV n L I) ∧ Below w.heap.size w w':=by
 have K1:=Lib.hid (fun w => is_any n L I w h0)
 have A0:=Lib.hid (((PAt.new w L I rfl).alloc (.cells #[.int .i64 0,.int .u64 0] 46)).alloc (.cells #[.int .i64 0,.int .u64 0] 46))
 have X0:=Lib.hid ((PAt.new (w.alloc (.cells #[.int .i64 L,.int .u64 I] 46)) 0 0 (b:=w.heap.size + 1) (by simp)).alloc (.cells #[.int .i64 0,.int .u64 0] 46))
 have Y0:=Lib.hid (PAt.new ((w.alloc (.cells #[.int .i64 L,.int .u64 I] 46)).alloc (.cells #[.int .i64 0,.int .u64 0] 46)) 0 0 (b:=w.heap.size + 1 + 1) (by simp))
 have B0:=Lib.hid ((((Below.refl w.heap.size w).alloc (Nat.le_refl _) (.cells #[.int .i64 L,.int .u64 I] 46)).alloc (by simp) (.cells #[.int .i64 0,.int .u64 0] 46)).alloc (by simp; omega) (.cells #[.int .i64 0,.int .u64 0] 46))
 have hg0 : w.heap.size + 1 ≠ w.heap.size:=by omega
 have hg1 : w.heap.size + 1 + 1 ≠ w.heap.size:=by omega
 have hg2 : w.heap.size + 1 + 1 ≠ w.heap.size + 1:=by omega
 have HB1:=Lib.hid (show w.heap.size ≤ w.heap.size + 1 by omega)
 have HB2:=Lib.hid (show w.heap.size ≤ w.heap.size + 1 + 1 by omega)
 cases hp : isP n L I with
 | false =>
   have HV:=Lib.hid (show halfV n L I = .tuple #[.agg #[.int .i64 0,.int .u64 0],.agg #[.int .i64 0,.int .u64 0],.bool false] by unfold halfV; rw [hp]; rfl)
   rw [hp] at K1
   clear hp
   go_enter Tryz.func140,Tryz.ntmps140
   go_wp2_with fail
   refine (K1.out _).mono ?_
   rintro e w1 ⟨rfl,hb1⟩
   have A1:=Lib.hid (A0.out.below hb1)
   have X1:=Lib.hid (X0.out.below hb1)
   have Y1:=Lib.hid (Y0.out.below hb1)
   have B1:=Lib.hid (B0.out.then hb1)
   clear A0 X0 Y0 B0 hb1
   generalize w.heap.size + 1 + 1 = g2 at *
   generalize w.heap.size + 1 = g1 at *
   have x0:=X1.out.c0
   have x1:=X1.out.c1
   have x2:=X1.out.f 0
   have x3:=X1.out.f 1
   have y0:=Y1.out.c0
   have y1:=Y1.out.c1
   have y2:=Y1.out.f 0
   have y3:=Y1.out.f 1
   go_wp2
   have W1:=two_other (two_set X1.out 0 0) hg2.symm 0 0
   have W2:=two_set (two_other Y1.out hg2 0 0) 0 0
   have z0:=W1.c0
   have z1:=W1.c1
   have z2:=W2.c0
   have z3:=W2.c1
   have BF:=Lib.hid ((((B1.out.setCell (p:=⟨g1,0,none⟩) HB1.out (.int .i64 0)).setCell (p:=⟨g1,1,none⟩) HB1.out (.int .u64 0)).setCell (p:=⟨g2,0,none⟩) HB2.out (.int .i64 0)).setCell (p:=⟨g2,1,none⟩) HB2.out (.int .u64 0))
   clear W1 W2 x0 x1 x2 x3 y0 y1 y2 y3
   generalize (((w1.setCell ⟨g1,0,none⟩ (.int .i64 0)).setCell ⟨g1,1,none⟩ (.int .u64 0)).setCell ⟨g2,0,none⟩ (.int .i64 0)).setCell ⟨g2,1,none⟩ (.int .u64 0) = wf at *
   refine bodyPost_ret (v:=.tuple #[.agg #[.int .i64 0,.int .u64 0],.agg #[.int .i64 0,.int .u64 0],.bool false]) (by simp [results,Tryz.results140,go_sem,z0,z1,z2,z3]) rfl ⟨by rw [HV.out],BF.out⟩
 | true =>
   by_cases hL : L = 0
   · subst hL
     have HV:=Lib.hid (show halfV n 0 I = .tuple #[.agg #[.int .i64 0,.int .u64 0],.agg #[.int .i64 0,.int .u64 0],.bool false] by unfold halfV; simp)
     rw [hp] at K1
     clear hp
     go_enter Tryz.func140,Tryz.ntmps140
     go_wp2_with fail
     refine (K1.out _).mono ?_
     rintro e w1 ⟨rfl,hb1⟩
     have A1:=Lib.hid (A0.out.below hb1)
     have X1:=Lib.hid (X0.out.below hb1)
     have Y1:=Lib.hid (Y0.out.below hb1)
     have B1:=Lib.hid (B0.out.then hb1)
     clear A0 X0 Y0 B0 hb1
     generalize w.heap.size + 1 + 1 = g2 at *
     generalize w.heap.size + 1 = g1 at *
     have a0:=A1.out.c0
     have x0:=X1.out.c0
     have x1:=X1.out.c1
     have x2:=X1.out.f 0
     have x3:=X1.out.f 1
     have y0:=Y1.out.c0
     have y1:=Y1.out.c1
     have y2:=Y1.out.f 0
     have y3:=Y1.out.f 1
     go_wp2
     have W1:=two_other (two_set X1.out 0 0) hg2.symm 0 0
     have W2:=two_set (two_other Y1.out hg2 0 0) 0 0
     have z0:=W1.c0
     have z1:=W1.c1
     have z2:=W2.c0
     have z3:=W2.c1
     have BF:=Lib.hid ((((B1.out.setCell (p:=⟨g1,0,none⟩) HB1.out (.int .i64 0)).setCell (p:=⟨g1,1,none⟩) HB1.out (.int .u64 0)).setCell (p:=⟨g2,0,none⟩) HB2.out (.int .i64 0)).setCell (p:=⟨g2,1,none⟩) HB2.out (.int .u64 0))
     clear a0 W1 W2 x0 x1 x2 x3 y0 y1 y2 y3
     generalize (((w1.setCell ⟨g1,0,none⟩ (.int .i64 0)).setCell ⟨g1,1,none⟩ (.int .u64 0)).setCell ⟨g2,0,none⟩ (.int .i64 0)).setCell ⟨g2,1,none⟩ (.int .u64 0) = wf at *
     refine bodyPost_ret (v:=.tuple #[.agg #[.int .i64 0,.int .u64 0],.agg #[.int .i64 0,.int .u64 0],.bool false]) (by simp [results,Tryz.results140,go_sem,z0,z1,z2,z3]) rfl ⟨by rw [HV.out],BF.out⟩
   · obtain ⟨N,l,i,rfl,rfl,rfl,h1,h2,h3,h4,h5⟩:=isP_nat h0 hp
     have hl : l ≠ 0:=by omega
     clear hL
     have hi : i ≤ 288230376151711744:=by
       have : 2 ^ (N - l) ≤ 2 ^ 58:=Nat.pow_le_pow_right (by omega) (by omega)
       omega
     have HV:=Lib.hid (show halfV N l i = .tuple #[.agg #[.int .i64 ((l : Int) - 1),.int .u64 (2 * (i : Int))],.agg #[.int .i64 ((l : Int) - 1),.int .u64 (2 * (i : Int) + 1)],.bool true] by unfold halfV; rw [hp,decide_eq_true (by omega : (0 : Int) < l)]; rfl)
     rw [hp] at K1
     clear hp h4 h5
     have hd0 : ((l : Int) == 0) = false:=by simp; omega
     have hs1 : IntKind.i64.wrap ((l : Int) - 1) = (l : Int) - 1:=by rw [IntKind.wrap_i64]; omega
     have hs2 : IntKind.u64.wrap (2 * (i : Int)) = 2 * (i : Int):=by rw [IntKind.wrap_u64]; omega
     have hs3 : IntKind.u64.wrap (2 * (i : Int) + 1) = 2 * (i : Int) + 1:=by rw [IntKind.wrap_u64]; omega
     go_enter Tryz.func140,Tryz.ntmps140
     go_wp2_with fail
     refine (K1.out _).mono ?_
     rintro e w1 ⟨rfl,hb1⟩
     have A1:=Lib.hid (A0.out.below hb1)
     have X1:=Lib.hid (X0.out.below hb1)
     have Y1:=Lib.hid (Y0.out.below hb1)
     have B1:=Lib.hid (B0.out.then hb1)
     clear A0 X0 Y0 B0 hb1
     generalize w.heap.size + 1 + 1 = g2 at *
     generalize w.heap.size + 1 = g1 at *
     have a0:=A1.out.c0
     have a1:=A1.out.c1
     have x0:=X1.out.c0
     have x1:=X1.out.c1
     have x2:=X1.out.f 0
     have x3:=X1.out.f 1
     have y0:=Y1.out.c0
     have y1:=Y1.out.c1
     have y2:=Y1.out.f 0
     have y3:=Y1.out.f 1
     go_wp2
     go_region
     go_wp2
     have W1:=two_other (two_set X1.out ((l : Int) - 1) (2 * (i : Int))) hg2.symm ((l : Int) - 1) (2 * (i : Int) + 1)
     have W2:=two_set (two_other Y1.out hg2 ((l : Int) - 1) (2 * (i : Int))) ((l : Int) - 1) (2 * (i : Int) + 1)
     have z0:=(show _ from W1.c0)
     have z1:=W1.c1
     have z2:=W2.c0
     have z3:=W2.c1
     have BF:=Lib.hid ((((B1.out.setCell (p:=⟨g1,0,none⟩) HB1.out (.int .i64 ((l : Int) - 1))).setCell (p:=⟨g1,1,none⟩) HB1.out (.int .u64 (2 * (i : Int)))).setCell (p:=⟨g2,0,none⟩) HB2.out (.int .i64 ((l : Int) - 1))).setCell (p:=⟨g2,1,none⟩) HB2.out (.int .u64 (2 * (i : Int) + 1)))
     clear a0 a1 W1 W2 x0 x1 x2 x3 y0 y1 y2 y3
     generalize (((w1.setCell ⟨g1,0,none⟩ (.int .i64 ((l : Int) - 1))).setCell ⟨g1,1,none⟩ (.int .u64 (2 * (i : Int)))).setCell ⟨g2,0,none⟩ (.int .i64 ((l : Int) - 1))).setCell ⟨g2,1,none⟩ (.int .u64 (2 * (i : Int) + 1)) = wf at *
     refine bodyPost_ret (v:=.tuple #[.agg #[.int .i64 ((l : Int) - 1),.int .u64 (2 * (i : Int))],.agg #[.int .i64 ((l : Int) - 1),.int .u64 (2 * (i : Int) + 1)],.bool true]) (by simp [results,Tryz.results140,go_sem,z0,z1,z2,z3]) rfl ⟨by rw [HV.out],BF.out.drew⟩
end Go.Proofs.YtejaocnhekjfiaaGreatDoor.S14
namespace Go.Proofs.YtejaocnhekjfiaaGreatDoor.S14
open Go.RowKit
set_option linter.unusedVariables false
def pcells (l : List (Nat × Nat)) : List Value:=l.flatMap fun p => [.int .i64 p.1,.int .u64 p.2]
theorem pcells_cons (p : Nat × Nat) (l : List (Nat × Nat)) : pcells (p :: l) = .int .i64 p.1 :: .int .u64 p.2 :: pcells l:=rfl
theorem pcells_append (l m : List (Nat × Nat)) : pcells (l ++ m) = pcells l ++ pcells m:=by simp [pcells]
theorem pcells_len (l : List (Nat × Nat)) : (pcells l).length = l.length * 2:=by
 induction l with
 | nil => rfl
 | cons p l ih => rw [pcells_cons,List.length_cons,List.length_cons,ih,List.length_cons]; omega
theorem pcells_get (l : List (Nat × Nat)) (k : Nat) : (pcells l)[k * 2]? = l[k]?.map fun p => .int .i64 p.1:=by
 induction l generalizing k with
 | nil => simp [pcells]
 | cons p l ih =>
   rw [pcells_cons]
   cases k with
   | zero => simp
   | succ k => rw [show (k + 1) * 2 = k * 2 + 1 + 1 by omega,List.getElem?_cons_succ,List.getElem?_cons_succ,ih,List.getElem?_cons_succ]
theorem pcells_get1 (l : List (Nat × Nat)) (k : Nat) : (pcells l)[k * 2 + 1]? = l[k]?.map fun p => .int .u64 p.2:=by
 induction l generalizing k with
 | nil => simp [pcells]
 | cons p l ih =>
   rw [pcells_cons]
   cases k with
   | zero => simp
   | succ k => rw [show (k + 1) * 2 + 1 = (k * 2 + 1) + 1 + 1 by omega,List.getElem?_cons_succ,List.getElem?_cons_succ,ih,List.getElem?_cons_succ]
theorem pcells_set (l : List (Nat × Nat)) (k : Nat) (q : Nat × Nat) : ((pcells l).set (k * 2) (.int .i64 q.1)).set (k * 2 + 1) (.int .u64 q.2) = pcells (l.set k q):=by
 induction l generalizing k with
 | nil => simp [pcells]
 | cons p l ih =>
   rw [pcells_cons]
   cases k with
   | zero => simp [pcells_cons]
   | succ k => rw [show (k + 1) * 2 = k * 2 + 1 + 1 by omega,List.set_cons_succ,List.set_cons_succ,List.set_cons_succ,List.set_cons_succ,ih,List.set_cons_succ,pcells_cons]
def pblk (l : List (Nat × Nat)) (rest : List Value) : Array Value:=(pcells l ++ rest).toArray
theorem pblk_get {l : List (Nat × Nat)} {k : Nat} {p : Nat × Nat} (h : l[k]? = some p) (rest : List Value) : (pblk l rest)[k * 2]? = some (.int .i64 p.1):=by
 have hk:=(List.getElem?_eq_some_iff.1 h).1
 unfold pblk
 rw [List.getElem?_toArray,List.getElem?_append_left (by rw [pcells_len]; omega),pcells_get,h]; rfl
theorem pblk_get1 {l : List (Nat × Nat)} {k : Nat} {p : Nat × Nat} (h : l[k]? = some p) (rest : List Value) : (pblk l rest)[k * 2 + 1]? = some (.int .u64 p.2):=by
 have hk:=(List.getElem?_eq_some_iff.1 h).1
 unfold pblk
 rw [List.getElem?_toArray,List.getElem?_append_left (by rw [pcells_len]; omega),pcells_get1,h]; rfl
theorem pblk_set {l : List (Nat × Nat)} {k : Nat} (hk : k < l.length) (q : Nat × Nat) (rest : List Value) :
   ((pblk l rest).setIfInBounds (k * 2) (.int .i64 q.1)).setIfInBounds (k * 2 + 1) (.int .u64 q.2) = pblk (l.set k q) rest:=by
 unfold pblk
 rw [← pcells_set,List.setIfInBounds_toArray,List.setIfInBounds_toArray,List.set_append_left _ _ (by rw [pcells_len]; omega),List.set_append_left _ _ (by rw [List.length_set,pcells_len]; omega)]
structure Swapped (old cur : List (Nat × Nat)) (k : Nat) : Prop where
 size : cur.length = old.length
 ends : ∀ i,i < old.length → (i < k ∨ old.length - k ≤ i) → cur[i]? = old[old.length - 1 - i]?
 mid : ∀ i,k ≤ i → i < old.length - k → cur[i]? = old[i]?
theorem Swapped.start (old : List (Nat × Nat)) : Swapped old old 0:=⟨rfl,fun i h1 h2 => by omega,fun _ _ _ => rfl⟩
theorem Swapped.step {old cur : List (Nat × Nat)} {k : Nat} (h : Swapped old cur k) (hk : 2 * k + 1 < old.length) {x y : Nat × Nat} (hx : old[k]? = some x) (hy : old[old.length - 1 - k]? = some y) :
   Swapped old ((cur.set k y).set (old.length - 1 - k) x) (k + 1):=by
 have hs:=h.size
 refine ⟨by simp [hs],fun i h1 h2 => ?_,fun i h1 h2 => ?_⟩
 · by_cases e1 : i = old.length - 1 - k
   · subst e1
     rw [List.getElem?_set_self (by simp; omega),show old.length - 1 - (old.length - 1 - k) = k from by omega,hx]
   · rw [List.getElem?_set_ne (by omega)]
     by_cases e2 : i = k
     · subst e2
       rw [List.getElem?_set_self (by omega),hy]
     · rw [List.getElem?_set_ne (by omega)]
       exact h.ends i h1 (by omega)
 · rw [List.getElem?_set_ne (by omega),List.getElem?_set_ne (by omega)]
   exact h.mid i (by omega) (by omega)
theorem Swapped.done {old cur : List (Nat × Nat)} {k : Nat} (h : Swapped old cur k) (hk : old.length ≤ 2 * k + 1) : cur = old.reverse:=by
 apply List.ext_getElem?
 intro i
 by_cases hi : i < old.length
 · rw [List.getElem?_reverse hi]
   by_cases e : i < k ∨ old.length - k ≤ i
   · exact h.ends i hi e
   · rw [h.mid i (by omega) (by omega),show old.length - 1 - i = i from by omega]
 · rw [List.getElem?_eq_none (by rw [h.size]; omega),List.getElem?_eq_none (by simp; omega)]
set_option maxRecDepth 100000 in
set_option maxHeartbeats 1000000 in
theorem reverse_any (g c : Nat) (old : List (Nat × Nat)) (rest : List Value) (w : World) (n : Nat) (hn : old.length = n) (hh : w.heap[g]? = some (.cells (pblk old rest) 46 (0,0))) (hlen : n ≤ 65535) :
   Calls Tryz.prog 210 #[.slice (some ⟨g,0,none⟩) n c] w fun e w' => e = .returned (.tuple #[]) ∧ w'.heap[g]? = some (.cells (pblk old.reverse rest) 46 (0,0)) ∧ Only g w w':=by
 have HH:=Lib.hid hh; clear hh
 have HN:=Lib.hid hn; clear hn
 go_enter Tryz.func210,Tryz.ntmps210
 go_wp2
 go_loopw [2,3] (fun i j wr => ∃ (k : Nat) (cur : List (Nat × Nat)),2 * k ≤ n + 1 ∧ i = .int .i64 k ∧ j = .int .i64 ((n : Int) - 1 - (k : Int)) ∧ Swapped old cur k ∧ wr.heap[g]? = some (.cells (pblk cur rest) 46 (0,0)) ∧ Only g w wr) (fun i _ _ => n - (intOf i).toNat)
 case atStart => exact ⟨0,old,by omega,rfl,by go_num,Swapped.start old,HH.out,Only.refl g w⟩
 case round =>
   obtain ⟨k,cur,hk,rfl,rfl,hsw,hh,ho⟩:=hrel
   have HW:=Lib.hid hh; clear hh
   have HS:=Lib.hid hsw; clear hsw
   have HO:=Lib.hid ho; clear ho
   by_cases hlt : 2 * k + 1 < n
   · obtain ⟨m,hm⟩ : ∃ m,m = n - 1 - k:=⟨_,rfl⟩
     have hmi : (n : Int) - 1 - (k : Int) = (m : Int):=by omega
     rw [hmi]
     have hsz:=HS.out.size
     have hnn:=HN.out
     obtain ⟨⟨x1,x2⟩,hx⟩ : ∃ x,old[k]? = some x:=⟨_,List.getElem?_eq_getElem (by omega)⟩
     obtain ⟨⟨y1,y2⟩,hy⟩ : ∃ y,old[m]? = some y:=⟨_,List.getElem?_eq_getElem (by omega)⟩
     have ux : cur[k]? = some (x1,x2):=by rw [HS.out.mid k (by omega) (by omega)]; exact hx
     have uy : cur[m]? = some (y1,y2):=by rw [HS.out.mid m (by omega) (by omega)]; exact hy
     have c0 : wr.cell? ⟨g,k * 2,none⟩ = some (.int .i64 x1):=(cell_of_row _ _ _ _ _ _ HW.out).trans (pblk_get ux rest)
     have c1 : wr.cell? ⟨g,k * 2 + 1,none⟩ = some (.int .u64 x2):=(cell_of_row _ _ _ _ _ _ HW.out).trans (pblk_get1 ux rest)
     have d0 : wr.cell? ⟨g,m * 2,none⟩ = some (.int .i64 y1):=(cell_of_row _ _ _ _ _ _ HW.out).trans (pblk_get uy rest)
     have d1 : wr.cell? ⟨g,m * 2 + 1,none⟩ = some (.int .u64 y2):=(cell_of_row _ _ _ _ _ _ HW.out).trans (pblk_get1 uy rest)
     have f0 : wr.frozen? ⟨g,k * 2,none⟩ = false:=frozen_of_row _ _ _ _ _ HW.out
     have f1 : wr.frozen? ⟨g,k * 2 + 1,none⟩ = false:=frozen_of_row _ _ _ _ _ HW.out
     have f2 : wr.frozen? ⟨g,m * 2,none⟩ = false:=frozen_of_row _ _ _ _ _ HW.out
     have f3 : wr.frozen? ⟨g,m * 2 + 1,none⟩ = false:=frozen_of_row _ _ _ _ _ HW.out
     have hst:=HS.out.step (by omega) hx (by rw [hnn,← hm]; exact hy)
     rw [hnn,← hm] at hst
     have HST:=Lib.hid hst
     have b1 : (cur.set k (y1,y2)).length = n:=by simp; omega
     have hset:=pblk_set (l:=cur.set k (y1,y2)) (k:=m) (by omega) (x1,x2) rest
     rw [← pblk_set (l:=cur) (k:=k) (by omega) (y1,y2) rest] at hset
     have HSET:=Lib.hid hset
     have hkm : k ≠ m:=by omega
     have hkn : (k : Int) < (n : Int):=by omega
     have hmn : (m : Int) < (n : Int):=by omega
     have hlt2 : (k : Int) < (m : Int):=by omega
     have HM:=Lib.hid hm
     have e1 : k * 2 ≠ m * 2:=by omega
     have e2 : k * 2 ≠ m * 2 + 1:=by omega
     have e3 : k * 2 + 1 ≠ m * 2:=by omega
     clear hst hset b1 hx hy ux uy hsz hnn hmi hm
     go_wp2_with fail
     go_region
     clear c0 c1 d0 d1 f0 f1 f2 f3
     have hmm : (m : Int) - 1 = (n : Int) - 1 - ((k : Int) + 1):=by have:=HM.out; omega
     go_wp2
     go_roundw
     case rel =>
       refine ⟨k + 1,_,by omega,by go_num,by go_num,HST.out,?_,?_⟩
       · refine (heap_setCell_same _ _ _ _ _ _ (heap_setCell_same _ _ _ _ _ _ (heap_setCell_same _ _ _ _ _ _ (heap_setCell_same _ _ _ _ _ _ HW.out)))).trans ?_
         rw [HSET.out]
       · exact ((((HO.out.trans (Only.store wr g _ _)).trans (Only.store _ g _ _)).trans (Only.store _ g _ _)).trans (Only.store _ g _ _)).drew
     case measure => simp [intOf]; omega
   · have hd : decide ((k : Int) < (n : Int) - 1 - (k : Int)) = false:=by simp; omega
     have hfin:=HS.out.done (by have:=HN.out; omega)
     have HF:=Lib.hid hfin
     clear hfin hk
     go_wp2
     go_end0
     exact ⟨rfl,by rw [← HF.out]; exact HW.out,HO.out⟩
end Go.Proofs.YtejaocnhekjfiaaGreatDoor.S14
namespace Go.Proofs.YtejaocnhekjfiaaGreatDoor.S14
open Go.RowKit
set_option linter.unusedVariables false
def PRow (w : World) (a : Option Addr) (n : Nat) (l : List (Nat × Nat)) : Prop:=
 l.length = n ∧ (l = [] ∨ ∃ g rest,a = some ⟨g,0,none⟩ ∧ w.heap[g]? = some (.cells (pblk l rest) 46 (0,0)))
theorem PRow.below {w w' : World} {a n l} (h : PRow w a n l) (hb : Below w.heap.size w w') : PRow w' a n l:=by
 refine ⟨h.1,h.2.imp id ?_⟩
 rintro ⟨g,rest,e,hh⟩
 exact ⟨g,rest,e,(hb.block g (lt_of_block hh)).trans hh⟩
theorem PRow.cells {w : World} {a n l} (h : PRow w a n l) {k : Nat} {p : Nat × Nat} (hp : l[k]? = some p) :
   ∃ g,a = some ⟨g,0,none⟩ ∧ w.cell? ⟨g,k * 2,none⟩ = some (.int .i64 p.1) ∧ w.cell? ⟨g,k * 2 + 1,none⟩ = some (.int .u64 p.2):=by
 rcases h.2 with rfl | ⟨g,rest,e,hh⟩
 · simp at hp
 · exact ⟨g,e,(cell_of_row _ _ _ _ _ _ hh).trans (pblk_get hp rest),(cell_of_row _ _ _ _ _ _ hh).trans (pblk_get1 hp rest)⟩
theorem PRow.own {w : World} {base : Nat} {v : Value} {n : Nat} {l : List (Nat × Nat)} (h : w.ownsRow base 46 2 v n (pcells l)) :
   ∃ a c,v = .slice a n c ∧ PRow w a n l ∧ n ≤ c:=by
 have hn : l.length = n:=by
   have:=h.1
   rw [pcells_len] at this
   omega
 rcases h with ⟨hl,⟨rfl,he⟩ | ⟨g,cap,cur,rfl,hg,hh,hnc,hcm,hcs,ht⟩⟩
 · obtain rfl : l = []:=List.length_eq_zero_iff.1 (by omega)
   subst he
   exact ⟨none,0,rfl,⟨rfl,.inl rfl⟩,Nat.le_refl _⟩
 · refine ⟨_,cap,rfl,⟨hn,.inr ⟨g,cur.toList.drop (n * 2),rfl,?_⟩⟩,hnc⟩
   rw [hh]
   unfold pblk
   rw [← ht,List.take_append_drop]
end Go.Proofs.YtejaocnhekjfiaaGreatDoor.S14
namespace Go.Proofs.YtejaocnhekjfiaaGreatDoor.S14
open Go.RowKit
set_option linter.unusedVariables false
theorem own_ne {w : World} {base : Nat} {v : Value} {n : Nat} {xs : List Value} {b : Nat} {c : Array Value} {fr : Nat × Nat} (h : w.ownsRow base 46 2 v n xs) (hb : w.heap[b]? = some (.cells c 256 fr)) : v.ownBlock ≠ some b:=by
 intro e
 rcases h.2 with ⟨rfl,_⟩ | ⟨g,cap,cur,rfl,_,hg,_⟩
 · simp [Value.ownBlock] at e
 · simp [Value.ownBlock] at e
   subst e
   rw [hg] at hb
   simp at hb
structure St (B b4 b5 : Nat) (w wr : World) (v4 v5 : Value) (n4 n5 : Nat) (xs ys : List (Nat × Nat)) : Prop where
 lt4 : B ≤ b4
 lt5 : B ≤ b5
 ne : b4 ≠ b5
 h4 : wr.heap[b4]? = some (.cells #[v4] 256 (0,0))
 h5 : wr.heap[b5]? = some (.cells #[v5] 256 (0,0))
 o4 : wr.ownsRow B 46 2 v4 n4 (pcells xs)
 o5 : wr.ownsRow B 46 2 v5 n5 (pcells ys)
 sep : v4.ownBlock = none ∨ v4.ownBlock ≠ v5.ownBlock
 bel : Below B w wr
 big : B ≤ w.heap.size
theorem St.len4 {B b4 b5 w wr v4 v5 n4 n5 xs ys} (h : St B b4 b5 w wr v4 v5 n4 n5 xs ys) : xs.length = n4:=by
 have:=h.o4.1; rw [pcells_len] at this; omega
theorem St.len5 {B b4 b5 w wr v4 v5 n4 n5 xs ys} (h : St B b4 b5 w wr v4 v5 n4 n5 xs ys) : ys.length = n5:=by
 have:=h.o5.1; rw [pcells_len] at this; omega
theorem St.swap {B b4 b5 w wr v4 v5 n4 n5 xs ys} (h : St B b4 b5 w wr v4 v5 n4 n5 xs ys) : v5.ownBlock = none ∨ v5.ownBlock ≠ v4.ownBlock := by
  cases h5 : v5.ownBlock with
  | none => exact .inl rfl
  | some g => exact .inr (fun e => by rcases h.sep with h' | h'; · rw [h'] at e; cases e
                                      · exact h' (by rw [← e, h5]))
theorem St.turn {B b4 b5 w wr v4 v5 n4 n5 xs ys} (h : St B b4 b5 w wr v4 v5 n4 n5 xs ys) : St B b5 b4 w wr v5 v4 n5 n4 ys xs:=
 ⟨h.lt5,h.lt4,fun e => h.ne e.symm,h.h5,h.h4,h.o5,h.o4,h.swap,h.bel,h.big⟩
theorem St.step4 {B b4 b5 w wr v4 v5 n4 n5 xs ys} (h : St B b4 b5 w wr v4 v5 n4 n5 xs ys) {o : Obj} {v' : Value} {w1 : World} {x : Nat × Nat}
   (hown : w1.ownsRow B 46 2 v' (n4 + 1) (pcells (xs ++ [x]))) (hg : (wr.alloc o).grownBy w1 v4.ownBlock) (hat : v'.ownBlock = v4.ownBlock ∨ v'.ownBlock = some (wr.alloc o).heap.size) :
   St B b4 b5 w (w1.setCell ⟨b4,0,none⟩ v') v' v5 (n4 + 1) n5 (xs ++ [x]) ys:=by
 have l4:=lt_of_block h.h4
 have l5:=lt_of_block h.h5
 have hw : ∀ k,k < wr.heap.size → some k ≠ v4.ownBlock → w1.heap[k]? = wr.heap[k]?:=fun k hk hne => by
   rw [hg.block k (by simp; omega) hne,Below.heap_alloc _ _ _ hk]
 have e4 : w1.heap[b4]? = some (.cells #[v4] 256 (0,0)):=by rw [hw b4 l4 (fun e => own_ne h.o4 h.h4 e.symm)]; exact h.h4
 have e5 : w1.heap[b5]? = some (.cells #[v5] 256 (0,0)):=by rw [hw b5 l5 (fun e => own_ne h.o4 h.h5 e.symm)]; exact h.h5
 have o5 : w1.ownsRow B 46 2 v5 n5 (pcells ys):=(h.o5.alloc o).kept hg h.swap
 have bel1 : Below B w w1:=(h.bel.alloc (Nat.le_trans h.big h.bel.size) o).grown hg (by have:=h.bel.size; have:=h.big; simp; omega) (fun k hk => (h.o4.lt k hk).1)
 refine ⟨h.lt4,h.lt5,h.ne,one_setCell e4,?_,?_,?_,?_,bel1.setCell h.lt4 _,h.big⟩
 · rw [heap_setCell_other _ _ _ _ (fun e => h.ne e.symm)]; exact e5
 · exact ownsRow_setCell_other hown (own_ne hown e4) _
 · exact ownsRow_setCell_other o5 (own_ne o5 e4) _
 · rcases hat with e | e
   · rw [e]; exact h.sep
   · right
     rw [e]
     intro e2
     have:=(h.o5.lt _ e2.symm).2
     simp at this
     omega
theorem St.step5 {B b4 b5 w wr v4 v5 n4 n5 xs ys} (h : St B b4 b5 w wr v4 v5 n4 n5 xs ys) {o : Obj} {v' : Value} {w1 : World} {x : Nat × Nat}
   (hown : w1.ownsRow B 46 2 v' (n5 + 1) (pcells (ys ++ [x]))) (hg : (wr.alloc o).grownBy w1 v5.ownBlock) (hat : v'.ownBlock = v5.ownBlock ∨ v'.ownBlock = some (wr.alloc o).heap.size) :
   St B b4 b5 w (w1.setCell ⟨b5,0,none⟩ v') v4 v' n4 (n5 + 1) xs (ys ++ [x]):=
 (h.turn.step4 hown hg hat).turn
theorem St.held {B b4 b5 w wr v4 v5 n4 n5 xs ys} (h : St B b4 b5 w wr v4 v5 n4 n5 xs ys) {o : Obj} {v : Value} {w1 : World} (hv : v = v4 ∨ v = v5)
    (hg : (wr.alloc o).grownBy w1 v.ownBlock) : w1.cell? ⟨b4, 0, none⟩ = some v4 ∧ w1.frozen? ⟨b4, 0, none⟩ = false ∧ w1.cell? ⟨b5, 0, none⟩ = some v5 ∧ w1.frozen? ⟨b5, 0, none⟩ = false := by
  have l4 := lt_of_block h.h4
  have l5 := lt_of_block h.h5
  have hw : ∀ k, k < wr.heap.size → some k ≠ v.ownBlock → w1.heap[k]? = wr.heap[k]? := fun k hk hne => by
    rw [hg.block k (by simp; omega) hne, Below.heap_alloc _ _ _ hk]
  have e4 : w1.heap[b4]? = some (.cells #[v4] 256 (0, 0)) := by
    rw [hw b4 l4 (fun e => by rcases hv with rfl | rfl; · exact own_ne h.o4 h.h4 e.symm
                              · exact own_ne h.o5 h.h4 e.symm)]; exact h.h4
  have e5 : w1.heap[b5]? = some (.cells #[v5] 256 (0, 0)) := by
    rw [hw b5 l5 (fun e => by rcases hv with rfl | rfl; · exact own_ne h.o4 h.h5 e.symm
                              · exact own_ne h.o5 h.h5 e.symm)]; exact h.h5
  exact ⟨cell_of_one e4, free_of_one e4, cell_of_one e5, free_of_one e5⟩
theorem St.rev {B b4 b5 w wr v4 v5 n4 n5 xs ys} (h : St B b4 b5 w wr v4 v5 n4 n5 xs ys) {w1 : World}
   (hown : w1.ownsRow B 46 2 v5 n5 (pcells ys.reverse)) (hg : wr.grownBy w1 v5.ownBlock) (hs : w1.heap.size = wr.heap.size) :
   St B b4 b5 w w1 v4 v5 n4 n5 xs ys.reverse:=by
 have l4:=lt_of_block h.h4
 have l5:=lt_of_block h.h5
 have e4 : w1.heap[b4]? = some (.cells #[v4] 256 (0,0)):=by rw [hg.block b4 l4 (fun e => own_ne h.o5 h.h4 e.symm)]; exact h.h4
 have e5 : w1.heap[b5]? = some (.cells #[v5] 256 (0,0)):=by rw [hg.block b5 l5 (fun e => own_ne h.o5 h.h5 e.symm)]; exact h.h5
 exact ⟨h.lt4,h.lt5,h.ne,e4,e5,h.o4.kept hg h.sep,hown,h.sep,h.bel.grown hg (Nat.le_trans h.big h.bel.size) (fun k hk => (h.o5.lt k hk).1),h.big⟩
theorem St.close {B b4 b5 w wr v4 v5 n4 n5 xs ys} (h : St B b4 b5 w wr v4 v5 n4 n5 xs ys) {w1 : World} {v' : Value} {n : Nat} {zs : List (Nat × Nat)}
   (hown : w1.ownsRow B 46 2 v' n (pcells zs)) (hg : wr.grownBy w1 v4.ownBlock) :
   (w1.cell? ⟨b4,0,none⟩ = some v4 ∧ w1.frozen? ⟨b4,0,none⟩ = false) ∧ (w1.setCell ⟨b4,0,none⟩ v').heap[b4]? = some (.cells #[v'] 256 (0,0)) ∧ (w1.setCell ⟨b4,0,none⟩ v').ownsRow B 46 2 v' n (pcells zs) ∧ Below B w (w1.setCell ⟨b4,0,none⟩ v'):=by
 have l4:=lt_of_block h.h4
 have e4 : w1.heap[b4]? = some (.cells #[v4] 256 (0,0)):=by rw [hg.block b4 l4 (fun e => own_ne h.o4 h.h4 e.symm)]; exact h.h4
 exact ⟨⟨cell_of_one e4,free_of_one e4⟩,one_setCell e4,ownsRow_setCell_other hown (own_ne hown e4) _,(h.bel.grown hg (Nat.le_trans h.big h.bel.size) (fun k hk => (h.o4.lt k hk).1)).setCell h.lt4 _⟩
set_option maxRecDepth 100000 in
set_option maxHeartbeats 400000 in
theorem reverse_nil (w : World) : Calls Tryz.prog 210 #[.slice none 0 0] w fun e w' => e = .returned (.tuple #[]) ∧ w' = w:=by
 go_enter Tryz.func210,Tryz.ntmps210
 go_wp2
 go_loop [2,3] (fun i j => i = .int .i64 0 ∧ j = .int .i64 (-1)) (fun _ _ => 0)
 case atStart => exact ⟨rfl,rfl⟩
 case round =>
   obtain ⟨rfl,rfl⟩:=hrel
   go_wp2
   go_end0
   exact ⟨rfl,rfl⟩
theorem reverse_own {B : Nat} {v : Value} {n : Nat} {ys : List (Nat × Nat)} {w : World} (h : w.ownsRow B 46 2 v n (pcells ys)) (hn : n ≤ 65535) :
   Calls Tryz.prog 210 #[v] w fun e w' => e = .returned (.tuple #[]) ∧ w'.ownsRow B 46 2 v n (pcells ys.reverse) ∧ w.grownBy w' v.ownBlock ∧ w'.heap.size = w.heap.size:=by
 have hl : ys.length = n:=by have:=h.1; rw [pcells_len] at this; omega
 rcases h.2 with ⟨rfl,rfl⟩ | ⟨g,cap,cur,rfl,hg,hh,hnc,hcm,hcs,ht⟩
 · obtain rfl : ys = []:=List.length_eq_zero_iff.1 hl
   refine (reverse_nil w).mono ?_
   rintro e w' ⟨rfl,rfl⟩
   exact ⟨rfl,h,⟨rfl,rfl,rfl,Nat.le_refl _,fun _ _ _ => rfl⟩,rfl⟩
 · have hc : cur = pblk ys (cur.toList.drop (n * 2)):=by unfold pblk; rw [← ht,List.take_append_drop]
   rw [hc] at hh
   refine (reverse_any g cap ys _ w n hl hh hn).mono ?_
   rintro e w' ⟨rfl,hh',ho⟩
   refine ⟨rfl,⟨by rw [pcells_len]; simp [hl],.inr ⟨g,cap,_,rfl,hg,hh',hnc,hcm,?_,?_⟩⟩,⟨ho.os,ho.tape,ho.output,by rw [ho.size]; exact Nat.le_refl _,fun k _ hk => ho.block k (by simpa [Value.ownBlock] using hk)⟩,ho.size⟩
   · have hz:=congrArg Array.size hc
     unfold pblk at hz ⊢
     simp [pcells_len] at hz ⊢
     omega
   · unfold pblk
     simp only []
     rw [List.take_append_of_le_length (by rw [pcells_len]; simp [hl]),List.take_of_length_le (by rw [pcells_len]; simp [hl])]
theorem one_cells (l : List (Nat × Nat)) : ∀ u ∈ pcells l,u.oneCell' = true:=by
 intro u hu
 unfold pcells at hu
 simp only [List.mem_flatMap,List.mem_cons,List.not_mem_nil,or_false] at hu
 obtain ⟨p,_,rfl | rfl⟩:=hu <;> rfl
def Closed (B b4 : Nat) (w : World) (n : Nat) (zs : List (Nat × Nat)) (e : Ending) (w' : World) : Prop:=
 e = .returned (.tuple #[]) ∧ ∃ v',w'.heap[b4]? = some (.cells #[v'] 256 (0,0)) ∧ w'.ownsRow B 46 2 v' n (pcells zs) ∧ Below B w w'
set_option maxRecDepth 100000 in
set_option maxHeartbeats 1000000 in
theorem clos_any {B b4 b5 w wr v4 v5 n4 n5 xs ys} (h : St B b4 b5 w wr v4 v5 n4 n5 xs ys) (hn4 : n4 ≤ 1000) (hn5 : n5 ≤ 1000) :
   CallsD Tryz.prog 209 #[.pointer (some ⟨b5,0,none⟩),.pointer (some ⟨b4,0,none⟩)] .returning wr fun e u' w' => u' = .returning ∧ Closed B b4 w (n4 + n5) (xs ++ ys.reverse) e w':=by
 obtain ⟨i0,hi,hz0,hz1,hz2⟩:=info_parts info30
 have c5:=cell_of_one h.h5
 have K:=Lib.hid (reverse_own h.o5 (by omega))
 have hm1 : n4 + n5 ≤ maxLen:=by unfold maxLen; omega
 have hm2 : (n4 + n5) * 16 ≤ 140737488355328:=by omega
 have HS:=Lib.hid h; clear h
 go_enter_d Tryz.func209,Tryz.ntmps209
 go_wp2_with fail
 refine K.out.mono ?_
 rintro e w1 ⟨rfl,hown,hg,hs⟩
 have hst:=HS.out.rev hown hg hs
 clear hown hg hs c5 K HS
 obtain ⟨a4,cp4,rfl,_⟩:=PRow.own hst.o4
 have c4:=cell_of_one hst.h4
 have c5:=cell_of_one hst.h5
 have HS:=Lib.hid hst; clear hst
 rcases HS.out.o5.2 with ⟨rfl,rfl⟩ | ⟨g,cap,cur,hv,_⟩
 · have f4:=free_of_one HS.out.h4
   have hnil : ys.reverse = []:=List.length_eq_zero_iff.1 HS.out.len5
   have HZ:=Lib.hid hnil; clear hnil
   go_wp2_with (at_builtin; refine wpList_append_own_none rfl (.tmp 4) (.tmp 5) 256 rfl B 46 i0 2 Tryz.underlying256 hi _ _ _ rfl HS.out.o4 rfl ?_)
   go_end0
   refine ⟨rfl,.slice a4 n4 cp4,?_,?_,?_⟩
   · exact one_setCell HS.out.h4
   · rw [HZ.out,List.append_nil]; exact ownsRow_setCell_other HS.out.o4 (own_ne HS.out.o4 HS.out.h4) _
   · exact HS.out.bel.setCell HS.out.lt4 _
 · subst hv
   have hnews:=HS.out.o5.cells (g:=g) rfl
   have HN:=Lib.hid hnews; clear hnews
   go_wp2_with (at_builtin; refine wpList_append_own _ rfl (.tmp 4) (.tmp 5) 256 rfl B 46 i0 _ 2 16 Tryz.underlying256 hi hz0 hz1 hz2 rfl (by decide) _ _ _ rfl HS.out.o4 ⟨g,0,none⟩ n5 cap (pcells ys.reverse) rfl HS.out.o5.1 HN.out (one_cells _) hm1 hm2 (Nat.le_trans HS.out.big HS.out.bel.size) ?_; intro v' w2 hown hg _; rw [← pcells_append] at hown; obtain ⟨a',c',hv',_⟩:=PRow.own hown; subst hv'; have hcl:=HS.out.close hown hg; obtain ⟨⟨d4,g4⟩,hcl2⟩:=hcl; have HC:=Lib.hid hcl2; clear hown hg hcl2)
   go_end0
   exact ⟨rfl,_,HC.out⟩
end Go.Proofs.YtejaocnhekjfiaaGreatDoor.S14
namespace Go.Proofs.YtejaocnhekjfiaaGreatDoor.S14
open Go.RowKit
set_option linter.unusedVariables false
def okC (n : Int) (lo hi : Nat) : Bool:=decide (1 ≤ n) && decide (n ≤ 59) && decide (lo ≤ hi) && decide (hi < 2 ^ n.toNat)
def covL (n : Int) (lo hi : Nat) : List (Nat × Nat):=if okC n lo hi then cv 0 lo hi else []
def Cov (n : Int) (lo hi : Nat) (w : World) (e : Ending) (w' : World) : Prop:=
 ∃ a c,e = .returned (.tuple #[.slice a (covL n lo hi).length c,.bool (okC n lo hi)]) ∧ PRow w' a (covL n lo hi).length (covL n lo hi) ∧ Below w.heap.size w w'
theorem cov_good {n : Int} {lo hi : Nat} (h : okC n lo hi = true) {w w' : World} {B m : Nat} {v : Value} (hB : w.heap.size = B) (ho : w'.ownsRow B 46 2 v m (pcells (cv 0 lo hi))) (hb : Below w.heap.size w w') :
   ∃ a c,v = .slice a m c ∧ Cov n lo hi w (.returned (.tuple #[.slice a m c,.bool true])) w':=by
 have e : covL n lo hi = cv 0 lo hi:=by unfold covL; rw [h]; rfl
 obtain ⟨a,c,rfl,hr,_⟩:=PRow.own ho
 refine ⟨a,c,rfl,a,c,?_,?_,hb⟩
 · rw [e,h,hr.1]
 · rw [e,hr.1]; exact hr
theorem and_one (x : Nat) (h : x < 18446744073709551616) : bits BinOp.and IntKind.u64 (x : Int) 1 = ((x % 2 : Nat) : Int):=by
 show IntKind.u64.wrap ((BitVec.ofInt 64 (x : Int) &&& BitVec.ofInt 64 1).toNat : Int) = _
 have e : (BitVec.ofInt 64 1).toNat = 2 ^ 1 - 1:=by decide
 rw [BitVec.toNat_and,e,Nat.and_two_pow_sub_one_eq_mod,BitVec.toNat_ofInt,IntKind.wrap_u64]
 omega
theorem cv_ee {L x y : Nat} (h : x < y) (h1 : x % 2 = 0) (h2 : y % 2 = 0) : cv L x y = cv (L + 1) (x / 2) ((y - 1) / 2) ++ [(L,y)]:=by
 have h3 : x ≤ y - 1:=by omega
 rw [cv]; simp [h,h1,h2,h3]
theorem cv_eo {L x y : Nat} (h : x < y) (h1 : x % 2 = 0) (h2 : y % 2 = 1) : cv L x y = cv (L + 1) (x / 2) (y / 2):=by
 have h3 : x ≤ y:=by omega
 rw [cv]; simp [h,h1,h2,h3]
theorem cv_oo {L x y : Nat} (h : x < y) (h1 : x % 2 = 1) (h2 : y % 2 = 1) : cv L x y = (L,x) :: cv (L + 1) ((x + 1) / 2) (y / 2):=by
 have h3 : x + 1 ≤ y:=by omega
 rw [cv]; simp [h,h1,h2,h3]
theorem cv_oe {L x y : Nat} (h : x < y) (h1 : x % 2 = 1) (h2 : y % 2 = 0) (h3 : x + 1 ≤ y - 1) : cv L x y = (L,x) :: (cv (L + 1) ((x + 1) / 2) ((y - 1) / 2) ++ [(L,y)]):=by
 rw [cv]; simp [h,h1,h2,h3]
theorem cv_on {L x y : Nat} (h : x < y) (h1 : x % 2 = 1) (h2 : y % 2 = 0) (h3 : ¬ x + 1 ≤ y - 1) : cv L x y = [(L,x),(L,y)]:=by
 rw [cv]; simp [h,h1,h2,h3]
theorem cv_eq (L k : Nat) : cv L k k = [(L,k)]:=by rw [cv,if_neg (by omega)]
def Rel (n : Nat) (lo hi : Nat) (w : World) (a1 a2 a9 : Value) (wr : World) : Prop:=
 ∃ (L x y : Nat) (v4 v5 : Value) (n4 n5 : Nat) (xs ys : List (Nat × Nat)),a1 = .int .u64 x ∧ a2 = .int .u64 y ∧ a9 = .int .i64 L ∧ x ≤ y ∧ L ≤ 59 ∧ y < 2 ^ (59 - L) ∧ n4 ≤ L ∧ n5 ≤ L ∧
   St w.heap.size w.heap.size (w.heap.size + 1) w wr v4 v5 n4 n5 xs ys ∧ xs ++ cv L x y ++ ys.reverse = cv 0 lo hi
theorem le_alloc {B : Nat} {W : World} (h : B ≤ W.heap.size) (o : Obj) : B ≤ (W.alloc o).heap.size:=by simp; omega
theorem St.le {B b4 b5 w wr v4 v5 n4 n5 xs ys} (h : St B b4 b5 w wr v4 v5 n4 n5 xs ys) : B ≤ wr.heap.size:=Nat.le_trans h.big h.bel.size
theorem news_p (W : World) {s : Nat} (hs : W.heap.size = s) (L x : Nat) : ∀ j u,(pcells [(L,x)])[j]? = some u → (W.alloc (.cells #[.int .i64 L,.int .u64 x] 46)).cell? ((⟨s,0,none⟩ : Addr).add j) = some u:=by
 subst hs
 intro j u hj
 match j,hj with
 | 0,hj =>
   simp [pcells] at hj; subst hj
   exact (cell_of_row _ _ _ _ _ _ (heap_alloc_new W (.cells #[.int .i64 L,.int .u64 x] 46))).trans rfl
 | 1,hj =>
   simp [pcells] at hj; subst hj
   exact (cell_of_row _ _ _ _ _ _ (heap_alloc_new W (.cells #[.int .i64 L,.int .u64 x] 46))).trans rfl
set_option maxRecDepth 100000 in
set_option maxHeartbeats 1000000 in
theorem cover_good (n : Int) (lo hi : Nat) (w : World) (hlo : lo < 18446744073709551616) (hhi : hi < 18446744073709551616) (hok : okC n lo hi = true) :
   Calls Tryz.prog 175 #[.int .i64 n,.int .u64 lo,.int .u64 hi] w (Cov n lo hi w):=by
 have hmf : ∀ (fn : Fn) (first cap : Array Value) (w : World),(Instr.makeFunc fn first cap).run Tryz.prog w = .ok (.func fn first cap) w:=fun _ _ _ _ => rfl
 obtain ⟨i0,hi0,hz0,hz1,hz2⟩:=info_parts info30
 have HF:=Lib.hid hok
 unfold okC at hok
 simp only [Bool.and_eq_true,decide_eq_true_eq] at hok
 obtain ⟨⟨⟨h1,h2⟩,h3⟩,h4⟩:=hok
 obtain ⟨k,rfl⟩:=Int.eq_ofNat_of_zero_le (show 0 ≤ n by omega)
 rw [Int.toNat_natCast] at h4
 have hk : k ≤ 59:=by omega
 have hw:=wrap_pow hk
 have H59:=Lib.hid (show hi < 2 ^ (59 - 0) from Nat.lt_of_lt_of_le h4 (Nat.pow_le_pow_right (by omega) hk))
 have hst : St w.heap.size w.heap.size (w.heap.size + 1) w ((w.alloc (.cells #[.slice none 0 0] 256)).alloc (.cells #[.slice none 0 0] 256)) (.slice none 0 0) (.slice none 0 0) 0 0 [] []:=by
   refine ⟨by omega,by omega,by omega,?_,?_,World.ownsRow_nil _ _ _ _,World.ownsRow_nil _ _ _ _,.inl rfl,?_,Nat.le_refl _⟩
   · rw [Below.heap_alloc _ _ _ (by simp)]
     exact heap_alloc_new w _
   · have:=heap_alloc_new (w.alloc (.cells #[.slice none 0 0] 256)) (.cells #[.slice none 0 0] 256)
     simpa using this
   · exact ((Below.refl _ _).alloc (Nat.le_refl _) _).alloc (by simp) _
 have HS:=Lib.hid hst; clear hst
 have g0 : decide ((k : Int) < 1) = false:=by simp; omega
 have g1 : decide (59 < (k : Int)) = false:=by simp; omega
 generalize 2 ^ k = P at *
 go_enter_defers Tryz.func175,Tryz.ntmps175
 go_wp2
 generalize (w.alloc (.cells #[.slice none 0 0] 256)).alloc (.cells #[.slice none 0 0] 256) = w0 at *
 go_loopw [1,2,9] (fun a1 a2 a9 wr => Rel k lo hi w a1 a2 a9 wr) (fun a1 a2 _ _ => (intOf a2 - intOf a1).toNat)
 case atStart => exact ⟨0,lo,hi,_,_,0,0,[],[],rfl,rfl,rfl,h3,by omega,H59.out,by omega,by omega,HS.out,by simp⟩
 case round =>
   obtain ⟨L,x,y,v4,v5,n4,n5,xs,ys,rfl,rfl,rfl,hxy,hL,hy,hn4,hn5,hst,hcv⟩:=hrel
   have hl4:=hst.len4
   obtain ⟨a4,k4,rfl,_⟩:=PRow.own hst.o4
   obtain ⟨a5,k5,rfl,_⟩:=PRow.own hst.o5
   have c4:=cell_of_one hst.h4
   have c5:=cell_of_one hst.h5
   have f4:=free_of_one hst.h4
   have f5:=free_of_one hst.h5
   clear HS
   have HS:=Lib.hid hst; clear hst
   have HC:=Lib.hid hcv; clear hcv
   have hm4 : n4 + 1 ≤ maxLen:=by unfold maxLen; omega
   have hm5 : n5 + 1 ≤ maxLen:=by unfold maxLen; omega
   have hn4' : (n4 + 1) * 16 ≤ 140737488355328:=by omega
   have hn5' : (n5 + 1) * 16 ≤ 140737488355328:=by omega
   have hx64 : x < 18446744073709551616:=by
     have:=pow_le59 (show 59 - L ≤ 59 by omega)
     omega
   have hy64 : y < 576460752303423489:=by
     have:=pow_le59 (show 59 - L ≤ 59 by omega)
     omega
   by_cases hlt : x < y
   · have hL58 : L ≤ 58:=by
       rcases Nat.lt_or_ge 58 L with h | h
       · have : 59 - L = 0:=by omega
         rw [this] at hy
         simp at hy
         omega
       · exact h
     have hy2 : y / 2 < 2 ^ (59 - (L + 1)):=by
       have : 59 - L = 59 - (L + 1) + 1:=by omega
       rw [this,Nat.pow_succ] at hy
       omega
     have HY2:=Lib.hid hy2
     have hands:=and_one x hx64
     have handt:=and_one y (by omega)
     have hcv:=HC.out
     have hshx : IntKind.u64.wrap ((x : Int) / 2) = ((x / 2 : Nat) : Int):=by rw [IntKind.wrap_u64]; omega
     clear hy hy2 hxy
     rcases Nat.mod_two_eq_zero_or_one x with ho | ho
     · rcases Nat.mod_two_eq_zero_or_one y with he | he
       · rw [ho] at hands
         rw [he] at handt
         rw [cv_ee hlt ho he] at hcv
         have HC2:=Lib.hid hcv; clear hcv
         go_wp2_with (at_builtin; refine wpList_append_own_at _ rfl (.tmp 54) (.tmp 58) 256 rfl w.heap.size 46 i0 _ 2 16 Tryz.underlying256 hi0 hz0 hz1 hz2 rfl (by decide) _ _ _ rfl (HS.out.o5.alloc _) ⟨wr.heap.size,0,none⟩ 1 1 (pcells [(L,y)]) rfl rfl (news_p _ (by simp) L y) (one_cells _) hm5 hn5' (le_alloc HS.out.le _) ?_; intro v1' w1 hown' hg' _ hat'; rw [← pcells_append] at hown'; obtain ⟨a1,c1,hv',_⟩:=PRow.own hown'; subst hv'; have hh:=HS.out.held (.inr rfl) hg'; obtain ⟨d4,g4,d5,g5⟩:=hh; have HST1:=Lib.hid (HS.out.step5 hown' hg' hat'); clear hown' hg' hat')
         refine ⟨⟨L + 1,x / 2,(y - 1) / 2,_,_,n4,n5 + 1,xs,ys ++ [(L,y)],congrArg (Value.int .u64) (by omega),congrArg (Value.int .u64) (by omega),congrArg (Value.int .i64) (by omega),by omega,by omega,by have:=HY2.out; omega,by omega,by omega,HST1.out,?_⟩,by simp [intOf]; omega⟩
         rw [← HC2.out]; simp
       · rw [ho] at hands
         rw [he] at handt
         rw [cv_eo hlt ho he] at hcv
         have HC2:=Lib.hid hcv; clear hcv
         go_wp2
         refine ⟨⟨L + 1,x / 2,y / 2,_,_,n4,n5,xs,ys,congrArg (Value.int .u64) (by omega),congrArg (Value.int .u64) (by omega),congrArg (Value.int .i64) (by omega),by omega,by omega,by have:=HY2.out; omega,by omega,by omega,HS.out,?_⟩,by simp [intOf]; omega⟩
         rw [← HC2.out]
     · rcases Nat.mod_two_eq_zero_or_one y with he | he
       · rw [ho] at hands
         rw [he] at handt
         by_cases hle : x + 1 ≤ y - 1
         · rw [cv_oe hlt ho he hle] at hcv
           have HC2:=Lib.hid hcv; clear hcv
           go_wp2_with (first | (at_builtin; refine wpList_append_own_at _ rfl (.tmp 43) (.tmp 47) 256 rfl w.heap.size 46 i0 _ 2 16 Tryz.underlying256 hi0 hz0 hz1 hz2 rfl (by decide) _ _ _ rfl (HS.out.o4.alloc _) ⟨wr.heap.size,0,none⟩ 1 1 (pcells [(L,x)]) rfl rfl (news_p _ (by simp) L x) (one_cells _) hm4 hn4' (le_alloc HS.out.le _) ?_; intro v1' w1 hown' hg' _ hat'; rw [← pcells_append] at hown'; obtain ⟨a1,c1,hv',_⟩:=PRow.own hown'; subst hv'; have hh:=HS.out.held (.inl rfl) hg'; obtain ⟨d4,g4,d5,g5⟩:=hh; have HST1:=Lib.hid (HS.out.step4 hown' hg' hat'); clear hown' hg' hat') | (at_builtin; refine wpList_append_own_at _ rfl (.tmp 54) (.tmp 58) 256 rfl w.heap.size 46 i0 _ 2 16 Tryz.underlying256 hi0 hz0 hz1 hz2 rfl (by decide) _ _ _ rfl (HST1.out.o5.alloc _) ⟨w1.heap.size,0,none⟩ 1 1 (pcells [(L,y)]) rfl rfl (news_p _ (by simp) L y) (one_cells _) hm5 hn5' (le_alloc HST1.out.le _) ?_; intro v2' w2 hown' hg' _ hat'; rw [← pcells_append] at hown'; obtain ⟨a2,c2,hv',_⟩:=PRow.own hown'; subst hv'; have hh:=HST1.out.held (.inr rfl) hg'; obtain ⟨d4,g4,d5,g5⟩:=hh; have HST2:=Lib.hid (HST1.out.step5 hown' hg' hat'); clear hown' hg' hat'))
           refine ⟨⟨L + 1,(x + 1) / 2,(y - 1) / 2,_,_,n4 + 1,n5 + 1,xs ++ [(L,x)],ys ++ [(L,y)],congrArg (Value.int .u64) (by omega),congrArg (Value.int .u64) (by omega),congrArg (Value.int .i64) (by omega),by omega,by omega,by have:=HY2.out; omega,by omega,by omega,HST2.out,?_⟩,by simp [intOf]; omega⟩
           rw [← HC2.out]; simp
         · rw [cv_on hlt ho he hle] at hcv
           have HC2:=Lib.hid (show (xs ++ [(L,x)]) ++ (ys ++ [(L,y)]).reverse = cv 0 lo hi by rw [← hcv]; simp); clear hcv
           go_wp2_with (first | (at_builtin; refine wpList_append_own_at _ rfl (.tmp 43) (.tmp 47) 256 rfl w.heap.size 46 i0 _ 2 16 Tryz.underlying256 hi0 hz0 hz1 hz2 rfl (by decide) _ _ _ rfl (HS.out.o4.alloc _) ⟨wr.heap.size,0,none⟩ 1 1 (pcells [(L,x)]) rfl rfl (news_p _ (by simp) L x) (one_cells _) hm4 hn4' (le_alloc HS.out.le _) ?_; intro v1' w1 hown' hg' _ hat'; rw [← pcells_append] at hown'; obtain ⟨a1,c1,hv',_⟩:=PRow.own hown'; subst hv'; have hh:=HS.out.held (.inl rfl) hg'; obtain ⟨d4,g4,d5,g5⟩:=hh; have HST1:=Lib.hid (HS.out.step4 hown' hg' hat'); clear hown' hg' hat') | (at_builtin; refine wpList_append_own_at _ rfl (.tmp 54) (.tmp 58) 256 rfl w.heap.size 46 i0 _ 2 16 Tryz.underlying256 hi0 hz0 hz1 hz2 rfl (by decide) _ _ _ rfl (HST1.out.o5.alloc _) ⟨w1.heap.size,0,none⟩ 1 1 (pcells [(L,y)]) rfl rfl (news_p _ (by simp) L y) (one_cells _) hm5 hn5' (le_alloc HST1.out.le _) ?_; intro v2' w2 hown' hg' _ hat'; rw [← pcells_append] at hown'; obtain ⟨a2,c2,hv',_⟩:=PRow.own hown'; subst hv'; have hh:=HST1.out.held (.inr rfl) hg'; obtain ⟨d4,g4,d5,g5⟩:=hh; have HST2:=Lib.hid (HST1.out.step5 hown' hg' hat'); clear hown' hg' hat'))
           rw [setCell_one_self HST2.out.h4]
           refine leaves_cons (f:=209) (args:=#[.pointer (some ⟨w.heap.size + 1,0,none⟩),.pointer (some ⟨w.heap.size,0,none⟩)]) (by simp) (by simp [go_sem]) ?_
           refine (clos_any HST2.out (by omega) (by omega)).mono ?_
           rintro e u' w' ⟨rfl,rfl,v',hh4,ho,hb⟩
           rw [HC2.out] at ho
           obtain ⟨av,cc,rfl,hcov⟩:=cov_good HF.out rfl ho hb
           have cf:=cell_of_one hh4
           exact ⟨_,by simp [results,Tryz.results175,go_sem,cf],hcov⟩
       · rw [ho] at hands
         rw [he] at handt
         rw [cv_oo hlt ho he] at hcv
         have HC2:=Lib.hid hcv; clear hcv
         go_wp2_with (at_builtin; refine wpList_append_own_at _ rfl (.tmp 43) (.tmp 47) 256 rfl w.heap.size 46 i0 _ 2 16 Tryz.underlying256 hi0 hz0 hz1 hz2 rfl (by decide) _ _ _ rfl (HS.out.o4.alloc _) ⟨wr.heap.size,0,none⟩ 1 1 (pcells [(L,x)]) rfl rfl (news_p _ (by simp) L x) (one_cells _) hm4 hn4' (le_alloc HS.out.le _) ?_; intro v1' w1 hown' hg' _ hat'; rw [← pcells_append] at hown'; obtain ⟨a1,c1,hv',_⟩:=PRow.own hown'; subst hv'; have hh:=HS.out.held (.inl rfl) hg'; obtain ⟨d4,g4,d5,g5⟩:=hh; have HST1:=Lib.hid (HS.out.step4 hown' hg' hat'); clear hown' hg' hat')
         refine ⟨⟨L + 1,(x + 1) / 2,y / 2,_,_,n4 + 1,n5,xs ++ [(L,x)],ys,congrArg (Value.int .u64) (by omega),congrArg (Value.int .u64) (by omega),congrArg (Value.int .i64) (by omega),by omega,by omega,by have:=HY2.out; omega,by omega,by omega,HST1.out,?_⟩,by simp [intOf]; omega⟩
         rw [← HC2.out]; simp
   · obtain rfl : x = y:=by omega
     have hcv:=HC.out
     rw [cv_eq] at hcv
     have HC2:=Lib.hid hcv; clear hcv
     go_wp2_with (at_builtin; refine wpList_append_own_at _ rfl (.tmp 33) (.tmp 37) 256 rfl w.heap.size 46 i0 _ 2 16 Tryz.underlying256 hi0 hz0 hz1 hz2 rfl (by decide) _ _ _ rfl (HS.out.o4.alloc _) ⟨wr.heap.size,0,none⟩ 1 1 (pcells [(L,x)]) rfl rfl (news_p _ (by simp) L x) (one_cells _) hm4 hn4' (le_alloc HS.out.le _) ?_; intro v1' w1 hown' hg' _ hat'; rw [← pcells_append] at hown'; obtain ⟨a1,c1,hv',_⟩:=PRow.own hown'; subst hv'; have hh:=HS.out.held (.inl rfl) hg'; obtain ⟨d4,g4,d5,g5⟩:=hh; have HST1:=Lib.hid (HS.out.step4 hown' hg' hat'); clear hown' hg' hat')
     rw [setCell_one_self HST1.out.h4]
     refine leaves_cons (f:=209) (args:=#[.pointer (some ⟨w.heap.size + 1,0,none⟩),.pointer (some ⟨w.heap.size,0,none⟩)]) (by simp) (by simp [go_sem]) ?_
     refine (clos_any HST1.out (by omega) (by omega)).mono ?_
     rintro e u' w' ⟨rfl,rfl,v',hh4,ho,hb⟩
     rw [HC2.out] at ho
     obtain ⟨av,cc,rfl,hcov⟩:=cov_good HF.out rfl ho hb
     have cf:=cell_of_one hh4
     exact ⟨_,by simp [results,Tryz.results175,go_sem,cf],hcov⟩
end Go.Proofs.YtejaocnhekjfiaaGreatDoor.S14
namespace Go.Proofs.YtejaocnhekjfiaaGreatDoor
open Go.RowKit Go.Shelf
set_option linter.unusedVariables false
attribute [local go_sem] Oper.semAt_some
open S14 (PRow)
def encP (p : Nat × Nat) : Array Value:=#[.agg #[.int .i64 p.1,.int .u64 p.2]]
set_option maxRecDepth 100000 in
set_option maxHeartbeats 1000000 in
theorem values177 (v : Value) (ad : Option Addr) (n c : Nat) (hv : v = .slice ad n c) (w : World) : Calls Tryz.prog 177 #[v] w fun e w' => e = .returned (.func (.func 211) #[] #[.pointer (some ⟨w.heap.size,0,none⟩)]) ∧ w' = w.alloc (.cells #[v] 256):=by
 subst hv
 go_enter Tryz.func177,Tryz.ntmps177
 go_wp2_with fail
 go_ret
 exact ⟨rfl,rfl⟩
set_option maxRecDepth 100000 in
set_option maxHeartbeats 2000000 in
theorem values_seq (n b n₀ : Nat) (xs : List (Nat × Nat)) (ad : Option Addr) (cap : Nat) (w : World) (hb : Boxed w b 256 (.slice ad xs.length cap)) (hr : PRow w ad xs.length xs) (hg : ∀ g,ad = some ⟨g,0,none⟩ → g < n₀ ∨ xs = []) (hx : xs.length ≤ 65535) (hn : n₀ ≤ w.heap.size) :
   SeqB Fence.wide n Tryz.prog 211 #[.pointer (some ⟨b,0,none⟩)] encP (Below n₀) b xs w:=fun l J W hW hJ hY hJ0 => by
 have g0 : Boxed W b 256 (.slice ad xs.length cap):=(hW.block _ hb.lt).trans hb
 have g1 : PRow W ad xs.length xs:=hr.below hW
 have hn : n₀ ≤ W.heap.size:=Nat.le_trans hn hW.size
 have d0:=g0.cell
 clear hb hr hW
 generalize hlen : xs.length = len at *
 have HLN:=Lib.hid hlen
 clear hlen
 refine callsIn_of_wp Tryz.func211 rfl trivial ?_ rfl
 simp only [Tryz.ntmps211,List.size_toArray,List.length_cons,List.length_nil,Nat.reduceAdd,Nat.reduceSub,Array.replicate_succ,Array.replicate_zero,List.push_toArray,List.append_toArray,List.nil_append,List.cons_append]
 gi_wp2
 gi_loopw [7] (fun u wr => ∃ k : Nat,k ≤ len ∧ u = .int .i64 k ∧ J k wr ∧ Below n₀ W wr) (fun u _ => len - (intOf u).toNat)
 case atStart => exact ⟨0,by omega,rfl,hJ0,Below.refl _ _⟩
 case round =>
   obtain ⟨k,hk,rfl,hJk,hB⟩:=hrel
   clear d0
   by_cases hlt : k < len
   · obtain ⟨p,hp⟩ : ∃ p,xs[k]? = some p:=⟨xs[k]'(by rw [HLN.out]; exact hlt),List.getElem?_eq_getElem _⟩
     obtain ⟨g,rfl,c0,c1⟩:=g1.cells hp
     have hgl : g < n₀:=(hg g rfl).resolve_right (fun e => by rw [e] at hp; cases hp)
     have hkI : (k : Int) < len:=by omega
     have e0 : wr.cell? ⟨g,k * 2,none⟩ = some (.int .i64 p.1):=(hB.cell (p:=⟨g,k * 2,none⟩) hgl).trans c0
     have e1 : wr.cell? ⟨g,k * 2 + 1,none⟩ = some (.int .u64 p.2):=(hB.cell (p:=⟨g,k * 2 + 1,none⟩) hgl).trans c1
     clear c0 c1 g0 g1
     have hY1:=hY k p (wr.alloc (.cells #[.int .i64 p.1,.int .u64 p.2] 46)) hp (hJ.alloc _ hJk)
     obtain ⟨fn,tmps,assign,body,hy,hR⟩:=hY1
     unfold encP at hy
     gi_wp2
     refine ⟨fun h => (by cases h),hR.mono ?_⟩
     rintro e W3 ⟨rfl,hJ3,hb3⟩
     have hbw : n₀ ≤ wr.heap.size:=Nat.le_trans hn hB.size
     gi_wp2
     go_roundw
     case rel => exact ⟨k + 1,by omega,by go_num,hJ3,hB.trans (((Below.refl n₀ wr).alloc hbw _).trans hb3)⟩
     case measure => simp [intOf]; omega
   · obtain rfl : k = len:=by omega
     have hf : ¬ ((k : Int) < k):=by omega
     gi_wp2
     go_end0
     exact ⟨⟨_,rfl⟩,hJk⟩
end Go.Proofs.YtejaocnhekjfiaaGreatDoor
