/- Walks and plain laws, part 10: Ag5 Ag10 Sg Wd1 S02Long S02Arr S02Lofi S02Lof S02Leq. -/
import Derived.Test.YtejaocnhekjfiaaGreatDoorK01
import Derived.Test.YtejaocnhekjfiaaGreatDoorK02
import Derived.Test.YtejaocnhekjfiaaGreatDoorK07
import Derived.Test.YtejaocnhekjfiaaGreatDoorK09
import Derived.Deep.DeepCutAuto
import Derived.Deep.MidRow
import Derived.WalkKit
import Derived.Test.YtejaocnhekjfiaaGreatDoorRows
import Derived.Deep.QuietTactic
import Derived.BigQuiet
import Derived.Laws.StructEq
namespace Go.Proofs.YtejaocnhekjfiaaGreatDoor
open Go.RowKit
set_option linter.unusedVariables false
theorem RegS.below {w w' : World} {x y p q} (h : RegS w x y p q) (hb : Below w.heap.size w w') : RegS w' x y p q:=h.upd (S:=fun _ => False) id id (Upd.of_below hb)
theorem RegS.s0 {w x y p q} (h : RegS w x y p q) : w.cell? ⟨x,1,none⟩ = some (.pointer none):=(cell_of_row _ _ _ _ _ _ h.a).trans rfl
theorem RegS.two {w x y p q b} {h l : Int} (t : RegS w x y p q) (z : PAt w b h l) (u v : Value) : RegS ((w.setCell ⟨b,0,none⟩ u).setCell ⟨b,1,none⟩ v) x y p q:=by
 have hx : x ≠ b:=by rintro rfl; have:=t.a; rw [z] at this; simp at this
 have hy : y ≠ b:=by rintro rfl; have:=t.b; rw [z] at this; simp at this
 exact ⟨two_other t.a hx,two_other t.b hy⟩
def InnC (b : Nat) (w : World) (h l : Int) (s10 s11 : Value) (wx : World) : Prop:=∃ q : Nat,s10 = .pointer (some ⟨q,0,none⟩) ∧ s11 = .int .i64 0 ∧ PAt wx q h l ∧ Below b w wx
theorem mk_lo {w w' : World} {b : Nat} (h : Below w.heap.size w w') (hb : b = w'.heap.size) : w.heap.size ≤ b:=hb ▸ h.size
theorem mk_pat {w w' : World} {b : Nat} (h : Below w.heap.size w w') (hb : b = w'.heap.size) : PAt (w'.alloc (.cells #[.int .i64 0,.int .u64 0] 148)) b 0 0:=PAt.new _ 0 0 hb
set_option maxRecDepth 100000 in
set_option maxHeartbeats 8000000 in
theorem pair_inner {w : World} {base a m : Nat} {c : Cfg} {S : List SI} (h : AggIs w base a m c S) {i j : Nat} {s t : SI} (hs : S[i]? = some s) (ht : S[j]? = some t)
   (hm : c.mode = 1) {xs ys : List Int} (hx : s.C[0]? = some xs) (hy : t.C[0]? = some ys) (i1 : S02.In64 xs) (i2 : S02.In64 ys) (hf : InnFits c 0 xs ys) :
   Calls Tryz.prog 55 #[.pointer (some ⟨a,0,none⟩),pairW ⟨#[105,110,110,101,114]⟩ i j] w fun e w' => e = .returned (.tuple #[.iface 150 (.agg #[.int .i64 (S02.hiOf (innL c 0 xs ys)),.int .u64 (S02.loOf (innL c 0 xs ys))]),.int .i64 0]) ∧ AggIs w' base a m c S ∧ Below w.heap.size w w':=by
 have hb1:=(Below.refl w.heap.size w).alloc (Nat.le_refl _) (.cells #[.string ⟨#[105,110,110,101,114]⟩,.int .i64 ((i : Int) + 1),.int .i64 ((j : Int) + 1)] 130)
 have hbx:=heap_alloc_new w (.cells #[.string ⟨#[105,110,110,101,114]⟩,.int .i64 ((i : Int) + 1),.int .i64 ((j : Int) + 1)] 130)
 have hA:=h.keep hb1
 generalize hW : w.alloc (.cells #[.string ⟨#[105,110,110,101,114]⟩,.int .i64 ((i : Int) + 1),.int .i64 ((j : Int) + 1)] 130) = W1 at hb1 hbx hA
 have HW:=Lib.hid hW
 have hc0:=hA.c0
 have d0 : W1.cell? ⟨w.heap.size,0,none⟩ = some (.string ⟨#[105,110,110,101,114]⟩):=(cell_of_row _ _ _ _ _ _ hbx).trans rfl
 have d1 : W1.cell? ⟨w.heap.size,1,none⟩ = some (.int .i64 ((i : Int) + 1)):=(cell_of_row _ _ _ _ _ _ hbx).trans rfl
 have d2 : W1.cell? ⟨w.heap.size,2,none⟩ = some (.int .i64 ((j : Int) + 1)):=(cell_of_row _ _ _ _ _ _ hbx).trans rfl
 have hsp : (S.map SI.p)[i]? = some s.p:=by rw [List.getElem?_map,hs]; rfl
 have htp : (S.map SI.p)[j]? = some t.p:=by rw [List.getElem?_map,ht]; rfl
 have hlook:=fun (w' : World) (hw : w'.heap[m]? = some (.map (ents (S.map SI.p)) S.length)) => look_yes hw hsp
 have klook:=fun (w' : World) (hw : w'.heap[m]? = some (.map (ents (S.map SI.p)) S.length)) => look_yes hw htp
 unfold thingV at hlook klook
 have hmm:=hA.map
 have hm1 : ((W1.alloc (.cells #[.pointer none,.pointer none] 114)).drew).heap[m]? = some (.map (ents (S.map SI.p)) S.length):=(Below.heap_alloc _ _ _ (lt_of_block hmm)).trans hmm
 have l1:=hlook W1.drew hmm
 have l2:=hlook (W1.alloc (.cells #[.pointer none,.pointer none] 114)).drew hm1
 have hb2:=((Below.refl W1.heap.size W1).alloc (Nat.le_refl _) (.cells #[.pointer (some ⟨s.p,0,none⟩),.pointer none] 114)).drew
 have hbm : ((W1.alloc (.cells #[.pointer (some ⟨s.p,0,none⟩),.pointer none] 114)).drew).heap[W1.heap.size]? = some (.cells #[.pointer (some ⟨s.p,0,none⟩),.pointer none] 114 (0,0)):=heap_alloc_new W1 (.cells #[.pointer (some ⟨s.p,0,none⟩),.pointer none] 114)
 have hc0':=fun o => cell_make hc0 o
 have d1':=fun o => cell_make d1 o
 have hKI:=fun (w' : World) (hbw : Below W1.heap.size W1 w') => stinner_ok ((hA.st i s hs).below hbw) ((hA.st j t ht).below hbw) hm hx hy i1 i2 hf
 unfold S02.W at hKI
 generalize S02.hiOf (innL c 0 xs ys) = hh at *
 generalize S02.loOf (innL c 0 xs ys) = ll at *
 have KI:=Lib.hid hKI
 have HA:=Lib.hid hA
 have HB1:=Lib.hid hb1
 have HX:=Lib.hid hbx
 have HKL:=Lib.hid klook
 have HB2:=Lib.hid hb2
 have HBM:=Lib.hid hbm
 have DD:=Lib.hid (And.intro d0 d2)
 clear hlook klook hmm hm1 h hs ht hb1 hbx hA hsp htp hb2 hbm d0 d2 hKI hm hx hy i1 i2 hf
 unfold pairW
 go_enter Tryz.func55,Tryz.ntmps55
 go_wp2_with fail
 clear hW
 go_cut [6,7] (fun s6 s7 wx => s6 = .pointer (some ⟨W1.heap.size,0,none⟩) ∧ s7 = .bool true ∧ wx = (W1.alloc (.cells #[.pointer (some ⟨s.p,0,none⟩),.pointer none] 114)).drew)
 case first =>
   go_region
   all_goals go_wp2_with fail
   all_goals go_meet
   all_goals exact ⟨rfl,rfl,rfl⟩
 case rest =>
   obtain ⟨rfl,rfl,hwc⟩:=hcut
   clear l1 l2 hc0 hc0' d1 d1'
   have hA2:=HA.out.keep HB2.out
   have hc0:=hA2.c0
   have d0:=((HB2.out).cell (p:=⟨w.heap.size,0,none⟩) (lt_of_block HX.out)).trans DD.out.1
   have d2:=((HB2.out).cell (p:=⟨w.heap.size,2,none⟩) (lt_of_block HX.out)).trans DD.out.2
   have e0 : ((W1.alloc (.cells #[.pointer (some ⟨s.p,0,none⟩),.pointer none] 114)).drew).cell? ⟨W1.heap.size,0,none⟩ = some (.pointer (some ⟨s.p,0,none⟩)):=(cell_of_row _ _ _ _ _ _ HBM.out).trans rfl
   have e1 : ((W1.alloc (.cells #[.pointer (some ⟨s.p,0,none⟩),.pointer none] 114)).drew).cell? ⟨W1.heap.size,1,none⟩ = some (.pointer none):=(cell_of_row _ _ _ _ _ _ HBM.out).trans rfl
   have hmm:=hA2.map
   have HA2:=Lib.hid hA2
   clear hA2
   rw [← hwc] at hc0 d0 d2 e0 e1 hmm HA2 HBM HB2
   clear hwc
   obtain ⟨V2,hV2⟩ : ∃ x : World,x = wc:=⟨_,rfl⟩
   subst hV2
   have l1:=HKL.out V2.drew hmm
   have l2:=HKL.out (V2.alloc (.cells #[.pointer none,.pointer none] 114)).drew ((Below.heap_alloc _ _ _ (lt_of_block hmm)).trans hmm)
   have hc0':=fun o => cell_make hc0 o
   have d0':=fun o => cell_make d0 o
   have d2':=fun o => cell_make d2 o
   clear hmm
   go_upto_region 2 with fail
   go_cut [8,9] (fun s8 s9 wx => s8 = .pointer (some ⟨V2.heap.size,0,none⟩) ∧ s9 = .bool true ∧ wx = (V2.alloc (.cells #[.pointer (some ⟨t.p,0,none⟩),.pointer none] 114)).drew)
   case first =>
     go_region
     all_goals go_wp2_with fail
     all_goals go_meet
     all_goals exact ⟨rfl,rfl,rfl⟩
   case rest =>
     obtain ⟨rfl,rfl,hwd⟩:=hcut
     have x0:=d0' (.cells #[.pointer (some ⟨t.p,0,none⟩),.pointer none] 114)
     have hb3:=((HB2.out).alloc (HB2.out).size (.cells #[.pointer (some ⟨t.p,0,none⟩),.pointer none] 114)).drew
     have hbt : ((V2.alloc (.cells #[.pointer (some ⟨t.p,0,none⟩),.pointer none] 114)).drew).heap[V2.heap.size]? = some (.cells #[.pointer (some ⟨t.p,0,none⟩),.pointer none] 114 (0,0)):=heap_alloc_new V2 (.cells #[.pointer (some ⟨t.p,0,none⟩),.pointer none] 114)
     have hbm2 : ((V2.alloc (.cells #[.pointer (some ⟨t.p,0,none⟩),.pointer none] 114)).drew).heap[W1.heap.size]? = some (.cells #[.pointer (some ⟨s.p,0,none⟩),.pointer none] 114 (0,0)):=(Below.heap_alloc V2 (.cells #[.pointer (some ⟨t.p,0,none⟩),.pointer none] 114) _ (lt_of_block HBM.out)).trans HBM.out
     have x1 : ((V2.alloc (.cells #[.pointer (some ⟨t.p,0,none⟩),.pointer none] 114)).drew).cell? ⟨w.heap.size,0,none⟩ = some (.string ⟨#[105,110,110,101,114]⟩):=x0
     rw [← hwd] at hb3 hbt hbm2 x1
     clear x0 l1 l2 hc0 hc0' d0 d0' d2 d2' e0 e1 hwd
     obtain ⟨X,hX⟩ : ∃ x : World,x = wc:=⟨_,rfl⟩
     subst hX
     have T:=Lib.hid (show RegS X W1.heap.size V2.heap.size s.p t.p from ⟨hbm2,hbt⟩)
     have B:=Lib.hid hb3
     clear hb3 hbt hbm2
     go_upto_region 6 with fail
     go_cut [10,11] (fun s10 s11 wx => InnC W1.heap.size W1 hh ll s10 s11 wx)
     case first =>
       have T:=Lib.hid (show RegS X.drew W1.heap.size V2.heap.size s.p t.p from ⟨T.out.a,T.out.b⟩)
       have B:=Lib.hid B.out.drew
       refine wp_region_held (S:=fun w' => RegS w' W1.heap.size V2.heap.size s.p t.p) (by kernel_rfl) ?_
       refine wpAnyH_take (i:=0) (oi:=⟨_,_,_,_,_,_⟩) (v:=?vv0) rfl (by kernel_rfl) (by kernel_rfl) (by kernel_rfl) (fun _ _ _ h => h) (Or.inl ⟨by rfl,?yy0⟩) T.out ?_
       case yy0 => (intro w' hw'; have c0:=(hw'.c0 : _); have c1:=(hw'.s0 : _); have c2:=(hw'.t0 : _); have c3:=(hw'.t1 : _); go_simp; try with_reducible rfl)
       try simp only [Act.put,List.setIfInBounds_toArray,List.set_cons_zero,List.set_cons_succ]
       refine wpAnyH_take (i:=2) (oi:=⟨_,_,_,_,_,_⟩) (v:=?vv2) rfl (by kernel_rfl) (by kernel_rfl) (by kernel_rfl) (fun _ _ _ h => h) (Or.inl ⟨by rfl,?yy2⟩) T.out ?_
       case yy2 => (intro w' hw'; have c0:=(hw'.c0 : _); have c1:=(hw'.s0 : _); have c2:=(hw'.t0 : _); have c3:=(hw'.t1 : _); go_simp; try with_reducible rfl)
       try simp only [Act.put,List.setIfInBounds_toArray,List.set_cons_zero,List.set_cons_succ]
       refine wpAnyH_ready (rs:=[1,8]) (by kernel_rfl) (by simp) ?_
       refine AllReadyH.cons (o:=⟨_,_,_,_,_,_⟩) rfl (fun K hK => ?_) (AllReadyH.cons (o:=⟨_,_,_,_,_,_⟩) rfl (fun K hK => ?_) (AllReadyH.nil))
       · go_simp
         refine (tstack_any s.p _).mono ?_
         rintro e w2 ⟨rfl,rfl⟩
         have T:=Lib.hid (T.out.make (.cells #[.pointer (some ⟨s.p,0,none⟩),.pointer none] 114))
         have B:=Lib.hid (B.out.alloc B.out.size (.cells #[.pointer (some ⟨s.p,0,none⟩),.pointer none] 114))
         refine hK.out _ _ T.out (fun hHeld => ?_)
         clear hK K hHeld
         try simp only [Act.put,List.setIfInBounds_toArray,List.set_cons_zero,List.set_cons_succ]
         refine wpAnyH_ready (rs:=[3,8]) (by kernel_rfl) (by simp) ?_
         refine AllReadyH.cons (o:=⟨_,_,_,_,_,_⟩) rfl (fun K hK => ?_) (AllReadyH.cons (o:=⟨_,_,_,_,_,_⟩) rfl (fun K hK => ?_) (AllReadyH.nil))
         · go_simp
           refine (tstack_any t.p _).mono ?_
           rintro e w2 ⟨rfl,rfl⟩
           have T:=Lib.hid (T.out.make (.cells #[.pointer (some ⟨t.p,0,none⟩),.pointer none] 114))
           have B:=Lib.hid (B.out.alloc B.out.size (.cells #[.pointer (some ⟨t.p,0,none⟩),.pointer none] 114))
           refine hK.out _ _ T.out (fun hHeld => ?_)
           clear hK K hHeld
           try simp only [Act.put,List.setIfInBounds_toArray,List.set_cons_zero,List.set_cons_succ]
           refine wpAnyH_ready (rs:=[4,8]) (by kernel_rfl) (by simp) ?_
           refine AllReadyH.cons (o:=⟨_,_,_,_,_,_⟩) rfl (fun K hK => ?_) (AllReadyH.cons (o:=⟨_,_,_,_,_,_⟩) rfl (fun K hK => ?_) (AllReadyH.nil))
           · go_simp
             refine (KI.out _ B.out).mono ?_
             rintro e w5 ⟨rfl,hb5⟩
             have T:=Lib.hid (T.out.below hb5)
             have B:=Lib.hid (B.out.then hb5)
             clear hb5
             refine hK.out _ _ T.out (fun hHeld => ?_)
             clear hK K hHeld
             try simp only [Act.put,List.setIfInBounds_toArray,List.set_cons_zero,List.set_cons_succ]
             refine wpAnyH_take (i:=5) (oi:=⟨_,_,_,_,_,_⟩) (v:=?vv5_4) rfl (by kernel_rfl) (by kernel_rfl) (by kernel_rfl) (fun _ _ _ h => h) (Or.inl ⟨by rfl,?yy5_4⟩) T.out ?_
             case yy5_4 => (intro w' hw'; go_simp; try with_reducible rfl)
             try simp only [Act.put,List.setIfInBounds_toArray,List.set_cons_zero,List.set_cons_succ]
             refine wpAnyH_take (i:=6) (oi:=⟨_,_,_,_,_,_⟩) (v:=?vv6_5) rfl (by kernel_rfl) (by kernel_rfl) (by kernel_rfl) (fun _ _ _ h => h) (Or.inl ⟨by rfl,?yy6_5⟩) T.out ?_
             case yy6_5 => (intro w' hw'; go_simp; try with_reducible rfl)
             try simp only [Act.put,List.setIfInBounds_toArray,List.set_cons_zero,List.set_cons_succ]
             refine wpAnyH_take (i:=7) (oi:=⟨_,_,_,_,_,_⟩) (v:=?vv7_6) rfl (by kernel_rfl) (by kernel_rfl) (by kernel_rfl) (fun _ _ _ h => h) (Or.inl ⟨by rfl,?yy7_6⟩) T.out ?_
             case yy7_6 => (intro w' hw'; go_simp; try with_reducible rfl)
             try simp only [Act.put,List.setIfInBounds_toArray,List.set_cons_zero,List.set_cons_succ]
             refine wpAnyH_ready (rs:=[8]) (by kernel_rfl) (by simp) ?_
             refine AllReadyH.cons (o:=⟨_,_,_,_,_,_⟩) rfl (fun K hK => ?_) (AllReadyH.nil)
             · go_simp
               have T0:=T
               have B0:=B
               have T:=Lib.hid (T.out.make (.cells #[.int .i64 0,.int .u64 0] 148))
               refine hK.out _ _ T.out (fun hHeld => ?_)
               clear hK K hHeld
               try simp only [Act.put,List.setIfInBounds_toArray,List.set_cons_zero,List.set_cons_succ]
               refine wpAnyH_ready (rs:=[9]) (by kernel_rfl) (by simp) ?_
               refine AllReadyH.cons (o:=⟨_,_,_,_,_,_⟩) rfl (fun K hK => ?_) AllReadyH.nil
               go_simp
               refine hK.out _ _ (T0.out.make _) (fun hHeld => ?_)
               clear hK K hHeld
               try simp only [Act.put,List.setIfInBounds_toArray,List.set_cons_zero,List.set_cons_succ]
               refine wpAnyH_ready (rs:=[10]) (by kernel_rfl) (by simp) ?_
               refine AllReadyH.cons (o:=⟨_,_,_,_,_,_⟩) rfl (fun K hK => ?_) AllReadyH.nil
               go_simp
               refine hK.out _ _ (T0.out.make _) (fun hHeld => ?_)
               clear hK K hHeld
               try simp only [Act.put,List.setIfInBounds_toArray,List.set_cons_zero,List.set_cons_succ]
               refine wpAnyH_done (by kernel_rfl) ?_ _
               go_wp2_with fail
               go_meet
               exact ⟨_,rfl,rfl,PAt.new _ _ _ rfl,B0.out.alloc B0.out.size _⟩
           · go_simp
             have T:=Lib.hid (T.out.make (.cells #[.int .i64 0,.int .u64 0] 148))
             refine hK.out _ _ T.out (fun hHeld => ?_)
             have ZL:=Lib.hid (mk_lo (b:=X.heap.size + 1 + 1) B.out (by simp))
             have Z:=Lib.hid (mk_pat (b:=X.heap.size + 1 + 1) B.out (by simp))
             have B:=Lib.hid (B.out.alloc B.out.size (.cells #[.int .i64 0,.int .u64 0] 148))
             clear hK K hHeld
             try simp only [Act.put,List.setIfInBounds_toArray,List.set_cons_zero,List.set_cons_succ]
             refine wpAnyH_ready (rs:=[4]) (by kernel_rfl) (by simp) ?_
             refine AllReadyH.cons (o:=⟨_,_,_,_,_,_⟩) rfl (fun K hK => ?_) (AllReadyH.nil)
             · go_simp
               refine (KI.out _ B.out).mono ?_
               rintro e w5 ⟨rfl,hb5⟩
               have T:=Lib.hid (T.out.below hb5)
               have Z:=Lib.hid (Z.out.below hb5)
               have B:=Lib.hid (B.out.then hb5)
               clear hb5
               refine hK.out _ _ T.out (fun hHeld => ?_)
               clear hK K hHeld
               try simp only [Act.put,List.setIfInBounds_toArray,List.set_cons_zero,List.set_cons_succ]
               refine wpAnyH_take (i:=5) (oi:=⟨_,_,_,_,_,_⟩) (v:=?vv5_10) rfl (by kernel_rfl) (by kernel_rfl) (by kernel_rfl) (fun _ _ _ h => h) (Or.inl ⟨by rfl,?yy5_10⟩) T.out ?_
               case yy5_10 => (intro w' hw'; go_simp; try with_reducible rfl)
               try simp only [Act.put,List.setIfInBounds_toArray,List.set_cons_zero,List.set_cons_succ]
               refine wpAnyH_take (i:=6) (oi:=⟨_,_,_,_,_,_⟩) (v:=?vv6_11) rfl (by kernel_rfl) (by kernel_rfl) (by kernel_rfl) (fun _ _ _ h => h) (Or.inl ⟨by rfl,?yy6_11⟩) T.out ?_
               case yy6_11 => (intro w' hw'; go_simp; try with_reducible rfl)
               try simp only [Act.put,List.setIfInBounds_toArray,List.set_cons_zero,List.set_cons_succ]
               refine wpAnyH_take (i:=7) (oi:=⟨_,_,_,_,_,_⟩) (v:=?vv7_12) rfl (by kernel_rfl) (by kernel_rfl) (by kernel_rfl) (fun _ _ _ h => h) (Or.inl ⟨by rfl,?yy7_12⟩) T.out ?_
               case yy7_12 => (intro w' hw'; go_simp; try with_reducible rfl)
               try simp only [Act.put,List.setIfInBounds_toArray,List.set_cons_zero,List.set_cons_succ]
               have z0:=Z.out.c0
               have z1:=Z.out.c1
               have z2:=Z.out.f 0
               have z3:=Z.out.f 1
               have TT:=Lib.hid (T.out.two Z.out (.int .i64 hh) (.int .u64 ll))
               refine wpAnyH_ready (rs:=[9]) (by kernel_rfl) (by simp) ?_
               refine AllReadyH.cons (o:=⟨_,_,_,_,_,_⟩) rfl (fun K hK => ?_) AllReadyH.nil
               go_simp
               refine hK.out _ _ TT.out (fun hHeld => ?_)
               clear hK K hHeld
               try simp only [Act.put,List.setIfInBounds_toArray,List.set_cons_zero,List.set_cons_succ]
               refine wpAnyH_ready (rs:=[10]) (by kernel_rfl) (by simp) ?_
               refine AllReadyH.cons (o:=⟨_,_,_,_,_,_⟩) rfl (fun K hK => ?_) AllReadyH.nil
               go_simp
               refine hK.out _ _ TT.out (fun hHeld => ?_)
               clear hK K hHeld
               try simp only [Act.put,List.setIfInBounds_toArray,List.set_cons_zero,List.set_cons_succ]
               refine wpAnyH_done (by kernel_rfl) ?_ _
               go_wp2_with fail
               go_meet
               exact ⟨_,rfl,rfl,two_set Z.out,(B.out.setCell ZL.out _).setCell ZL.out _⟩
         · go_simp
           have T:=Lib.hid (T.out.make (.cells #[.int .i64 0,.int .u64 0] 148))
           refine hK.out _ _ T.out (fun hHeld => ?_)
           have ZL:=Lib.hid (mk_lo (b:=X.heap.size + 1) B.out (by simp))
           have Z:=Lib.hid (mk_pat (b:=X.heap.size + 1) B.out (by simp))
           have B:=Lib.hid (B.out.alloc B.out.size (.cells #[.int .i64 0,.int .u64 0] 148))
           clear hK K hHeld
           try simp only [Act.put,List.setIfInBounds_toArray,List.set_cons_zero,List.set_cons_succ]
           refine wpAnyH_ready (rs:=[3]) (by kernel_rfl) (by simp) ?_
           refine AllReadyH.cons (o:=⟨_,_,_,_,_,_⟩) rfl (fun K hK => ?_) (AllReadyH.nil)
           · go_simp
             refine (tstack_any t.p _).mono ?_
             rintro e w2 ⟨rfl,rfl⟩
             have T:=Lib.hid (T.out.make (.cells #[.pointer (some ⟨t.p,0,none⟩),.pointer none] 114))
             have B:=Lib.hid (B.out.alloc B.out.size (.cells #[.pointer (some ⟨t.p,0,none⟩),.pointer none] 114))
             have Z:=Lib.hid (Z.out.alloc (.cells #[.pointer (some ⟨t.p,0,none⟩),.pointer none] 114))
             refine hK.out _ _ T.out (fun hHeld => ?_)
             clear hK K hHeld
             try simp only [Act.put,List.setIfInBounds_toArray,List.set_cons_zero,List.set_cons_succ]
             refine wpAnyH_ready (rs:=[4]) (by kernel_rfl) (by simp) ?_
             refine AllReadyH.cons (o:=⟨_,_,_,_,_,_⟩) rfl (fun K hK => ?_) (AllReadyH.nil)
             · go_simp
               refine (KI.out _ B.out).mono ?_
               rintro e w5 ⟨rfl,hb5⟩
               have T:=Lib.hid (T.out.below hb5)
               have Z:=Lib.hid (Z.out.below hb5)
               have B:=Lib.hid (B.out.then hb5)
               clear hb5
               refine hK.out _ _ T.out (fun hHeld => ?_)
               clear hK K hHeld
               try simp only [Act.put,List.setIfInBounds_toArray,List.set_cons_zero,List.set_cons_succ]
               refine wpAnyH_take (i:=5) (oi:=⟨_,_,_,_,_,_⟩) (v:=?vv5_16) rfl (by kernel_rfl) (by kernel_rfl) (by kernel_rfl) (fun _ _ _ h => h) (Or.inl ⟨by rfl,?yy5_16⟩) T.out ?_
               case yy5_16 => (intro w' hw'; go_simp; try with_reducible rfl)
               try simp only [Act.put,List.setIfInBounds_toArray,List.set_cons_zero,List.set_cons_succ]
               refine wpAnyH_take (i:=6) (oi:=⟨_,_,_,_,_,_⟩) (v:=?vv6_17) rfl (by kernel_rfl) (by kernel_rfl) (by kernel_rfl) (fun _ _ _ h => h) (Or.inl ⟨by rfl,?yy6_17⟩) T.out ?_
               case yy6_17 => (intro w' hw'; go_simp; try with_reducible rfl)
               try simp only [Act.put,List.setIfInBounds_toArray,List.set_cons_zero,List.set_cons_succ]
               refine wpAnyH_take (i:=7) (oi:=⟨_,_,_,_,_,_⟩) (v:=?vv7_18) rfl (by kernel_rfl) (by kernel_rfl) (by kernel_rfl) (fun _ _ _ h => h) (Or.inl ⟨by rfl,?yy7_18⟩) T.out ?_
               case yy7_18 => (intro w' hw'; go_simp; try with_reducible rfl)
               try simp only [Act.put,List.setIfInBounds_toArray,List.set_cons_zero,List.set_cons_succ]
               have z0:=Z.out.c0
               have z1:=Z.out.c1
               have z2:=Z.out.f 0
               have z3:=Z.out.f 1
               have TT:=Lib.hid (T.out.two Z.out (.int .i64 hh) (.int .u64 ll))
               refine wpAnyH_ready (rs:=[9]) (by kernel_rfl) (by simp) ?_
               refine AllReadyH.cons (o:=⟨_,_,_,_,_,_⟩) rfl (fun K hK => ?_) AllReadyH.nil
               go_simp
               refine hK.out _ _ TT.out (fun hHeld => ?_)
               clear hK K hHeld
               try simp only [Act.put,List.setIfInBounds_toArray,List.set_cons_zero,List.set_cons_succ]
               refine wpAnyH_ready (rs:=[10]) (by kernel_rfl) (by simp) ?_
               refine AllReadyH.cons (o:=⟨_,_,_,_,_,_⟩) rfl (fun K hK => ?_) AllReadyH.nil
               go_simp
               refine hK.out _ _ TT.out (fun hHeld => ?_)
               clear hK K hHeld
               try simp only [Act.put,List.setIfInBounds_toArray,List.set_cons_zero,List.set_cons_succ]
               refine wpAnyH_done (by kernel_rfl) ?_ _
               go_wp2_with fail
               go_meet
               exact ⟨_,rfl,rfl,two_set Z.out,(B.out.setCell ZL.out _).setCell ZL.out _⟩
       · go_simp
         have T:=Lib.hid (T.out.make (.cells #[.int .i64 0,.int .u64 0] 148))
         refine hK.out _ _ T.out (fun hHeld => ?_)
         have ZL:=Lib.hid (mk_lo (b:=X.heap.size) B.out (by simp))
         have Z:=Lib.hid (mk_pat (b:=X.heap.size) B.out (by simp))
         have B:=Lib.hid (B.out.alloc B.out.size (.cells #[.int .i64 0,.int .u64 0] 148))
         clear hK K hHeld
         try simp only [Act.put,List.setIfInBounds_toArray,List.set_cons_zero,List.set_cons_succ]
         refine wpAnyH_ready (rs:=[1]) (by kernel_rfl) (by simp) ?_
         refine AllReadyH.cons (o:=⟨_,_,_,_,_,_⟩) rfl (fun K hK => ?_) (AllReadyH.nil)
         · go_simp
           refine (tstack_any s.p _).mono ?_
           rintro e w2 ⟨rfl,rfl⟩
           have T:=Lib.hid (T.out.make (.cells #[.pointer (some ⟨s.p,0,none⟩),.pointer none] 114))
           have B:=Lib.hid (B.out.alloc B.out.size (.cells #[.pointer (some ⟨s.p,0,none⟩),.pointer none] 114))
           have Z:=Lib.hid (Z.out.alloc (.cells #[.pointer (some ⟨s.p,0,none⟩),.pointer none] 114))
           refine hK.out _ _ T.out (fun hHeld => ?_)
           clear hK K hHeld
           try simp only [Act.put,List.setIfInBounds_toArray,List.set_cons_zero,List.set_cons_succ]
           refine wpAnyH_ready (rs:=[3]) (by kernel_rfl) (by simp) ?_
           refine AllReadyH.cons (o:=⟨_,_,_,_,_,_⟩) rfl (fun K hK => ?_) (AllReadyH.nil)
           · go_simp
             refine (tstack_any t.p _).mono ?_
             rintro e w2 ⟨rfl,rfl⟩
             have T:=Lib.hid (T.out.make (.cells #[.pointer (some ⟨t.p,0,none⟩),.pointer none] 114))
             have B:=Lib.hid (B.out.alloc B.out.size (.cells #[.pointer (some ⟨t.p,0,none⟩),.pointer none] 114))
             have Z:=Lib.hid (Z.out.alloc (.cells #[.pointer (some ⟨t.p,0,none⟩),.pointer none] 114))
             refine hK.out _ _ T.out (fun hHeld => ?_)
             clear hK K hHeld
             try simp only [Act.put,List.setIfInBounds_toArray,List.set_cons_zero,List.set_cons_succ]
             refine wpAnyH_ready (rs:=[4]) (by kernel_rfl) (by simp) ?_
             refine AllReadyH.cons (o:=⟨_,_,_,_,_,_⟩) rfl (fun K hK => ?_) (AllReadyH.nil)
             · go_simp
               refine (KI.out _ B.out).mono ?_
               rintro e w5 ⟨rfl,hb5⟩
               have T:=Lib.hid (T.out.below hb5)
               have Z:=Lib.hid (Z.out.below hb5)
               have B:=Lib.hid (B.out.then hb5)
               clear hb5
               refine hK.out _ _ T.out (fun hHeld => ?_)
               clear hK K hHeld
               try simp only [Act.put,List.setIfInBounds_toArray,List.set_cons_zero,List.set_cons_succ]
               refine wpAnyH_take (i:=5) (oi:=⟨_,_,_,_,_,_⟩) (v:=?vv5_23) rfl (by kernel_rfl) (by kernel_rfl) (by kernel_rfl) (fun _ _ _ h => h) (Or.inl ⟨by rfl,?yy5_23⟩) T.out ?_
               case yy5_23 => (intro w' hw'; go_simp; try with_reducible rfl)
               try simp only [Act.put,List.setIfInBounds_toArray,List.set_cons_zero,List.set_cons_succ]
               refine wpAnyH_take (i:=6) (oi:=⟨_,_,_,_,_,_⟩) (v:=?vv6_24) rfl (by kernel_rfl) (by kernel_rfl) (by kernel_rfl) (fun _ _ _ h => h) (Or.inl ⟨by rfl,?yy6_24⟩) T.out ?_
               case yy6_24 => (intro w' hw'; go_simp; try with_reducible rfl)
               try simp only [Act.put,List.setIfInBounds_toArray,List.set_cons_zero,List.set_cons_succ]
               refine wpAnyH_take (i:=7) (oi:=⟨_,_,_,_,_,_⟩) (v:=?vv7_25) rfl (by kernel_rfl) (by kernel_rfl) (by kernel_rfl) (fun _ _ _ h => h) (Or.inl ⟨by rfl,?yy7_25⟩) T.out ?_
               case yy7_25 => (intro w' hw'; go_simp; try with_reducible rfl)
               try simp only [Act.put,List.setIfInBounds_toArray,List.set_cons_zero,List.set_cons_succ]
               have z0:=Z.out.c0
               have z1:=Z.out.c1
               have z2:=Z.out.f 0
               have z3:=Z.out.f 1
               have TT:=Lib.hid (T.out.two Z.out (.int .i64 hh) (.int .u64 ll))
               refine wpAnyH_ready (rs:=[9]) (by kernel_rfl) (by simp) ?_
               refine AllReadyH.cons (o:=⟨_,_,_,_,_,_⟩) rfl (fun K hK => ?_) AllReadyH.nil
               go_simp
               refine hK.out _ _ TT.out (fun hHeld => ?_)
               clear hK K hHeld
               try simp only [Act.put,List.setIfInBounds_toArray,List.set_cons_zero,List.set_cons_succ]
               refine wpAnyH_ready (rs:=[10]) (by kernel_rfl) (by simp) ?_
               refine AllReadyH.cons (o:=⟨_,_,_,_,_,_⟩) rfl (fun K hK => ?_) AllReadyH.nil
               go_simp
               refine hK.out _ _ TT.out (fun hHeld => ?_)
               clear hK K hHeld
               try simp only [Act.put,List.setIfInBounds_toArray,List.set_cons_zero,List.set_cons_succ]
               refine wpAnyH_done (by kernel_rfl) ?_ _
               go_wp2_with fail
               go_meet
               exact ⟨_,rfl,rfl,two_set Z.out,(B.out.setCell ZL.out _).setCell ZL.out _⟩
     case rest =>
       obtain ⟨q,rfl,rfl,hq,hb⟩:=hcut
       have q0:=hq.c0
       have q1:=hq.c1
       have HBF:=Lib.hid hb
       clear hq hb x1
       go_wp2_with fail
       go_ret2
       exact ⟨rfl,HA.out.keep HBF.out,HB1.out.then HBF.out⟩
end Go.Proofs.YtejaocnhekjfiaaGreatDoor
namespace Go.Proofs.YtejaocnhekjfiaaGreatDoor
open Go.RowKit
set_option linter.unusedVariables false
open S25 (I64 numLine LineOk Tabs PlainW)
def vCreate : ByteArray:=⟨#[99,114,101,97,116,101]⟩
theorem vCreate_plain : PlainW vCreate:=S25.plain_of (by decide) (by decide)
def vAdd : ByteArray:=⟨#[97,100,100]⟩
theorem vAdd_plain : PlainW vAdd:=S25.plain_of (by decide) (by decide)
def vPoint : ByteArray:=⟨#[112,111,105,110,116]⟩
theorem vPoint_plain : PlainW vPoint:=S25.plain_of (by decide) (by decide)
def vInner : ByteArray:=⟨#[105,110,110,101,114]⟩
theorem vInner_plain : PlainW vInner:=S25.plain_of (by decide) (by decide)
def vMerge : ByteArray:=⟨#[109,101,114,103,101]⟩
theorem vMerge_plain : PlainW vMerge:=S25.plain_of (by decide) (by decide)
def vSubtract : ByteArray:=⟨#[115,117,98,116,114,97,99,116]⟩
theorem vSubtract_plain : PlainW vSubtract:=S25.plain_of (by decide) (by decide)
def vRange : ByteArray:=⟨#[114,97,110,103,101]⟩
theorem vRange_plain : PlainW vRange:=S25.plain_of (by decide) (by decide)
def vQuantile : ByteArray:=⟨#[113,117,97,110,116,105,108,101]⟩
theorem vQuantile_plain : PlainW vQuantile:=S25.plain_of (by decide) (by decide)
def vHeavy : ByteArray:=⟨#[104,101,97,118,121]⟩
theorem vHeavy_plain : PlainW vHeavy:=S25.plain_of (by decide) (by decide)
theorem line_fits {v : ByteArray} {xs : List Int} (h : LineOk v xs) : (numLine v xs).size ≤ 1048576:=Nat.le_trans h.small (by decide)
theorem i64_nat {n : Nat} (h : n ≤ 9223372036854775807) : I64 (n : Int):=⟨by omega,by omega⟩
theorem i64_handle {i : Nat} (h : i < 20) : I64 ((i : Int) + 1):=⟨by omega,by omega⟩
theorem ok3 {v : ByteArray} (hv : PlainW v) (hs : v.size ≤ 100) {x y z : Int} (hx : I64 x) (hy : I64 y) (hz : I64 z) : LineOk v [x,y,z]:=⟨hv,hs,by simp [hx,hy,hz],by simp⟩
theorem ok2 {v : ByteArray} (hv : PlainW v) (hs : v.size ≤ 100) {x y : Int} (hx : I64 x) (hy : I64 y) : LineOk v [x,y]:=⟨hv,hs,by simp [hx,hy],by simp⟩
theorem parse_add {x y z : Int} (hx : I64 x) (hy : I64 y) (hz : I64 z) : S25.parseV (numLine vAdd [x,y,z]) = (some (.add (S25.addR x y z 4)),0,0):=by
 have h:=ok3 vAdd_plain (by decide) hx hy hz
 refine h.parse ?_
 obtain ⟨k,hk⟩:=h.at_ (i:=0) (w:=vAdd) rfl
 rw [S25.runCmd_add _ hk]
 obtain ⟨k1,h1⟩:=h.num (i:=0) (x:=x) rfl
 obtain ⟨k2,h2⟩:=h.num (i:=1) (x:=y) rfl
 obtain ⟨k3,h3⟩:=h.num (i:=2) (x:=z) rfl
 rw [S25.add_words hx hy hz h1 h2 h3]
 rfl
theorem parse_point {x y z : Int} (hx : I64 x) (hy : I64 y) (hz : I64 z) : S25.parseV (numLine vPoint [x,y,z]) = (some (.query vPoint x [y,z]),0,0):=by
 have h:=ok3 vPoint_plain (by decide) hx hy hz
 refine h.parse ?_
 obtain ⟨k,hk⟩:=h.at_ (i:=0) (w:=vPoint) rfl
 rw [S25.runCmd_point _ hk]
 rw [h.runs _ 3 rfl]; rfl
theorem parse_range {x y z : Int} (hx : I64 x) (hy : I64 y) (hz : I64 z) : S25.parseV (numLine vRange [x,y,z]) = (some (.query vRange x [y,z]),0,0):=by
 have h:=ok3 vRange_plain (by decide) hx hy hz
 refine h.parse ?_
 obtain ⟨k,hk⟩:=h.at_ (i:=0) (w:=vRange) rfl
 rw [S25.runCmd_range _ hk]
 rw [h.runs _ 3 rfl]; rfl
theorem parse_heavy {x y z : Int} (hx : I64 x) (hy : I64 y) (hz : I64 z) : S25.parseV (numLine vHeavy [x,y,z]) = (some (.query vHeavy x [y,z]),0,0):=by
 have h:=ok3 vHeavy_plain (by decide) hx hy hz
 refine h.parse ?_
 obtain ⟨k,hk⟩:=h.at_ (i:=0) (w:=vHeavy) rfl
 rw [S25.runCmd_heavy _ hk]
 rw [h.runs _ 3 rfl]; rfl
theorem parse_quantile {x y : Int} (hx : I64 x) (hy : I64 y) : S25.parseV (numLine vQuantile [x,y]) = (some (.query vQuantile x [y]),0,0):=by
 have h:=ok2 vQuantile_plain (by decide) hx hy
 refine h.parse ?_
 obtain ⟨k,hk⟩:=h.at_ (i:=0) (w:=vQuantile) rfl
 rw [S25.runCmd_quantile _ hk]
 rw [h.runs _ 2 rfl]; rfl
theorem parse_inner {x y : Int} (hx : I64 x) (hy : I64 y) : S25.parseV (numLine vInner [x,y]) = (some (.pair vInner x y),0,0):=by
 have h:=ok2 vInner_plain (by decide) hx hy
 refine h.parse ?_
 obtain ⟨k,hk⟩:=h.at_ (i:=0) (w:=vInner) rfl
 rw [S25.runCmd_inner _ hk]
 rw [h.runs _ 2 rfl]; rfl
theorem parse_merge {x y : Int} (hx : I64 x) (hy : I64 y) : S25.parseV (numLine vMerge [x,y]) = (some (.pair vMerge x y),0,0):=by
 have h:=ok2 vMerge_plain (by decide) hx hy
 refine h.parse ?_
 obtain ⟨k,hk⟩:=h.at_ (i:=0) (w:=vMerge) rfl
 rw [S25.runCmd_merge _ hk]
 rw [h.runs _ 2 rfl]; rfl
theorem parse_subtract {x y : Int} (hx : I64 x) (hy : I64 y) : S25.parseV (numLine vSubtract [x,y]) = (some (.pair vSubtract x y),0,0):=by
 have h:=ok2 vSubtract_plain (by decide) hx hy
 refine h.parse ?_
 obtain ⟨k,hk⟩:=h.at_ (i:=0) (w:=vSubtract) rfl
 rw [S25.runCmd_subtract _ hk]
 rw [h.runs _ 2 rfl]; rfl
theorem parse_create {b r wd md sd : Int} (h1 : I64 b) (h2 : I64 r) (h3 : I64 wd) (h4 : I64 md) (h5 : I64 sd) : S25.parseV (numLine vCreate [b,r,wd,md,sd]) = (some (.create [b,r,wd,md,sd]),0,0):=by
 have h : LineOk vCreate [b,r,wd,md,sd]:=⟨vCreate_plain,by decide,by simp [h1,h2,h3,h4,h5],by simp⟩
 refine h.parse ?_
 obtain ⟨k,hk⟩:=h.at_ (i:=0) (w:=vCreate) rfl
 rw [S25.runCmd_create _ hk,h.runs _ 5 rfl]; rfl
def LinePost (w : World) (base a m : Nat) (c : Cfg) (S S' : List SI) (t : ByteArray) (e : Ending) (w' : World) : Prop:=
 e = .returned (.tuple #[.string t,.bool true]) ∧ AggIs w' base a m c S' ∧ Upd (AggB a m S) w w'
def ReadPost (w : World) (base a m : Nat) (c : Cfg) (S : List SI) (t : ByteArray) (e : Ending) (w' : World) : Prop:=
 e = .returned (.tuple #[.string t,.bool true]) ∧ AggIs w' base a m c S ∧ Below w.heap.size w w'
theorem line_add {w : World} {base a m : Nat} {c : Cfg} {S : List SI} (h : AggIs w base a m c S) (hT : Tabs w) {i : Nat} (hi : i < 20) {s : SI} (hs : S[i]? = some s) (key : Nat) (hk : key < 2 ^ c.bits) (d b D : Int)
   (hf : ∀ zs ∈ s.C,FitL b zs) (hb : 0 ≤ b) (hd : -D ≤ d ∧ d ≤ D) (hD : 0 ≤ D) (hbD : b + 60 * D ≤ 4611686018427387903) (he : errOf c d = 0) (hk64 : key ≤ 9223372036854775807) :
   Calls Tryz.prog 11 #[.pointer (some ⟨a,0,none⟩),.string (numLine vAdd [(i : Int) + 1,key,d])] w (LinePost w base a m c S (S.set i { s with C:=updS c key d s.C (List.range (c.bits + 1)) }) bDone):=by
 have h1:=i64_handle hi
 have h2:=i64_nat hk64
 have h3 : I64 d:=⟨by omega,by omega⟩
 refine (line_ok (t:=bDone) (R:=fun v w2 => v = .iface 138 (.agg #[]) ∧ AggIs w2 base a m c (S.set i { s with C:=updS c key d s.C (List.range (c.bits + 1)) }) ∧ Upd (AggB a m S) w w2) a _ hT (line_fits (ok3 vAdd_plain (by decide) h1 h2 h3)) (parse_add h1 h2 h3) (fun w1 v hb1 hv => ?_) (fun v w2 hR => ?_)).mono ?_
 · obtain rfl : v = _:=hv
   refine do_add a ((i : Int) + 1) false ⟨#[]⟩ (IntKind.u64.wrap key) d (fun w' hbw => ?_)
   rw [IntWalk.u64_in _ ⟨by omega,by omega⟩]
   refine (add_ok (h.keep (hb1.then hbw)) hs key hk d b D hf hb hd hD hbD he).mono ?_
   rintro e w2 ⟨rfl,hA,hu⟩
   exact ⟨_,rfl,rfl,hA,(Upd.of_below (hb1.then hbw)).trans hu⟩
 · obtain ⟨rfl,_⟩:=hR
   exact text_done w2
 · rintro e w' ⟨rfl,v,w2,⟨_,hA,hu⟩,hb2⟩
   exact ⟨rfl,hA.keep hb2,hu.trans (Upd.of_below hb2)⟩
theorem line_add_no {w : World} {base a m : Nat} {c : Cfg} {S : List SI} (h : AggIs w base a m c S) (hT : Tabs w) {i : Nat} (hi : i < 20) {s : SI} (hs : S[i]? = some s) (key : Nat) (hk : key < 2 ^ c.bits) (d b D : Int)
   (hf : ∀ zs ∈ s.C,FitL b zs) (hb : 0 ≤ b) (hd : -D ≤ d ∧ d ≤ D) (hD : 0 ≤ D) (hbD : b + 60 * D ≤ 4611686018427387903) (he : errOf c d = 3) (hk64 : key ≤ 9223372036854775807) :
   Calls Tryz.prog 11 #[.pointer (some ⟨a,0,none⟩),.string (numLine vAdd [(i : Int) + 1,key,d])] w (ReadPost w base a m c S (errT 3)):=by
 have h1:=i64_handle hi
 have h2:=i64_nat hk64
 have h3 : I64 d:=⟨by omega,by omega⟩
 refine (line_err (n:=3) (R:=fun v w2 => AggIs w2 base a m c S ∧ Below w.heap.size w w2) a _ hT (line_fits (ok3 vAdd_plain (by decide) h1 h2 h3)) (parse_add h1 h2 h3) (by decide) (by decide) (fun w1 v hb1 hv => ?_)).mono ?_
 · obtain rfl : v = _:=hv
   refine do_add a ((i : Int) + 1) false ⟨#[]⟩ (IntKind.u64.wrap key) d (fun w' hbw => ?_)
   rw [IntWalk.u64_in _ ⟨by omega,by omega⟩]
   refine (add_no (h.keep (hb1.then hbw)) hs key hk d b D hf hb hd hD hbD he).mono ?_
   rintro e w2 ⟨rfl,hA,hu⟩
   exact ⟨_,rfl,hA,(hb1.then hbw).then hu⟩
 · rintro e w' ⟨rfl,v,w2,⟨hA,hu⟩,hb2⟩
   exact ⟨rfl,hA.keep hb2,hu.then hb2⟩
theorem line_merge {w : World} {base a m : Nat} {c : Cfg} {S : List SI} (h : AggIs w base a m c S) (hT : Tabs w) {i j : Nat} (hi : i < 20) (hj : j < 20) {s t : SI} (hs : S[i]? = some s) (ht : S[j]? = some t)
   (f1 : ∀ zs ∈ s.C,FitL 4611686018427387903 zs) (f2 : ∀ zs ∈ t.C,FitL 4611686018427387903 zs) :
   Calls Tryz.prog 11 #[.pointer (some ⟨a,0,none⟩),.string (numLine vMerge [(i : Int) + 1,(j : Int) + 1])] w (LinePost w base a m c S (S.set i { s with C:=List.zipWith (List.zipWith (· + ·)) s.C t.C }) bDone):=by
 have h1:=i64_handle hi
 have h2:=i64_handle hj
 refine (line_ok (t:=bDone) (R:=fun v w2 => v = .iface 138 (.agg #[]) ∧ AggIs w2 base a m c (S.set i { s with C:=List.zipWith (List.zipWith (· + ·)) s.C t.C }) ∧ Upd (AggB a m S) w w2) a _ hT (line_fits (ok2 vMerge_plain (by decide) h1 h2)) (parse_merge h1 h2) (fun w1 v hb1 hv => ?_) (fun v w2 hR => ?_)).mono ?_
 · obtain rfl : v = _:=hv
   refine do_pair a vMerge ((i : Int) + 1) ((j : Int) + 1) (fun w' hbw => ?_)
   refine (pair_merge (h.keep (hb1.then hbw)) hs ht f1 f2).mono ?_
   rintro e w2 ⟨rfl,hA,hu⟩
   exact ⟨_,rfl,rfl,hA,(Upd.of_below (hb1.then hbw)).trans hu⟩
 · obtain ⟨rfl,_⟩:=hR
   exact text_done w2
 · rintro e w' ⟨rfl,v,w2,⟨_,hA,hu⟩,hb2⟩
   exact ⟨rfl,hA.keep hb2,hu.trans (Upd.of_below hb2)⟩
theorem line_subtract {w : World} {base a m : Nat} {c : Cfg} {S : List SI} (h : AggIs w base a m c S) (hT : Tabs w) {i j : Nat} (hi : i < 20) (hj : j < 20) {s t : SI} (hs : S[i]? = some s) (ht : S[j]? = some t)
   (f1 : ∀ zs ∈ s.C,FitL 4611686018427387903 zs) (f2 : ∀ zs ∈ t.C,FitL 4611686018427387903 zs) (hm : c.mode ≠ 2) :
   Calls Tryz.prog 11 #[.pointer (some ⟨a,0,none⟩),.string (numLine vSubtract [(i : Int) + 1,(j : Int) + 1])] w (LinePost w base a m c S (S.set i { s with C:=List.zipWith (List.zipWith (· - ·)) s.C t.C }) bDone):=by
 have h1:=i64_handle hi
 have h2:=i64_handle hj
 refine (line_ok (t:=bDone) (R:=fun v w2 => v = .iface 138 (.agg #[]) ∧ AggIs w2 base a m c (S.set i { s with C:=List.zipWith (List.zipWith (· - ·)) s.C t.C }) ∧ Upd (AggB a m S) w w2) a _ hT (line_fits (ok2 vSubtract_plain (by decide) h1 h2)) (parse_subtract h1 h2) (fun w1 v hb1 hv => ?_) (fun v w2 hR => ?_)).mono ?_
 · obtain rfl : v = _:=hv
   refine do_pair a vSubtract ((i : Int) + 1) ((j : Int) + 1) (fun w' hbw => ?_)
   refine (pair_subtract (h.keep (hb1.then hbw)) hs ht f1 f2 hm).mono ?_
   rintro e w2 ⟨rfl,hA,hu⟩
   exact ⟨_,rfl,rfl,hA,(Upd.of_below (hb1.then hbw)).trans hu⟩
 · obtain ⟨rfl,_⟩:=hR
   exact text_done w2
 · rintro e w' ⟨rfl,v,w2,⟨_,hA,hu⟩,hb2⟩
   exact ⟨rfl,hA.keep hb2,hu.trans (Upd.of_below hb2)⟩
theorem line_subtract_no {w : World} {base a m : Nat} {c : Cfg} {S : List SI} (h : AggIs w base a m c S) (hT : Tabs w) {i j : Nat} (hi : i < 20) (hj : j < 20) {s t : SI} (hs : S[i]? = some s) (ht : S[j]? = some t) (hm : c.mode = 2) :
   Calls Tryz.prog 11 #[.pointer (some ⟨a,0,none⟩),.string (numLine vSubtract [(i : Int) + 1,(j : Int) + 1])] w (ReadPost w base a m c S (errT 3)):=by
 have h1:=i64_handle hi
 have h2:=i64_handle hj
 refine (line_err (n:=3) (R:=fun v w2 => AggIs w2 base a m c S ∧ Below w.heap.size w w2) a _ hT (line_fits (ok2 vSubtract_plain (by decide) h1 h2)) (parse_subtract h1 h2) (by decide) (by decide) (fun w1 v hb1 hv => ?_)).mono ?_
 · obtain rfl : v = _:=hv
   refine do_pair a vSubtract ((i : Int) + 1) ((j : Int) + 1) (fun w' hbw => ?_)
   refine (pair_subtract_no (h.keep (hb1.then hbw)) hs ht hm).mono ?_
   rintro e w2 ⟨rfl,hA,hu⟩
   exact ⟨_,rfl,hA,(hb1.then hbw).then hu⟩
 · rintro e w' ⟨rfl,v,w2,⟨hA,hu⟩,hb2⟩
   exact ⟨rfl,hA.keep hb2,hu.then hb2⟩
theorem line_inner {w : World} {base a m : Nat} {c : Cfg} {S : List SI} (h : AggIs w base a m c S) (hT : Tabs w) {i j : Nat} (hi : i < 20) (hj : j < 20) {s t : SI} (hs : S[i]? = some s) (ht : S[j]? = some t)
   (hm : c.mode = 1) {xs ys : List Int} (hx : s.C[0]? = some xs) (hy : t.C[0]? = some ys) (i1 : S02.In64 xs) (i2 : S02.In64 ys) (hf : InnFits c 0 xs ys) (hfit : S02.Fits (innL c 0 xs ys)) :
   Calls Tryz.prog 11 #[.pointer (some ⟨a,0,none⟩),.string (numLine vInner [(i : Int) + 1,(j : Int) + 1])] w (ReadPost w base a m c S (bWide ++ numT (innL c 0 xs ys))):=by
 have h1:=i64_handle hi
 have h2:=i64_handle hj
 refine (line_ok (t:=bWide ++ numT (innL c 0 xs ys)) (R:=fun v w2 => v = .iface 150 (.agg #[.int .i64 (S02.hiOf (innL c 0 xs ys)),.int .u64 (S02.loOf (innL c 0 xs ys))]) ∧ AggIs w2 base a m c S ∧ Below w.heap.size w w2) a _ hT (line_fits (ok2 vInner_plain (by decide) h1 h2)) (parse_inner h1 h2) (fun w1 v hb1 hv => ?_) (fun v w2 hR => ?_)).mono ?_
 · obtain rfl : v = _:=hv
   refine do_pair a vInner ((i : Int) + 1) ((j : Int) + 1) (fun w' hbw => ?_)
   refine (pair_inner (h.keep (hb1.then hbw)) hs ht hm hx hy i1 i2 hf).mono ?_
   rintro e w2 ⟨rfl,hA,hu⟩
   exact ⟨_,rfl,rfl,hA,(hb1.then hbw).then hu⟩
 · obtain ⟨rfl,_⟩:=hR
   exact text_wide _ w2 hfit
 · rintro e w' ⟨rfl,v,w2,⟨_,hA,hu⟩,hb2⟩
   exact ⟨rfl,hA.keep hb2,hu.then hb2⟩
theorem line_point {w : World} {base a m : Nat} {c : Cfg} {S : List SI} (h : AggIs w base a m c S) (hT : Tabs w) {i : Nat} (hi : i < 20) {s : SI} (hs : S[i]? = some s) (n k : Nat) (zs : List Int) (hz : s.C[n]? = some zs) (hk : k < 2 ^ (c.bits - n))
   (hp : -9223372036854775808 ≤ levPoint c n zs k ∧ levPoint c n zs k ≤ 9223372036854775807) :
   Calls Tryz.prog 11 #[.pointer (some ⟨a,0,none⟩),.string (numLine vPoint [(i : Int) + 1,n,k])] w (ReadPost w base a m c S (bNumber ++ numT (levPoint c n zs k))):=by
 have hst:=h.st i s hs
 have hn : n ≤ c.bits:=by
   have:=(List.getElem?_eq_some_iff.1 hz).1
   have:=hst.lenC
   omega
 have hb59:=hst.ok.b59
 have hk64 : k < 2 ^ 59:=Nat.lt_of_lt_of_le hk (Nat.pow_le_pow_right (by decide) (by omega))
 obtain ⟨A,hA⟩ : ∃ A,s.L[n]? = some A:=⟨_,List.getElem?_eq_getElem (by rw [hst.len]; omega)⟩
 have h1:=i64_handle hi
 have h2 : I64 (n : Int):=⟨by omega,by omega⟩
 have h3 : I64 (k : Int):=⟨by omega,by omega⟩
 refine (line_ok (t:=bNumber ++ numT (levPoint c n zs k)) (R:=fun v w2 => v = .iface 142 (.agg #[.int .i64 (levPoint c n zs k)]) ∧ AggIs w2 base a m c S ∧ Below w.heap.size w w2) a _ hT (line_fits (ok3 vPoint_plain (by decide) h1 h2 h3)) (parse_point h1 h2 h3) (fun w1 v hb1 hv => ?_) (fun v w2 hR => ?_)).mono ?_
 · obtain ⟨al,cl,rfl,hr⟩:=hv
   refine do_query a vPoint ((i : Int) + 1) al 2 cl (fun w' hbw => ?_)
   refine (query_point (h.keep (hb1.then hbw)) hs al cl n k A zs (hr.below hbw) hA hz hk (by omega) (by omega)).mono ?_
   rintro e w2 ⟨rfl,hA',hu⟩
   exact ⟨_,rfl,rfl,hA',(hb1.then hbw).then hu⟩
 · obtain ⟨rfl,_,hu⟩:=hR
   exact text_number _ hp w2 (hT.below hu)
 · rintro e w' ⟨rfl,v,w2,⟨_,hA',hu⟩,hb2⟩
   exact ⟨rfl,hA'.keep hb2,hu.then hb2⟩
def MadePost (w : World) (base a m : Nat) (c : Cfg) (S : List SI) (t : ByteArray) (e : Ending) (w' : World) : Prop:=
 e = .returned (.tuple #[.string t,.bool true]) ∧ ∃ s : SI,s.C = zeroC c ∧ AggIs w' base a m c (S ++ [s]) ∧ Upd (AggB a m S) w w'
theorem line_create {w : World} {base a m : Nat} {c : Cfg} {S : List SI} (hc : c.ok) (h : AggIs w base a m c S) (hT : Tabs w) (hS : S.length < 20) (sd : Int) (hsd : I64 sd) (hse : IntKind.u64.wrap sd = (c.seed : Int)) (hbase : base ≤ w.heap.size) :
   Calls Tryz.prog 11 #[.pointer (some ⟨a,0,none⟩),.string (numLine vCreate [c.bits,c.rows,c.width,c.mode,sd])] w (MadePost w base a m c S (bHandle ++ numT ((S.length : Int) + 1))):=by
 have hb:=hc.b59; have hr:=hc.r8; have hw:=hc.w8; have hm:=hc.m3
 have h1 : I64 (c.bits : Int):=⟨by omega,by omega⟩
 have h2 : I64 (c.rows : Int):=⟨by omega,by omega⟩
 have h3 : I64 (c.width : Int):=⟨by omega,by omega⟩
 have h4 : I64 (c.mode : Int):=⟨by omega,by omega⟩
 have hok : LineOk vCreate [(c.bits : Int),c.rows,c.width,c.mode,sd]:=⟨vCreate_plain,by decide,by simp [h1,h2,h3,h4,hsd],by simp⟩
 refine (line_ok (t:=bHandle ++ numT ((S.length : Int) + 1)) (R:=fun v w2 => ∃ w1,Below w.heap.size w w1 ∧ MadeR base a m c S w1 v w2) a _ hT (line_fits hok) (parse_create h1 h2 h3 h4 hsd) (fun w1 v hb1 hv => ?_) (fun v w2 hR => ?_)).mono ?_
 · obtain ⟨x0,x1,x2,x3,x4,hl,rfl⟩:=hv
   simp only [List.cons.injEq,and_true] at hl
   obtain ⟨rfl,rfl,rfl,rfl,rfl⟩:=hl
   rw [hse]
   refine (do_create hc (h.keep hb1) hS (Nat.le_trans hbase hb1.size)).mono ?_
   rintro e w2 ⟨v,rfl,hR⟩
   exact ⟨v,rfl,w1,hb1,hR⟩
 · obtain ⟨w1,hb1,rfl,_⟩:=hR
   have:=text_handle (S.length + 1) (by omega) w2
   push_cast at this
   exact this
 · rintro e w' ⟨rfl,v,w2,⟨w1,hb1,_,s,hs,hA,hu⟩,hb2⟩
   exact ⟨rfl,s,hs,hA.keep hb2,(Upd.of_below hb1).trans (hu.trans (Upd.of_below hb2))⟩
end Go.Proofs.YtejaocnhekjfiaaGreatDoor
namespace Go.Proofs.YtejaocnhekjfiaaGreatDoor
open Go.RowKit
set_option linter.unusedVariables false
def sg (f : Nat → Int) : Nat → Int
 | 0 => 0
 | k + 1 => sg f k + f k
theorem sg_congr {f g : Nat → Int} : ∀ {n : Nat},(∀ i,i < n → f i = g i) → sg f n = sg g n
 | 0,_ => rfl
 | n + 1,h => by rw [sg,sg,sg_congr (fun i hi => h i (by omega)),h n (by omega)]
theorem sg_zero {f : Nat → Int} : ∀ {n : Nat},(∀ i,i < n → f i = 0) → sg f n = 0
 | 0,_ => rfl
 | n + 1,h => by rw [sg,sg_zero (fun i hi => h i (by omega)),h n (by omega)]; rfl
theorem sg_add (f g : Nat → Int) : ∀ n,sg (fun i => f i + g i) n = sg f n + sg g n
 | 0 => rfl
 | n + 1 => by rw [sg,sg,sg,sg_add f g n]; omega
theorem sg_sub (f g : Nat → Int) : ∀ n,sg (fun i => f i - g i) n = sg f n - sg g n
 | 0 => rfl
 | n + 1 => by rw [sg,sg,sg,sg_sub f g n]; omega
theorem sg_one (v : Int) (k : Nat) : ∀ n,sg (fun i => if i = k then v else 0) n = if k < n then v else 0
 | 0 => rfl
 | n + 1 => by
   rw [sg,sg_one v k n]
   by_cases h : n = k
   · subst h; rw [if_neg (Nat.lt_irrefl _),if_pos rfl,if_pos (Nat.lt_succ_self _),Int.zero_add]
   · rw [if_neg h,Int.add_zero]
     by_cases h2 : k < n
     · rw [if_pos h2,if_pos (by omega)]
     · rw [if_neg h2,if_neg (by omega)]
theorem sg_bound {f : Nat → Int} {b : Int} : ∀ {n : Nat},(∀ i,i < n → -b ≤ f i ∧ f i ≤ b) → -((n : Int) * b) ≤ sg f n ∧ sg f n ≤ (n : Int) * b
 | 0,_ => by simp [sg]
 | n + 1,h => by
   have h1:=sg_bound (n:=n) (fun i hi => h i (by omega))
   have h2:=h n (by omega)
   have e : ((n + 1 : Nat) : Int) * b = (n : Int) * b + b:=by push_cast; rw [Int.add_mul,Int.one_mul]
   rw [e,sg]
   omega
theorem sg_group (f : Nat → Int) (q : Nat → Nat) (g : Nat → Int) (m : Nat) : ∀ n,(∀ i,i < n → q i < m) →
   sg (fun j => g j * sg (fun i => if q i = j then f i else 0) n) m = sg (fun i => g (q i) * f i) n
 | 0,_ => sg_zero fun j _ => by simp [sg]
 | n + 1,h => by
   have e : sg (fun j => g j * sg (fun i => if q i = j then f i else 0) (n + 1)) m = sg (fun j => g j * sg (fun i => if q i = j then f i else 0) n + (if j = q n then g (q n) * f n else 0)) m:=sg_congr fun j _ => by
     rw [sg,Int.mul_add]
     congr 1
     by_cases e : q n = j
     · subst e; rw [if_pos rfl,if_pos rfl]
     · rw [if_neg e,if_neg (fun e2 => e e2.symm),Int.mul_zero]
   rw [e,sg_add,sg_group f q g m n (fun i hi => h i (by omega)),sg_one,if_pos (h n (by omega))]
   rfl
def hit (c : Cfg) (n k p : Nat) : Bool:=
 if c.exact n = true then decide (k / 2 ^ n = p) else decide (c.col n (p / c.width) (k / 2 ^ n) = p % c.width)
def cellOf (c : Cfg) (n : Nat) (F : List Int) (p : Nat) : Int:=sg (fun k => if hit c n k p = true then F.getD k 0 else 0) (2 ^ c.bits)
def cellsOf (c : Cfg) (n : Nat) (F : List Int) : List Int:=(List.range (c.R n * c.W n)).map (cellOf c n F)
def stackOf (c : Cfg) (F : List Int) : List (List Int):=(List.range (c.bits + 1)).map fun n => cellsOf c n F
theorem cellsOf_len (c : Cfg) (n : Nat) (F : List Int) : (cellsOf c n F).length = c.R n * c.W n:=by simp [cellsOf]
theorem cellsOf_get (c : Cfg) (n : Nat) (F : List Int) (p : Nat) (hp : p < c.R n * c.W n) : (cellsOf c n F)[p]? = some (cellOf c n F p):=by
 unfold cellsOf; rw [List.getElem?_map,List.getElem?_range hp]; rfl
theorem cellsOf_getD (c : Cfg) (n : Nat) (F : List Int) (p : Nat) (hp : p < c.R n * c.W n) : (cellsOf c n F).getD p 0 = cellOf c n F p:=by
 rw [List.getD_eq_getElem?_getD,cellsOf_get c n F p hp]; rfl
theorem stackOf_len (c : Cfg) (F : List Int) : (stackOf c F).length = c.bits + 1:=by simp [stackOf]
theorem stackOf_get (c : Cfg) (F : List Int) (n : Nat) (hn : n ≤ c.bits) : (stackOf c F)[n]? = some (cellsOf c n F):=by
 unfold stackOf; rw [List.getElem?_map,List.getElem?_range (by omega)]; rfl
theorem list_is {l : List Int} {m : Nat} {f : Nat → Int} (hl : l.length = m) (h : ∀ p,p < m → l.getD p 0 = f p) : l = (List.range m).map f:=by
 apply List.ext_getElem?
 intro p
 by_cases hp : p < m
 · have h1:=h p hp
   rw [List.getD_eq_getElem?_getD] at h1
   rw [List.getElem?_map,List.getElem?_range hp]
   rw [List.getElem?_eq_getElem (by omega)] at h1 ⊢
   simpa using h1
 · rw [List.getElem?_eq_none (by omega),List.getElem?_eq_none (by simp; omega)]
theorem cellsOf_is {c : Cfg} {n : Nat} {F : List Int} {l : List Int} (hl : l.length = c.R n * c.W n) (h : ∀ p,p < c.R n * c.W n → l.getD p 0 = cellOf c n F p) : l = cellsOf c n F:=list_is hl h
theorem zero_cells (c : Cfg) (n m : Nat) : cellsOf c n (List.replicate m 0) = zeroL c n:=by
 refine (cellsOf_is (by simp [zeroL]) fun p hp => ?_).symm
 have e : cellOf c n (List.replicate m 0) p = 0:=sg_zero fun i _ => by
   split
   · rw [List.getD_eq_getElem?_getD,List.getElem?_replicate]; split <;> rfl
   · rfl
 rw [e,zeroL,List.getD_eq_getElem?_getD,List.getElem?_replicate,if_pos hp]; rfl
theorem zero_stack (c : Cfg) (m : Nat) : stackOf c (List.replicate m 0) = zeroC c:=by
 unfold stackOf zeroC
 exact List.map_congr_left fun n _ => zero_cells c n m
def bump (F : List Int) (k : Nat) (d : Int) : List Int:=F.set k (F.getD k 0 + d)
theorem bump_len (F : List Int) (k : Nat) (d : Int) : (bump F k d).length = F.length:=by simp [bump]
theorem bump_getD (F : List Int) (k : Nat) (d : Int) (hk : k < F.length) (i : Nat) : (bump F k d).getD i 0 = F.getD i 0 + if i = k then d else 0:=by
 unfold bump
 by_cases h : i = k
 · subst h
   rw [if_pos rfl]
   simp [List.getD_eq_getElem?_getD,List.getElem?_set_self hk]
 · rw [if_neg h,Int.add_zero,List.getD_eq_getElem?_getD,List.getElem?_set_ne (fun e => h e.symm),← List.getD_eq_getElem?_getD]
theorem cellOf_bump (c : Cfg) (n : Nat) (F : List Int) (k : Nat) (d : Int) (hk : k < F.length) (hb : k < 2 ^ c.bits) (p : Nat) :
   cellOf c n (bump F k d) p = cellOf c n F p + if hit c n k p = true then d else 0:=by
 unfold cellOf
 rw [show (if hit c n k p = true then d else 0) = sg (fun i => if i = k then (if hit c n k p = true then d else 0) else 0) (2 ^ c.bits) by rw [sg_one,if_pos hb],← sg_add]
 refine sg_congr fun i _ => ?_
 rw [bump_getD F k d hk]
 by_cases h : i = k
 · subst h; rw [if_pos rfl,if_pos rfl]; split <;> simp
 · rw [if_neg h,if_neg h,Int.add_zero,Int.add_zero]
theorem cellOf_add (c : Cfg) (n : Nat) (F G H : List Int) (h : ∀ i,i < 2 ^ c.bits → H.getD i 0 = F.getD i 0 + G.getD i 0) (p : Nat) : cellOf c n H p = cellOf c n F p + cellOf c n G p:=by
 unfold cellOf
 rw [← sg_add]
 exact sg_congr fun i hi => by rw [h i hi]; split <;> simp
theorem cellOf_sub (c : Cfg) (n : Nat) (F G H : List Int) (h : ∀ i,i < 2 ^ c.bits → H.getD i 0 = F.getD i 0 - G.getD i 0) (p : Nat) : cellOf c n H p = cellOf c n F p - cellOf c n G p:=by
 unfold cellOf
 rw [← sg_sub]
 exact sg_congr fun i hi => by rw [h i hi]; split <;> simp
theorem getD_zip (f : Int → Int → Int) (h0 : f 0 0 = 0) {F G : List Int} (hl : F.length = G.length) (i : Nat) : (List.zipWith f F G).getD i 0 = f (F.getD i 0) (G.getD i 0):=by
 rw [List.getD_eq_getElem?_getD,List.getD_eq_getElem?_getD,List.getD_eq_getElem?_getD,List.getElem?_zipWith]
 by_cases hi : i < F.length
 · rw [List.getElem?_eq_getElem hi,List.getElem?_eq_getElem (by omega)]; rfl
 · rw [List.getElem?_eq_none (by omega),List.getElem?_eq_none (by omega)]; exact h0.symm
theorem cells_merge (c : Cfg) (n : Nat) {F G : List Int} (hl : F.length = G.length) : List.zipWith (· + ·) (cellsOf c n F) (cellsOf c n G) = cellsOf c n (List.zipWith (· + ·) F G):=by
 refine cellsOf_is (by simp [cellsOf_len]) fun p hp => ?_
 rw [getD_zip (· + ·) rfl (by simp [cellsOf_len]),cellsOf_getD c n F p hp,cellsOf_getD c n G p hp]
 exact (cellOf_add c n F G _ (fun i _ => getD_zip (· + ·) rfl hl i) p).symm
theorem cells_subtract (c : Cfg) (n : Nat) {F G : List Int} (hl : F.length = G.length) : List.zipWith (· - ·) (cellsOf c n F) (cellsOf c n G) = cellsOf c n (List.zipWith (· - ·) F G):=by
 refine cellsOf_is (by simp [cellsOf_len]) fun p hp => ?_
 rw [getD_zip (· - ·) rfl (by simp [cellsOf_len]),cellsOf_getD c n F p hp,cellsOf_getD c n G p hp]
 exact (cellOf_sub c n F G _ (fun i _ => getD_zip (· - ·) rfl hl i) p).symm
theorem zip_range {A : Type} (f : A → A → A) (g h : Nat → A) (m : Nat) : List.zipWith f ((List.range m).map g) ((List.range m).map h) = (List.range m).map (fun i => f (g i) (h i)):=by
 rw [List.zipWith_map,List.zipWith_self]
theorem stack_merge (c : Cfg) {F G : List Int} (hl : F.length = G.length) : List.zipWith (List.zipWith (· + ·)) (stackOf c F) (stackOf c G) = stackOf c (List.zipWith (· + ·) F G):=by
 unfold stackOf; rw [zip_range]; exact List.map_congr_left fun n _ => cells_merge c n hl
theorem stack_subtract (c : Cfg) {F G : List Int} (hl : F.length = G.length) : List.zipWith (List.zipWith (· - ·)) (stackOf c F) (stackOf c G) = stackOf c (List.zipWith (· - ·) F G):=by
 unfold stackOf; rw [zip_range]; exact List.map_congr_left fun n _ => cells_subtract c n hl
theorem divmod_iff {W r x p : Nat} (hW : 0 < W) (hx : x < W) : r * W + x = p ↔ p / W = r ∧ p % W = x:=by
 constructor
 · rintro rfl
   rw [Nat.mul_comm,Nat.mul_add_div hW,Nat.div_eq_of_lt hx,Nat.mul_add_mod,Nat.mod_eq_of_lt hx]; exact ⟨rfl,rfl⟩
 · rintro ⟨rfl,rfl⟩; rw [Nat.mul_comm]; exact Nat.div_add_mod p W
theorem ite_iff {A : Type} {p q : Prop} [Decidable p] [Decidable q] (h : p ↔ q) (a b : A) : (if p then a else b) = if q then a else b:=by
 by_cases hp : p
 · rw [if_pos hp,if_pos (h.1 hp)]
 · rw [if_neg hp,if_neg (fun k => hp (h.2 k))]
theorem putC_getD {W : Nat} {zs : List Int} {cols : List Nat} {vs : List Int} {R : Nat} (hl : zs.length = R * W) (hm : Meet cols R W) (hv : vs.length = R) (p : Nat) (hp : p < R * W) :
    ∀ k, k ≤ R → (putC W zs cols vs k).getD p 0 = if p / W < k ∧ cols.getD (p / W) 0 = p % W then vs.getD (p / W) 0 else zs.getD p 0
  | 0, _ => by rw [putC, if_neg (fun h => Nat.not_lt_zero _ h.1)]
  | k + 1, hk => by
    have hW : 0 < W := by rcases Nat.eq_zero_or_pos W with e | e; · subst e; simp at hp
                          · exact e
    obtain ⟨x, hx, hxw⟩ := hm.at_ (show k < R by omega)
    have hxd : cols.getD k 0 = x := by rw [List.getD_eq_getElem?_getD, hx]; rfl
    rw [putC, hxd]
    by_cases e : k * W + x = p
    · obtain ⟨e1, e2⟩ := (divmod_iff hW hxw).1 e
      rw [if_pos ⟨by omega, by rw [e1, hxd, e2]⟩, e1, e, List.getD_eq_getElem?_getD, List.getElem?_set_self (by rw [putC_len, hl]; exact hp)]; rfl
    · rw [List.getD_eq_getElem?_getD, List.getElem?_set_ne e, ← List.getD_eq_getElem?_getD, putC_getD hl hm hv p hp k (by omega)]
      have : (p / W < k + 1 ∧ cols.getD (p / W) 0 = p % W) ↔ (p / W < k ∧ cols.getD (p / W) 0 = p % W) := by
        constructor
        · rintro ⟨h1, h2⟩
          refine ⟨?_, h2⟩
          rcases Nat.lt_or_ge (p / W) k with h3 | h3
          · exact h3
          · have h4 : p / W = k := by omega
            rw [h4, hxd] at h2
            exact absurd ((divmod_iff hW hxw).2 ⟨h4, h2.symm⟩) e
        · rintro ⟨h1, h2⟩; exact ⟨by omega, h2⟩
      exact (ite_iff this _ _).symm
theorem readC_getD {W : Nat} {zs : List Int} {cols : List Nat} {k : Nat} (hk : k < cols.length) : (readC W zs cols).getD k 0 = zs.getD (k * W + cols.getD k 0) 0:=by
 have:=readC_at (W:=W) (zs:=zs) (List.getElem?_eq_getElem hk)
 rw [List.getD_eq_getElem?_getD,this]
 have e : cols.getD k 0 = cols[k]:=by rw [List.getD_eq_getElem?_getD,List.getElem?_eq_getElem hk]; rfl
 rw [e]; rfl
theorem div_lt_rows {p R W : Nat} (hp : p < R * W) : p / W < R:=by
 rw [Nat.mul_comm] at hp; exact Nat.div_lt_of_lt_mul hp
theorem getD_map (f : Int → Int) (l : List Int) {i : Nat} (h : i < l.length) : (l.map f).getD i 0 = f (l.getD i 0):=by
 rw [List.getD_eq_getElem?_getD,List.getD_eq_getElem?_getD,List.getElem?_map]
 obtain ⟨x,hx⟩ : ∃ x,l[i]? = some x:=⟨_,List.getElem?_eq_getElem h⟩
 rw [hx]; rfl
theorem changeC_hit {W : Nat} {zs : List Int} {cols : List Nat} {R : Nat} (hm : Meet cols R W) (d : Int) {r x : Nat} (hr : r < R) (e : cols.getD r 0 = x) :
   ((readC W zs cols).map (· + d)).getD r 0 = zs.getD (r * W + x) 0 + d:=by
 have h1:=getD_map (· + d) (readC W zs cols) (i:=r) (by rw [readC_len,hm.len]; exact hr)
 have h2:=readC_getD (W:=W) (zs:=zs) (cols:=cols) (k:=r) (by rw [hm.len]; exact hr)
 rw [e] at h2
 exact h1.trans (congrArg (· + d) h2)
theorem changeC_getD {W : Nat} {zs : List Int} {cols : List Nat} {R : Nat} (hl : zs.length = R * W) (hm : Meet cols R W) (d : Int) (p : Nat) (hp : p < R * W) :
   (changeC W zs cols d).getD p 0 = zs.getD p 0 + if cols.getD (p / W) 0 = p % W then d else 0:=by
 have hr:=div_lt_rows hp
 have h0:=putC_getD (vs:=(readC W zs cols).map (· + d)) hl hm (by rw [List.length_map,readC_len,hm.len]) p hp R (Nat.le_refl _)
 have hu : changeC W zs cols d = putC W zs cols ((readC W zs cols).map (· + d)) R:=by unfold changeC; rw [hm.len]
 have hpp : p / W * W + p % W = p:=by have:=Nat.div_add_mod p W; rw [Nat.mul_comm] at this; exact this
 have h1 : ∀ {r : Nat},r < R → cols.getD r 0 = p % W → ((readC W zs cols).map (· + d)).getD r 0 = zs.getD (r * W + p % W) 0 + d:=fun hr e => changeC_hit hm d hr e
 generalize p / W = r at *
 generalize p % W = x at *
 rw [hu,h0]
 by_cases e : cols.getD r 0 = x
 · rw [if_pos ⟨hr,e⟩,if_pos e,h1 hr e,hpp]
 · rw [if_neg (fun h => e h.2),if_neg e,Int.add_zero]
theorem range_getD (f : Nat → Nat) {m r : Nat} (h : r < m) : ((List.range m).map f).getD r 0 = f r:=by
 rw [List.getD_eq_getElem?_getD,List.getElem?_map,List.getElem?_range h]; rfl
theorem colsN_getD (c : Cfg) (n key r : Nat) (hr : r < c.rows) : (colsN c n key).getD r 0 = c.col n r key:=by
 unfold colsN; exact range_getD (fun row => c.col n row key) hr
theorem RW_sk {c : Cfg} {n : Nat} (hx : c.exact n = false) : c.R n = c.rows ∧ c.W n = c.width:=by
 unfold Cfg.R Cfg.W; rw [hx]; exact ⟨rfl,rfl⟩
theorem RW_ex {c : Cfg} {n : Nat} (hx : c.exact n = true) : c.R n = 1 ∧ c.W n = 2 ^ (c.bits - n):=by
 unfold Cfg.R Cfg.W; rw [hx]; exact ⟨rfl,rfl⟩
theorem key_div {c : Cfg} {key n : Nat} (hk : key < 2 ^ c.bits) (hn : n ≤ c.bits) : key / 2 ^ n < 2 ^ (c.bits - n):=by
 rw [Nat.div_lt_iff_lt_mul (Nat.pow_pos (by decide)),← Nat.pow_add,Nat.sub_add_cancel hn]; exact hk
theorem levUpd_getD {c : Cfg} (hc : c.ok) (hm : c.mode ≠ 2) {n key : Nat} (hn : n ≤ c.bits) (hk : key < 2 ^ c.bits) {zs : List Int} (hl : zs.length = c.R n * c.W n) (d : Int) (p : Nat) (hp : p < c.R n * c.W n) :
   (levUpd c n zs (key / 2 ^ n) d).getD p 0 = zs.getD p 0 + if hit c n key p = true then d else 0:=by
 unfold levUpd hit
 cases hx : c.exact n with
 | true =>
   have hkd:=key_div hk hn
   obtain ⟨e1,e2⟩:=RW_ex hx
   rw [e1,e2,Nat.one_mul] at hl hp
   rw [if_pos rfl,if_pos rfl]
   unfold exUpd
   by_cases e : key / 2 ^ n = p
   · rw [if_pos (by simpa using e),e,List.getD_eq_getElem?_getD,List.getElem?_set_self (by omega)]; rfl
   · rw [if_neg (by simpa using e),Int.add_zero,List.getD_eq_getElem?_getD,List.getElem?_set_ne e,← List.getD_eq_getElem?_getD]
 | false =>
   obtain ⟨e1,e2⟩:=RW_sk hx
   rw [e1,e2] at hl hp
   rw [if_neg Bool.false_ne_true,if_neg Bool.false_ne_true]
   unfold skUpd
   rw [if_neg hm,changeC_getD hl (colsN_meet c hc n _) d p hp,colsN_getD c n _ _ (div_lt_rows hp)]
   rw [ite_iff (decide_eq_true_iff)]
theorem lev_cells {c : Cfg} (hc : c.ok) (hm : c.mode ≠ 2) {n key : Nat} (hn : n ≤ c.bits) (hk : key < 2 ^ c.bits) (F : List Int) (hF : F.length = 2 ^ c.bits) (d : Int) :
   levUpd c n (cellsOf c n F) (key / 2 ^ n) d = cellsOf c n (bump F key d):=by
 refine cellsOf_is (by rw [levUpd_len,cellsOf_len]) fun p hp => ?_
 rw [levUpd_getD hc hm hn hk (cellsOf_len c n F) d p hp,cellsOf_getD c n F p hp,cellOf_bump c n F key d (by omega) hk]
theorem updS_get (c : Cfg) (key : Nat) (d : Int) : ∀ (m : Nat) (C : List (List Int)) (n : Nat),(updS c key d C (List.range m))[n]? = if n < m then C[n]?.map (fun zs => levUpd c n zs (key / 2 ^ n) d) else C[n]?
 | 0,C,n => by simp [updS]
 | m + 1,C,n => by
   rw [List.range_succ,updS_snoc,updL]
   by_cases e : m = n
   · subst e
     rw [if_pos (Nat.lt_succ_self _)]
     have h0:=updS_get c key d m C m
     rw [if_neg (Nat.lt_irrefl _)] at h0
     cases h1 : C[m]? with
     | none =>
       rw [List.getElem?_eq_none]
       · rfl
       · have:=List.getElem?_eq_none_iff.1 (h0.trans h1)
         simpa using this
     | some zs =>
       have h2:=h0.trans h1
       rw [List.getElem?_set_self (List.getElem?_eq_some_iff.1 h2).1,List.getD_eq_getElem?_getD,h2]; rfl
   · rw [List.getElem?_set_ne e,updS_get c key d m C n]
     by_cases h : n < m
     · rw [if_pos h,if_pos (by omega)]
     · rw [if_neg h,if_neg (by omega)]
theorem stack_bump {c : Cfg} (hc : c.ok) (hm : c.mode ≠ 2) {key : Nat} (hk : key < 2 ^ c.bits) (F : List Int) (hF : F.length = 2 ^ c.bits) (d : Int) :
   updS c key d (stackOf c F) (List.range (c.bits + 1)) = stackOf c (bump F key d):=by
 apply List.ext_getElem?
 intro n
 rw [updS_get]
 by_cases hn : n < c.bits + 1
 · rw [if_pos hn,stackOf_get c F n (by omega),stackOf_get c _ n (by omega),Option.map_some,lev_cells hc hm (by omega) hk F hF d]
 · rw [if_neg hn,List.getElem?_eq_none (by rw [stackOf_len]; omega),List.getElem?_eq_none (by rw [stackOf_len]; omega)]
end Go.Proofs.YtejaocnhekjfiaaGreatDoor
namespace Go.Proofs.YtejaocnhekjfiaaGreatDoor
open Go.RowKit
set_option linter.unusedVariables false
open S25 (I64 numLine LineOk Tabs PlainW)
def iw (x : Int) : Value:=.int .i64 x
def wCells (a : Nat) (c : Cfg) (G : List Int) : List Value:=[.pointer (some ⟨a,0,none⟩),.int .i64 c.bits,.int .i64 c.rows,.int .i64 c.width,.int .i64 c.mode,.int .u64 c.seed] ++ G.map iw
structure WIs (w : World) (base x a m : Nat) (c : Cfg) (S : List SI) (G : List Int) : Prop where
 blk : w.heap[x]? = some (.cells (wCells a c G).toArray 35 (0,0))
 len : G.length = 192
 agg : AggIs w base a m c S
 three : S.length = 3
 lo : base ≤ x
theorem WIs.keep {w w' : World} {base x a m : Nat} {c : Cfg} {S : List SI} {G : List Int} (h : WIs w base x a m c S G) (hb : Below w.heap.size w w') : WIs w' base x a m c S G:=
 ⟨(hb.block _ (lt_of_block h.blk)).trans h.blk,h.len,h.agg.keep hb,h.three,h.lo⟩
theorem WIs.cells {w : World} {base x a m : Nat} {c : Cfg} {S : List SI} {G : List Int} (h : WIs w base x a m c S G) :
   w.cell? ⟨x,0,none⟩ = some (.pointer (some ⟨a,0,none⟩)) ∧ w.cell? ⟨x,1,none⟩ = some (.int .i64 c.bits) ∧ w.cell? ⟨x,2,none⟩ = some (.int .i64 c.rows) ∧ w.cell? ⟨x,3,none⟩ = some (.int .i64 c.width) ∧ w.cell? ⟨x,4,none⟩ = some (.int .i64 c.mode) ∧ w.cell? ⟨x,5,none⟩ = some (.int .u64 c.seed):=
 ⟨(cell_of_row _ _ _ _ _ _ h.blk).trans rfl,(cell_of_row _ _ _ _ _ _ h.blk).trans rfl,(cell_of_row _ _ _ _ _ _ h.blk).trans rfl,(cell_of_row _ _ _ _ _ _ h.blk).trans rfl,(cell_of_row _ _ _ _ _ _ h.blk).trans rfl,(cell_of_row _ _ _ _ _ _ h.blk).trans rfl⟩
theorem wCells_key (a : Nat) (c : Cfg) (G : List Int) (i : Nat) (hi : i < G.length) : (wCells a c G).toArray[6 + i]? = some (.int .i64 (G.getD i 0)):=by
 unfold wCells
 simp only [List.getElem?_toArray]
 rw [List.getElem?_append_right (by simp),List.getElem?_map]
 simp only [List.length_cons,List.length_nil,Nat.zero_add,Nat.reduceAdd,Nat.add_sub_cancel_left]
 rw [List.getElem?_eq_getElem hi,List.getD_eq_getElem?_getD,List.getElem?_eq_getElem hi]; rfl
theorem WIs.key {w : World} {base x a m : Nat} {c : Cfg} {S : List SI} {G : List Int} (h : WIs w base x a m c S G) {i : Nat} (hi : i < 192) : w.cell? ⟨x,6 + i,none⟩ = some (.int .i64 (G.getD i 0)):=
 (cell_of_row _ _ _ _ _ _ h.blk).trans (wCells_key a c G i (by rw [h.len]; exact hi))
theorem WIs.frozen {w : World} {base x a m : Nat} {c : Cfg} {S : List SI} {G : List Int} (h : WIs w base x a m c S G) (i : Nat) : w.frozen? ⟨x,i,none⟩ = false:=frozen_of_row _ _ _ _ _ h.blk
theorem AggIs.other {w w' : World} {base a m x : Nat} {c : Cfg} {S : List SI} (h : AggIs w base a m c S) {l : Array Value} {t : TypeId} {fr : Nat × Nat} (hx : w.heap[x]? = some (.cells l t fr))
   (ht : t ≠ 98 ∧ t ≠ 181 ∧ t ≠ 183 ∧ t ≠ 294 ∧ t ≠ 298 ∧ t ≠ 338 ∧ t ≠ 2) (hu : Upd (fun k => k = x) w w') : AggIs w' base a m c S:=by
 have ne : ∀ (k : Nat) (l' : Array Value) (t' : TypeId) (fr' : Nat × Nat),w.heap[k]? = some (.cells l' t' fr') → t' ≠ t → ¬ k = x:=by
   rintro k l' t' fr' hk hne rfl
   rw [hx] at hk; simp at hk; exact hne hk.2.1.symm
 have nm : ¬ m = x:=by rintro rfl; have:=h.map; rw [hx] at this; simp at this
 refine ⟨hu.heap h.blk (ne _ _ _ _ h.blk (fun e => ht.1 e.symm)),hu.heap h.map nm,fun i s hs => ?_,h.dis,h.lo,h.slo⟩
 have hst:=h.st i s hs
 obtain ⟨_,hbt,_⟩:=hst.blk
 obtain ⟨_,hrt⟩:=hst.row
 refine hst.upd hu (ne _ _ _ _ hbt (fun e => ht.2.1 e.symm)) (ne _ _ _ _ hrt (fun e => ht.2.2.1 e.symm)) fun A hA => ?_
 obtain ⟨n,hn⟩:=List.getElem?_of_mem hA
 obtain ⟨zs,hz,hl⟩:=hst.mem hn
 exact ⟨hl.nob _ hx ht.2.2.2.1 ht.2.2.2.2.1,hl.nog _ hx ht.2.2.2.2.2.1,hl.nor _ hx ht.2.2.2.2.2.2⟩
theorem wCells_set (a : Nat) (c : Cfg) (G : List Int) (i : Nat) (hi : i < G.length) (v : Int) : (wCells a c G).toArray.setIfInBounds (6 + i) (.int .i64 v) = (wCells a c (G.set i v)).toArray:=by
 apply Array.ext'
 unfold wCells
 simp only [Array.toList_setIfInBounds,List.map_set]
 rw [List.set_append_right _ _ (by simp)]
 simp only [List.length_cons,List.length_nil,Nat.zero_add,Nat.reduceAdd,Nat.add_sub_cancel_left]
 rfl
theorem WIs.set {w : World} {base x a m : Nat} {c : Cfg} {S : List SI} {G : List Int} (h : WIs w base x a m c S G) {i : Nat} (hi : i < 192) (v : Int) : WIs (w.setCell ⟨x,6 + i,none⟩ (.int .i64 v)) base x a m c S (G.set i v):=by
 refine ⟨?_,by rw [List.length_set]; exact h.len,h.agg.other h.blk (by decide) (Upd.store (S:=fun k => k = x) w x (6 + i) _ rfl),h.three,h.lo⟩
 rw [heap_setCell_same _ _ _ _ _ _ h.blk,wCells_set a c G i (by rw [h.len]; exact hi)]
def WB (x a m : Nat) (S : List SI) (k : Nat) : Prop:=k = x ∨ AggB a m S k
theorem WIs.no {w : World} {base x a m : Nat} {c : Cfg} {S : List SI} {G : List Int} (h : WIs w base x a m c S G) {l : Array Value} {t : TypeId} {fr : Nat × Nat} (k : Nat) (hk : w.heap[k]? = some (.cells l t fr)) (h1 : t ≠ 2) (h2 : t ≠ 98) (h3 : t ≠ 35) : ¬ WB x a m S k:=by
 rintro (rfl | hr)
 · have:=h.blk; rw [hk] at this; simp at this; exact h3 this.2.1
 · exact h.agg.no k hk h1 h2 hr
theorem WIs.base {w : World} {base x a m : Nat} {c : Cfg} {S : List SI} {G : List Int} (h : WIs w base x a m c S G) : ∀ k,WB x a m S k → base ≤ k:=by
 rintro k (rfl | hk)
 · exact h.lo
 · exact h.agg.base k hk
theorem WIs.line {w w' : World} {base x a m : Nat} {c : Cfg} {S S' : List SI} {G : List Int} (h : WIs w base x a m c S G) (hA : AggIs w' base a m c S') (hu : Upd (AggB a m S) w w') (h3 : S'.length = 3) : WIs w' base x a m c S' G:=
 ⟨hu.heap h.blk (h.agg.no x h.blk (by decide) (by decide)),h.len,hA,h3,h.lo⟩
end Go.Proofs.YtejaocnhekjfiaaGreatDoor
namespace Go.Proofs.YtejaocnhekjfiaaGreatDoor.S02
open Go.RowKit
set_option linter.unusedVariables false
def pw (i : Nat) : Int:=(65536 : Int) ^ i
theorem pw_pos (i : Nat) : 0 < pw i:=Int.pow_pos (by omega)
theorem pw_succ (i : Nat) : pw (i + 1) = pw i * 65536:=by unfold pw; rw [Int.pow_succ]
theorem pw_add (i k : Nat) : pw (i + k) = pw i * pw k:=by unfold pw; rw [Int.pow_add]
theorem pw_zero : pw 0 = 1:=rfl
def dg (v : Int) (i : Nat) : Int:=v / pw i % 65536
theorem dg_range (v : Int) (i : Nat) : 0 ≤ dg v i ∧ dg v i ≤ 65535:=by unfold dg; omega
def lw (v : Int) (i : Nat) : Int:=v % pw i
theorem lw_range (v : Int) (i : Nat) : 0 ≤ lw v i ∧ lw v i < pw i:=by
 have h:=pw_pos i
 exact ⟨Int.emod_nonneg _ (by omega),Int.emod_lt_of_pos _ h⟩
theorem lw_zero (v : Int) : lw v 0 = 0:=by unfold lw; rw [pw_zero]; omega
theorem div_succ (v : Int) (i : Nat) : v / pw (i + 1) = v / pw i / 65536:=by
 rw [pw_succ,Int.ediv_ediv_of_nonneg (Int.le_of_lt (pw_pos i))]
theorem split_at (v : Int) (i : Nat) : v = pw i * (v / pw i) + lw v i:=by unfold lw; exact (Int.mul_ediv_add_emod v (pw i)).symm
theorem div_of {M q r : Int} (hM : 0 < M) : (M * q + r) / M = q + r / M:=by
 rw [Int.add_comm,Int.add_mul_ediv_left _ _ (by omega),Int.add_comm]
def cy (a b : Int) (i : Nat) : Int:=(lw a i + lw b i) / pw i
theorem cy_range (a b : Int) (i : Nat) : 0 ≤ cy a b i ∧ cy a b i ≤ 1:=by
 have h:=pw_pos i
 have h1:=lw_range a i
 have h2:=lw_range b i
 unfold cy
 refine ⟨Int.ediv_nonneg (by omega) (by omega),?_⟩
 have : (lw a i + lw b i) / pw i < 2:=by
   apply Int.ediv_lt_of_lt_mul h
   omega
 omega
theorem cy_zero (a b : Int) : cy a b 0 = 0:=by unfold cy; rw [lw_zero,lw_zero]; rfl
theorem add_div (a b : Int) (i : Nat) : (a + b) / pw i = a / pw i + b / pw i + cy a b i:=by
 have h:=pw_pos i
 have h1:=split_at a i
 have h2:=split_at b i
 unfold cy
 have h3 : a + b = pw i * (a / pw i + b / pw i) + (lw a i + lw b i):=by rw [Int.mul_add]; omega
 conv => lhs; rw [h3]
 rw [div_of h]
theorem cy_eq (a b : Int) (i : Nat) : cy a b i = (a + b) / pw i - a / pw i - b / pw i:=by rw [add_div]; omega
theorem sum_dig (a b : Int) (i : Nat) : (dg a i + dg b i + cy a b i) % 65536 = dg (a + b) i:=by
 unfold dg; rw [add_div]; omega
theorem sum_carry (a b : Int) (i : Nat) : (dg a i + dg b i + cy a b i) / 65536 = cy a b (i + 1):=by
 rw [cy_eq a b (i + 1),div_succ,div_succ,div_succ,add_div]; unfold dg; omega
theorem not_dig (a : Int) (i : Nat) : 65535 - dg a i = dg (-1 - a) i:=by
 have h:=pw_pos i
 have h1:=split_at a i
 have h2:=lw_range a i
 have h3 : (-1 - a) / pw i = -1 - a / pw i:=by
   have h4 : -1 - a = pw i * (-1 - a / pw i) + (pw i - 1 - lw a i):=by rw [Int.mul_sub]; omega
   have h5 : (pw i - 1 - lw a i) / pw i = 0:=Int.ediv_eq_zero_of_lt (by omega) (by omega)
   have h6 : (pw i * (-1 - a / pw i) + (pw i - 1 - lw a i)) / pw i = -1 - a / pw i:=by rw [div_of h,h5]; omega
   rw [← h4] at h6; exact h6
 unfold dg; rw [h3]; omega
theorem dg_add_high (v c : Int) (i j : Nat) (h : j < i) : dg (v + c * pw i) j = dg v j:=by
 obtain ⟨d,rfl⟩ : ∃ d,i = j + 1 + d:=⟨i - j - 1,by omega⟩
 have hj:=pw_pos j
 unfold dg
 have e : c * pw (j + 1 + d) = (c * pw d * 65536) * pw j:=by rw [pw_add,pw_succ]; ac_rfl
 rw [e,Int.add_mul_ediv_right _ _ (by omega)]; omega
theorem dg_lw (a b : Int) (n j : Nat) (hj : j < n) : dg (lw a n * b) j = dg (a * b) j:=by
 have h1:=split_at a n
 have e : a * b = lw a n * b + (a / pw n * b) * pw n:=by
   conv => lhs; rw [h1]
   rw [Int.add_mul,Int.add_comm]
   congr 1
   ac_rfl
 rw [e]; exact (dg_add_high _ _ _ _ hj).symm
theorem dg_div10 (N : Int) (hN : 0 ≤ N) (i : Nat) : ((N / pw (i + 1)) % 10 * 65536 + dg N i) / 10 = dg (N / 10) i ∧ ((N / pw (i + 1)) % 10 * 65536 + dg N i) % 10 = (N / pw i) % 10:=by
 have h:=pw_pos i
 have e : N / 10 / pw i = N / pw i / 10:=by rw [Int.ediv_ediv_of_nonneg (by omega),Int.ediv_ediv_of_nonneg (Int.le_of_lt h),Int.mul_comm]
 unfold dg
 rw [e,div_succ]
 omega
end Go.Proofs.YtejaocnhekjfiaaGreatDoor.S02
namespace Go.Proofs.YtejaocnhekjfiaaGreatDoor.S02
open Go.RowKit
set_option linter.unusedVariables false
def arr (f : Nat → Int) : Array Value:=((List.range 10).map fun i => Value.int .i64 (f i)).toArray
theorem arr_size (f : Nat → Int) : (arr f).size = 10:=by simp [arr]
theorem arr_get (f : Nat → Int) (i : Nat) (h : i < 10) : (arr f)[i]? = some (.int .i64 (f i)):=by simp [arr,h]
theorem arr_congr {f g : Nat → Int} (h : ∀ i,i < 10 → f i = g i) : arr f = arr g:=by
 unfold arr
 congr 1
 apply List.map_congr_left
 intro i hi
 rw [h i (List.mem_range.1 hi)]
theorem arr_set (f : Nat → Int) (k : Nat) (x : Int) : (arr f).setIfInBounds k (.int .i64 x) = arr (fun i => if i = k then x else f i):=by
 apply Array.ext_getElem?
 intro i
 by_cases hi : i < 10
 · rw [Array.getElem?_setIfInBounds,arr_get _ _ hi,arr_get _ _ hi,arr_size]
   by_cases hk : k = i
   · subst hk; simp [hi]
   · simp [hk,Ne.symm hk]
 · rw [Array.getElem?_eq_none (by simp [arr_size]; omega),Array.getElem?_eq_none (by simp [arr_size]; omega)]
theorem arr_one (f : Nat → Int) : (arr f).all (·.oneCell') = true:=by
 rw [Array.all_eq_true_iff_forall_mem]
 intro v hv
 simp [arr] at hv
 obtain ⟨i,_,rfl⟩:=hv
 rfl
theorem zero30 (w : World) : (zeroValue 63).run Tryz.prog w = .ok (.agg (arr fun _ => 0)) w:=by kernel_rfl
theorem info30 : (Tryz.prog.info? 63).map (·.size) = some 10:=by kernel_rfl
attribute [irreducible] arr
def L (v : Int) : Value:=.agg (arr (dg v))
def upTo (v : Int) (k : Nat) : Nat → Int:=fun i => if i < k then dg v i else 0
theorem upTo_set (v : Int) (k : Nat) : (arr (upTo v k)).setIfInBounds k (.int .i64 (dg v k)) = arr (upTo v (k + 1)):=by
 rw [arr_set]
 apply arr_congr
 intro i hi
 unfold upTo
 by_cases h : i = k
 · subst h; simp
 · by_cases h2 : i < k
   · simp [h,h2,show i < k + 1 by omega]
   · simp [h,h2,show ¬ i < k + 1 by omega]
def At (w : World) (k : Nat) (f : Nat → Int) : Prop:=w.heap[k]? = some (.cells (arr f) 63 (0,0))
theorem At.cell {w k f} (h : At w k f) {i : Nat} (hi : i < 10) : w.cell? ⟨k,i,none⟩ = some (.int .i64 (f i)):=by rw [cell_of_row _ _ _ _ _ _ h,arr_get _ _ hi]
theorem At.frozen {w k f} (h : At w k f) (i : Nat) : w.frozen? ⟨k,i,none⟩ = false:=frozen_of_row _ _ _ _ _ h
theorem At.lt {w k f} (h : At w k f) : k < w.heap.size:=lt_of_block h
theorem At.alloc {w k f} (h : At w k f) (o : Obj) : At (w.alloc o) k f:=(heap_alloc_old w o h.lt).trans h
theorem At.new (w : World) (f : Nat → Int) {k : Nat} (hk : k = w.heap.size) : At (w.alloc (.cells (arr f) 63)) k f:=by subst hk; exact heap_alloc_new w _
theorem At.draw {w k f} (h : At w k f) (n : Nat) : At (w.drewN n) k f:=h
theorem At.below {w w' : World} {k f} (h : At w k f) (hb : Below w.heap.size w w') : At w' k f:=(hb.block k h.lt).trans h
theorem At.other {w k f} (h : At w k f) {g : Nat} (hg : k ≠ g) (i : Nat) (v : Value) : At (w.setCell ⟨g,i,none⟩ v) k f:=(heap_setCell_other _ _ _ _ hg).trans h
theorem At.set {w k f} (h : At w k f) (i : Nat) (x : Int) : At (w.setCell ⟨k,i,none⟩ (.int .i64 x)) k (fun j => if j = i then x else f j):=by
 unfold At; rw [heap_setCell_same _ _ _ _ _ _ h,arr_set]
theorem At.congr {w k f g} (h : At w k f) (hfg : ∀ i,i < 10 → f i = g i) : At w k g:=by unfold At at *; rw [h,arr_congr hfg]
theorem At.row {w k f} (h : At w k f) (g : Nat → Int) : At (w.setRow k (arr g)) k g:=setRow_heap _ _ _ _ _ _ h
theorem upTo_succ (v : Int) (k : Nat) (x : Int) (h : x = dg v k) (i : Nat) : (if i = k then x else upTo v k i) = upTo v (k + 1) i:=by
 subst h
 unfold upTo
 by_cases h : i = k
 · subst h; simp
 · by_cases h2 : i < k
   · simp [h,h2,show i < k + 1 by omega]
   · simp [h,h2,show ¬ i < k + 1 by omega]
theorem upTo_all (v : Int) (i : Nat) (h : i < 10) : upTo v 10 i = dg v i:=by simp [upTo,h]
theorem upTo_none (v : Int) (i : Nat) : (0 : Int) = upTo v 0 i:=by simp [upTo]
theorem below_four (w : World) (o0 o1 o2 o3 : Obj) : Below w.heap.size w ((((w.alloc o0).alloc o1).alloc o2).alloc o3):=
 ((((Below.refl _ _).alloc (Nat.le_refl _) _).alloc (by simp) _).alloc (by simp; omega) _).alloc (by simp; omega) _
theorem below_three (w : World) (o0 o1 o2 : Obj) : Below w.heap.size w (((w.alloc o0).alloc o1).alloc o2):=
 (((Below.refl _ _).alloc (Nat.le_refl _) _).alloc (by simp) _).alloc (by simp; omega) _
theorem below_row {B g : Nat} {w w' : World} (h : Below B w w') (hg : B ≤ g) (cs : Array Value) : Below B w (w'.setRow g cs):=
 ⟨h.os,h.tape,h.output,by rw [setRow_size]; exact h.size,fun k hk => (setRow_other _ _ _ _ (by omega)).trans (h.block k hk)⟩
set_option maxRecDepth 100000 in
set_option maxHeartbeats 1000000 in
theorem lplus_any (a b : Int) (w : World) :
   Calls Tryz.prog 24 #[L a,L b] w fun e w' => e = .returned (L (a + b)) ∧ Below w.heap.size w w':=by
 unfold L
 have hz:=zero30
 have HA:=Lib.hid (((((At.new w (dg a) rfl).alloc (.cells (arr (dg b)) 63)).alloc (.cells (arr fun _ => 0) 63)).alloc (.cells (arr fun _ => 0) 63)))
 have HB:=Lib.hid ((((At.new (w.alloc (.cells (arr (dg a)) 63)) (dg b) (k:=w.heap.size + 1) (by simp)).alloc (.cells (arr fun _ => 0) 63)).alloc (.cells (arr fun _ => 0) 63)))
 have HR:=Lib.hid (((At.new ((w.alloc (.cells (arr (dg a)) 63)).alloc (.cells (arr (dg b)) 63)) (fun _ => 0) (k:=w.heap.size + 1 + 1) (by simp)).alloc (.cells (arr fun _ => 0) 63)))
 have HO:=Lib.hid ((At.new (((w.alloc (.cells (arr (dg a)) 63)).alloc (.cells (arr (dg b)) 63)).alloc (.cells (arr fun _ => 0) 63)) (fun _ => 0) (k:=w.heap.size + 1 + 1 + 1) (by simp)))
 have H0:=Lib.hid (below_four w (.cells (arr (dg a)) 63) (.cells (arr (dg b)) 63) (.cells (arr fun _ => 0) 63) (.cells (arr fun _ => 0) 63))
 go_enter Tryz.func24,Tryz.ntmps24
 go_wp2
 clear hz
 generalize (((w.alloc (.cells (arr (dg a)) 63)).alloc (.cells (arr (dg b)) 63)).alloc (.cells (arr fun _ => 0) 63)).alloc (.cells (arr fun _ => 0) 63) = w0 at *
 go_loopw [6,7] (fun c i wr => ∃ k : Nat,k ≤ 10 ∧ i = .int .i64 k ∧ c = .int .i64 (cy a b k) ∧ At wr w.heap.size (dg a) ∧ At wr (w.heap.size + 1) (dg b) ∧ At wr (w.heap.size + 1 + 1) (fun _ => 0) ∧ At wr (w.heap.size + 1 + 1 + 1) (upTo (a + b) k) ∧ Below w.heap.size w wr) (fun _ i _ => 10 - (intOf i).toNat)
 case atStart => exact ⟨0,by omega,rfl,by rw [cy_zero],HA.out,HB.out,HR.out,HO.out.congr fun i _ => upTo_none _ i,H0.out⟩
 case round =>
   clear HA HB HR HO H0
   obtain ⟨k,hk,rfl,rfl,hA,hB,hR,hO,hb⟩:=hrel
   have HA:=Lib.hid hA; have HB:=Lib.hid hB; have HR:=Lib.hid hR; have HO:=Lib.hid hO; have H0:=Lib.hid hb
   clear hA hB hR hO hb
   by_cases hlt : k < 10
   · have ca:=HA.out.cell hlt
     have cb:=HB.out.cell hlt
     have co:=HO.out.cell hlt
     have fo:=HO.out.frozen k
     have S1:=Lib.hid (sum_dig a b k)
     have S2:=Lib.hid (sum_carry a b k)
     have r1:=dg_range a k
     have r2:=dg_range b k
     have r3:=cy_range a b k
     have i0 : (0 : Int) ≤ (k : Int):=by omega
     have i1 : (k : Int) < 10:=by omega
     generalize dg a k = x at *
     generalize dg b k = y at *
     generalize cy a b k = c at *
     go_wp2
     go_quiet (fail)
     go_wp2
     go_roundw
     case rel =>
       refine ⟨k + 1,by omega,by go_num,by rw [S2.out],((HA.out.draw _).other (by omega) _ _),((HB.out.draw _).other (by omega) _ _),((HR.out.draw _).other (by omega) _ _),((HO.out.draw _).set _ _).congr fun i _ => upTo_succ _ _ _ S1.out i,(Go.below_drewN H0.out _).setCell (by simp; omega) _⟩
     case measure => simp [intOf]; omega
   · obtain rfl : k = 10:=by omega
     have HO2:=Lib.hid (HO.out.congr fun i hi => upTo_all (a + b) i hi)
     clear HO
     go_wp2_with (first | (refine wpList_load_row rfl 63 (.tmp 5) rfl (w.heap.size + 1 + 1 + 1) rfl 63 _ _ _ HO2.out Tryz.underlying63 rfl (by rw [arr_size]; exact info30) ?_) | (refine wpList_store_row rfl 63 (.tmp 4) (.tmp 28) rfl (w.heap.size + 1 + 1) (arr (dg (a + b))) rfl rfl 63 _ HR.out (by rw [arr_size]; exact info30) (by rw [arr_size,arr_size]) (arr_one _) ?_))
     refine bodyPost_ret (v:=.agg (arr (dg (a + b)))) (results_cell_row rfl _ _ (w.heap.size + 1 + 1) 63 _ _ _ rfl (HR.out.row _) Tryz.underlying63 rfl (by rw [arr_size]; exact info30)) rfl ⟨rfl,?_⟩
     exact below_row H0.out (by omega) _
end Go.Proofs.YtejaocnhekjfiaaGreatDoor.S02
namespace Go.Proofs.YtejaocnhekjfiaaGreatDoor.S02
open Go.RowKit
set_option linter.unusedVariables false
theorem pw_mono {i k : Nat} (h : i ≤ k) : pw i ≤ pw k:=by
 obtain ⟨d,rfl⟩ : ∃ d,k = i + d:=⟨k - i,by omega⟩
 rw [pw_add]
 have h1:=pw_pos i
 have h2:=pw_pos d
 have:=Int.mul_le_mul_of_nonneg_left (show (1 : Int) ≤ pw d by omega) (Int.le_of_lt h1)
 omega
theorem dg_high {n : Int} {k : Nat} (h : 0 ≤ n) (h2 : n < pw k) : dg n k = 0:=by unfold dg; rw [Int.ediv_eq_zero_of_lt h h2]; rfl
theorem dg_neg {n : Int} {k : Nat} (h : n < 0) (h2 : -pw k ≤ n) : dg n k = 65535:=by
 have:=not_dig (-1 - n) k
 rw [dg_high (by omega) (by omega)] at this
 rw [show -1 - (-1 - n) = n by omega] at this
 omega
theorem pw4 : pw 4 = 18446744073709551616:=rfl
theorem shift_pw (k : Nat) : (2 : Int) ^ (16 * k) = pw k:=by unfold pw; rw [Int.pow_mul]; rfl
theorem dg_low64 (n : Int) (k : Nat) (h : k < 4) : n % 18446744073709551616 / pw k % 65536 = dg n k:=by
 have:=dg_lw n 1 4 k h
 rw [Int.mul_one,Int.mul_one] at this
 rw [← this]; unfold dg lw; rw [pw4]
theorem and_u64 (x : Int) : bits BinOp.and IntKind.u64 x 65535 = x % 65536:=by
 show IntKind.u64.wrap ((BitVec.ofInt 64 x &&& BitVec.ofInt 64 65535).toNat : Int) = _
 have e : (BitVec.ofInt 64 65535).toNat = 2 ^ 16 - 1:=by decide
 rw [BitVec.toNat_and,e,Nat.and_two_pow_sub_one_eq_mod,BitVec.toNat_ofInt,IntKind.wrap_u64]
 omega
theorem wrap64_dig (x : Int) : wrap64 (x % 65536) = x % 65536:=by unfold wrap64; omega
theorem shr_dig (n : Int) (k : Nat) (h : k < 4) : wrap64 (bits BinOp.and IntKind.u64 (IntKind.u64.wrap n / 2 ^ (16 * k)) 65535) = dg n k:=by
 rw [and_u64,wrap64_dig,shift_pw,IntKind.wrap_u64,dg_low64 n k h]
theorem shr_dig' (n : Int) (k : Nat) (h : k < 4) (h0 : 0 ≤ n) (h1 : n ≤ 9223372036854775807) : wrap64 (bits BinOp.and IntKind.u64 (n / 2 ^ (16 * k)) 65535) = dg n k:=by
 have:=shr_dig n k h
 rwa [IntKind.wrap_u64,Int.emod_eq_of_lt h0 (by omega)] at this
theorem dg64_high {n : Int} {k : Nat} (h4 : 4 ≤ k) (h2 : n ≤ 9223372036854775807) (h0 : 0 ≤ n) : dg n k = 0:=
 dg_high h0 (by have:=pw_mono h4; rw [pw4] at this; omega)
theorem dg64_neg {n : Int} {k : Nat} (h4 : 4 ≤ k) (h2 : -9223372036854775808 ≤ n) (h0 : n < 0) : dg n k = 65535:=
 dg_neg h0 (by have:=pw_mono h4; rw [pw4] at this; omega)
set_option maxRecDepth 100000 in
set_option maxHeartbeats 1000000 in
theorem lofint_any (n : Int) (w : World) (h1 : -9223372036854775808 ≤ n) (h2 : n ≤ 9223372036854775807) :
   Calls Tryz.prog 23 #[.int .i64 n] w fun e w' => e = .returned (L n) ∧ Below w.heap.size w w':=by
 unfold L
 have hz:=zero30
 have HR:=Lib.hid ((At.new w (fun _ => 0) rfl).alloc (.cells (arr fun _ => 0) 63))
 have HO:=Lib.hid (At.new (w.alloc (.cells (arr fun _ => 0) 63)) (fun _ => 0) (k:=w.heap.size + 1) (by simp))
 have H0:=Lib.hid (show Below w.heap.size w ((w.alloc (.cells (arr fun _ => 0) 63)).alloc (.cells (arr fun _ => 0) 63)) from ((Below.refl _ _).alloc (Nat.le_refl _) _).alloc (by simp) _)
 go_enter Tryz.func23,Tryz.ntmps23
 go_wp2
 clear hz
 generalize (w.alloc (.cells (arr fun _ => 0) 63)).alloc (.cells (arr fun _ => 0) 63) = w0 at *
 go_loopw [4] (fun i wr => ∃ k : Nat,k ≤ 10 ∧ i = .int .i64 k ∧ At wr w.heap.size (fun _ => 0) ∧ At wr (w.heap.size + 1) (upTo n k) ∧ Below w.heap.size w wr) (fun i _ => 10 - (intOf i).toNat)
 case atStart => exact ⟨0,by omega,rfl,HR.out,HO.out.congr fun i _ => upTo_none _ i,H0.out⟩
 case round =>
   clear HR HO H0
   obtain ⟨k,hk,rfl,hR,hO,hb⟩:=hrel
   have HR:=Lib.hid hR; have HO:=Lib.hid hO; have H0:=Lib.hid hb
   clear hR hO hb
   by_cases hlt : k < 10
   · have co:=HO.out.cell hlt
     have fo:=HO.out.frozen k
     have i0 : (0 : Int) ≤ (k : Int):=by omega
     have i1 : (k : Int) < 10:=by omega
     have hB : w.heap.size ≤ w.heap.size + 1:=by omega
     by_cases hn : n < 0 <;> by_cases h4 : k < 4
     · go_wp2
       go_roundw
       case rel =>
         refine ⟨k + 1,by omega,by go_num,((HR.out.other (by omega) _ _).other (by omega) _ _).other (by omega) _ _,(((HO.out.set _ _).set _ _).set _ _).congr fun i _ => ?_,((H0.out.setCell hB _).setCell hB _).setCell hB _⟩
         rw [← upTo_succ n k _ (shr_dig n k h4) i]; by_cases e : i = k <;> simp [e]
       case measure => simp [intOf]; omega
     · go_wp2
       go_roundw
       case rel =>
         refine ⟨k + 1,by omega,by go_num,((HR.out.other (by omega) _ _).other (by omega) _ _),(((HO.out.set _ _).set _ _)).congr fun i _ => ?_,((H0.out.setCell hB _).setCell hB _)⟩
         rw [← upTo_succ n k _ (dg64_neg (by omega) h1 hn).symm i]; by_cases e : i = k <;> simp [e]
       case measure => simp [intOf]; omega
     · go_wp2
       go_roundw
       case rel =>
         refine ⟨k + 1,by omega,by go_num,((HR.out.other (by omega) _ _).other (by omega) _ _),(((HO.out.set _ _).set _ _)).congr fun i _ => ?_,((H0.out.setCell hB _).setCell hB _)⟩
         rw [← upTo_succ n k _ (shr_dig' n k h4 (by omega) h2) i]; by_cases e : i = k <;> simp [e]
       case measure => simp [intOf]; omega
     · go_wp2
       go_roundw
       case rel =>
         refine ⟨k + 1,by omega,by go_num,(HR.out.other (by omega) _ _),((HO.out.set _ _)).congr fun i _ => ?_,(H0.out.setCell hB _)⟩
         rw [← upTo_succ n k _ (dg64_high (by omega) h2 (by omega)).symm i]
       case measure => simp [intOf]; omega
   · obtain rfl : k = 10:=by omega
     have HO2:=Lib.hid (HO.out.congr fun i hi => upTo_all n i hi)
     clear HO
     go_wp2_with (first | (refine wpList_load_row rfl 63 (.tmp 3) rfl (w.heap.size + 1) rfl 63 _ _ _ HO2.out Tryz.underlying63 rfl (by rw [arr_size]; exact info30) ?_) | (refine wpList_store_row rfl 63 (.tmp 2) (.tmp 27) rfl w.heap.size (arr (dg n)) rfl rfl 63 _ HR.out (by rw [arr_size]; exact info30) (by rw [arr_size,arr_size]) (arr_one _) ?_))
     refine bodyPost_ret (v:=.agg (arr (dg n))) (results_cell_row rfl _ _ w.heap.size 63 _ _ _ rfl (HR.out.row _) Tryz.underlying63 rfl (by rw [arr_size]; exact info30)) rfl ⟨rfl,?_⟩
     exact below_row H0.out (by omega) _
end Go.Proofs.YtejaocnhekjfiaaGreatDoor.S02
namespace Go.Proofs.YtejaocnhekjfiaaGreatDoor.S02
open Go.RowKit
set_option linter.unusedVariables false
theorem dg_one (i : Nat) (h : i < 10) : (if i = 0 then 1 else 0) = dg 1 i:=by
 unfold dg
 rcases i with _ | i
 · rfl
 · rw [if_neg (by omega),Int.ediv_eq_zero_of_lt (by omega) (by have:=pw_mono (show 1 ≤ i + 1 by omega); have h1 : pw 1 = 65536:=rfl; omega)]; rfl
set_option maxRecDepth 100000 in
set_option maxHeartbeats 1000000 in
theorem lminus_any (a : Int) (w : World) :
   Calls Tryz.prog 26 #[L a] w fun e w' => e = .returned (L (-a)) ∧ Below w.heap.size w w':=by
 have kp:=fun w => lplus_any (-1 - a) 1 w
 rw [show -1 - a + 1 = -a by omega] at kp
 unfold L at *
 have KP:=Lib.hid kp; clear kp
 have hz:=zero30
 have HA:=Lib.hid (((At.new w (dg a) rfl).alloc (.cells (arr fun _ => 0) 63)).alloc (.cells (arr fun _ => 0) 63))
 have HR:=Lib.hid ((At.new (w.alloc (.cells (arr (dg a)) 63)) (fun _ => 0) (k:=w.heap.size + 1) (by simp)).alloc (.cells (arr fun _ => 0) 63))
 have HO:=Lib.hid (At.new ((w.alloc (.cells (arr (dg a)) 63)).alloc (.cells (arr fun _ => 0) 63)) (fun _ => 0) (k:=w.heap.size + 1 + 1) (by simp))
 have H0:=Lib.hid (below_three w (.cells (arr (dg a)) 63) (.cells (arr fun _ => 0) 63) (.cells (arr fun _ => 0) 63))
 go_enter Tryz.func26,Tryz.ntmps26
 go_wp2
 generalize ((w.alloc (.cells (arr (dg a)) 63)).alloc (.cells (arr fun _ => 0) 63)).alloc (.cells (arr fun _ => 0) 63) = w0 at *
 go_loopw [4] (fun i wr => ∃ k : Nat,k ≤ 10 ∧ i = .int .i64 k ∧ At wr w.heap.size (dg a) ∧ At wr (w.heap.size + 1) (fun _ => 0) ∧ At wr (w.heap.size + 1 + 1) (upTo (-1 - a) k) ∧ Below w.heap.size w wr) (fun i _ => 10 - (intOf i).toNat)
 case atStart => exact ⟨0,by omega,rfl,HA.out,HR.out,HO.out.congr fun i _ => upTo_none _ i,H0.out⟩
 case round =>
   clear HR HO H0 HA
   obtain ⟨k,hk,rfl,hA,hR,hO,hb⟩:=hrel
   have HA:=Lib.hid hA; have HR:=Lib.hid hR; have HO:=Lib.hid hO; have H0:=Lib.hid hb
   clear hA hR hO hb
   by_cases hlt : k < 10
   · have ca:=HA.out.cell hlt
     have co:=HO.out.cell hlt
     have fo:=HO.out.frozen k
     have i0 : (0 : Int) ≤ (k : Int):=by omega
     have i1 : (k : Int) < 10:=by omega
     have r1:=dg_range a k
     have S1:=Lib.hid (not_dig a k)
     generalize dg a k = x at *
     go_wp2
     go_roundw
     case rel => exact ⟨k + 1,by omega,by go_num,HA.out.other (by omega) _ _,HR.out.other (by omega) _ _,(HO.out.set _ _).congr fun i _ => upTo_succ _ _ _ S1.out i,H0.out.setCell (by simp; omega) _⟩
     case measure => simp [intOf]; omega
   · obtain rfl : k = 10:=by omega
     have HO2:=Lib.hid (HO.out.congr fun i hi => upTo_all _ i hi)
     have hone : (arr fun _ => 0).setIfInBounds 0 (.int .i64 1) = arr (dg 1):=by rw [arr_set]; exact arr_congr fun i hi => dg_one i hi
     have HN:=Lib.hid (At.new wr (fun _ => 0) rfl)
     have cn:=HN.out.cell (show 0 < 10 by omega)
     have fn:=HN.out.frozen 0
     have HN2:=Lib.hid (At.new wr (dg 1) rfl)
     have HO3:=Lib.hid (HO2.out.alloc (.cells (arr (dg 1)) 63))
     have HR3:=Lib.hid (HR.out.alloc (.cells (arr (dg 1)) 63))
     have H3:=Lib.hid (H0.out.alloc H0.out.size (.cells (arr (dg 1)) 63))
     clear HO HO2 HN
     go_wp2_with (first | (refine wpList_load_row rfl 63 (.tmp 3) rfl (w.heap.size + 1 + 1) rfl 63 _ _ _ HO3.out Tryz.underlying63 rfl (by rw [arr_size]; exact info30) ?_) | (refine wpList_load_row rfl 63 (.tmp 5) rfl wr.heap.size rfl 63 _ _ _ HN2.out Tryz.underlying63 rfl (by rw [arr_size]; exact info30) ?_))
     clear cn fn hone hz
     generalize wr.alloc (.cells (arr (dg 1)) 63) = w2 at *
     refine (KP.out _).mono ?_
     rintro e w3 ⟨rfl,hb3⟩
     have HR4:=Lib.hid (HR3.out.below hb3)
     have H4:=Lib.hid (H3.out.trans (hb3.mono H3.out.size))
     clear hb3
     go_wp2_with (refine wpList_store_row rfl 63 (.tmp 2) (.tmp 19) rfl (w.heap.size + 1) (arr (dg (-a))) rfl rfl 63 _ HR4.out (by rw [arr_size]; exact info30) (by rw [arr_size,arr_size]) (arr_one _) ?_)
     refine bodyPost_ret (v:=.agg (arr (dg (-a)))) (results_cell_row rfl _ _ (w.heap.size + 1) 63 _ _ _ rfl (HR4.out.row _) Tryz.underlying63 rfl (by rw [arr_size]; exact info30)) rfl ⟨rfl,?_⟩
     exact below_row H4.out (by omega) _
def Mid (a : Int) : Prop:=-730750818665451459101842416358141509827966271488 ≤ a ∧ a < 730750818665451459101842416358141509827966271488
theorem pw9 : pw 9 = 22300745198530623141535718272648361505980416:=rfl
theorem dg9 {a : Int} (h : Mid a) : decide (32768 ≤ dg a 9) = decide (a < 0):=by
 congr 1; apply propext
 unfold Mid at h
 unfold dg; rw [pw9]; omega
set_option maxRecDepth 100000 in
theorem lbelow_any (a : Int) (w : World) (h : Mid a) :
   Calls Tryz.prog 25 #[L a] w fun e w' => e = .returned (.bool (decide (a < 0))) ∧ Below w.heap.size w w':=by
 rw [← dg9 h]
 unfold L
 have HA:=At.new w (dg a) rfl
 have c9:=HA.cell (show 9 < 10 by omega)
 clear HA h
 go_enter Tryz.func25,Tryz.ntmps25
 go_wp2
 go_ret
 exact ⟨rfl,(Below.refl _ _).alloc (Nat.le_refl _) _⟩
end Go.Proofs.YtejaocnhekjfiaaGreatDoor.S02
namespace Go.Proofs.YtejaocnhekjfiaaGreatDoor.S02
open Go.RowKit
set_option linter.unusedVariables false
theorem pw10 : pw 10 = 1461501637330902918203684832716283019655932542976:=rfl
theorem fits_mid {a : Int} (h : Fits a) : Mid a:=by unfold Fits at h; unfold Mid; omega
end Go.Proofs.YtejaocnhekjfiaaGreatDoor.S02
