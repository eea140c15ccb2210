/- Walks and plain laws, part 15: Ag13 Rng Qnt Ag14 Txt4 Ag15 Wk Wk2 Tm1 Tm2. -/
import Derived.Test.YtejaocnhekjfiaaGreatDoorM02
import Derived.Test.YtejaocnhekjfiaaGreatDoorM06
import Derived.Test.YtejaocnhekjfiaaGreatDoorM10
import Derived.Test.YtejaocnhekjfiaaGreatDoorM12
import Derived.Test.YtejaocnhekjfiaaGreatDoorM13
import Derived.Test.YtejaocnhekjfiaaGreatDoorM14
import Derived.Deep.DeepCutAuto
namespace Go.Proofs.YtejaocnhekjfiaaGreatDoor
open Go.RowKit
set_option linter.unusedVariables false
def FoundV (w : World) (fs : List ((Nat × Nat) × Int)) (e : Ending) (w' : World) : Prop:=∃ v,e = .returned (.tuple #[.iface 154 (.agg #[v]),.int .i64 0]) ∧ w'.ownsRow w.heap.size 160 3 v fs.length (fcells fs)
set_option maxRecDepth 100000 in
set_option maxHeartbeats 1000000 in
theorem query_heavy {w : World} {base a m : Nat} {c : Cfg} {S : List SI} (h : AggIs w base a m c S) {i : Nat} {s : SI} (hs : S[i]? = some s) (al : Option Addr) (cl : Nat) (least : Int) (budget : Nat) (fs : List ((Nat × Nat) × Int)) (hr : Row w al 2 [.int .i64 least,.int .i64 budget]) (KR : ∀ w',Below w.heap.size w w' → Calls Tryz.prog 92 #[.pointer (some ⟨s.p,0,none⟩),.int .i64 least,.int .i64 budget] w' fun e w2 => ∃ v,e = .returned (.tuple #[v,.int .i64 0]) ∧ w2.ownsRow w'.heap.size 160 3 v fs.length (fcells fs) ∧ Below w'.heap.size w' w2) :
   Calls Tryz.prog 54 #[.pointer (some ⟨a,0,none⟩),.agg #[.string ⟨#[104,101,97,118,121]⟩,.int .i64 ((i : Int) + 1),.slice al 2 cl]] w fun e w' => FoundV w fs e w' ∧ AggIs w' base a m c S ∧ Below w.heap.size w w':=by
 have hb1:=(Below.refl w.heap.size w).alloc (Nat.le_refl _) (.cells #[.string ⟨#[104,101,97,118,121]⟩,.int .i64 ((i : Int) + 1),.slice al 2 cl] 127)
 have hbx:=heap_alloc_new w (.cells #[.string ⟨#[104,101,97,118,121]⟩,.int .i64 ((i : Int) + 1),.slice al 2 cl] 127)
 have hA:=h.keep hb1
 generalize hW : w.alloc (.cells #[.string ⟨#[104,101,97,118,121]⟩,.int .i64 ((i : Int) + 1),.slice al 2 cl] 127) = W1 at hb1 hbx hA
 have HW:=Lib.hid hW
 have hc0:=hA.c0
 have d0 : W1.cell? ⟨w.heap.size,0,none⟩ = some (.string ⟨#[104,101,97,118,121]⟩):=(cell_of_row _ _ _ _ _ _ hbx).trans rfl
 have d1 : W1.cell? ⟨w.heap.size,1,none⟩ = some (.int .i64 ((i : Int) + 1)):=(cell_of_row _ _ _ _ _ _ hbx).trans rfl
 have hsp : (S.map SI.p)[i]? = some s.p:=by rw [List.getElem?_map,hs]; rfl
 have hlook:=fun (w' : World) (hw : w'.heap[m]? = some (.map (ents (S.map SI.p)) S.length)) => look_yes hw hsp
 have hkt:=fun w => tstack_any s.p w
 unfold thingV at hlook hkt
 have KT:=Lib.hid hkt
 have hmm:=hA.map
 have hm1 : ((W1.alloc (.cells #[.pointer none,.pointer none] 114)).drew).heap[m]? = some (.map (ents (S.map SI.p)) S.length):=(Below.heap_alloc _ _ _ (lt_of_block hmm)).trans hmm
 have l1:=hlook W1.drew hmm
 have l2:=hlook (W1.alloc (.cells #[.pointer none,.pointer none] 114)).drew hm1
 have hb2:=((Below.refl W1.heap.size W1).alloc (Nat.le_refl _) (.cells #[.pointer (some ⟨s.p,0,none⟩),.pointer none] 114)).drew
 have hbm : ((W1.alloc (.cells #[.pointer (some ⟨s.p,0,none⟩),.pointer none] 114)).drew).heap[W1.heap.size]? = some (.cells #[.pointer (some ⟨s.p,0,none⟩),.pointer none] 114 (0,0)):=heap_alloc_new W1 (.cells #[.pointer (some ⟨s.p,0,none⟩),.pointer none] 114)
 have hc0':=fun o => cell_make hc0 o
 have d1':=fun o => cell_make d1 o
 have KP:=Lib.hid (fun (w' : World) (hbw : Below W1.heap.size W1 w') => KR w' (hb1.then hbw))
 obtain ⟨b0,o0,ha0,hr0,hl0⟩:=hr.2 0 (.int .i64 least) rfl
 obtain ⟨b1,o1,ha1,hr1,hl1⟩:=hr.2 1 (.int .i64 budget) rfl
 rw [ha0] at ha1
 simp only [Option.some.injEq,Addr.mk.injEq,and_true] at ha1
 obtain ⟨rfl,rfl⟩:=ha1
 subst ha0
 have R0:=Lib.hid ((hb1.cell (p:=⟨b0,o0 + 0,none⟩) hl0).trans hr0)
 have R1:=Lib.hid ((hb1.cell (p:=⟨b0,o0 + 1,none⟩) hl1).trans hr1)
 have RL:=Lib.hid (Nat.lt_of_lt_of_le hl0 hb1.size)
 clear hr hr0 hr1 hl0 hl1 KR
 have HA:=Lib.hid hA
 have HS:=Lib.hid hs
 have HB1:=Lib.hid hb1
 have HX:=Lib.hid hbx
 have HB2:=Lib.hid hb2
 have HBM:=Lib.hid hbm
 clear hkt hlook hmm hm1 h hs hb1 hbx hA hsp hb2 hbm d0
 go_enter Tryz.func54,Tryz.ntmps54
 go_wp2_with fail
 clear hW
 go_cut [6,7] (fun s6 s7 wx => s6 = .pointer (some ⟨W1.heap.size,0,none⟩) ∧ s7 = .bool true ∧ wx = (W1.alloc (.cells #[.pointer (some ⟨s.p,0,none⟩),.pointer none] 114)).drew)
 case first =>
   go_region
   all_goals go_wp2_with fail
   all_goals go_meet
   all_goals exact ⟨rfl,rfl,rfl⟩
 case rest =>
   obtain ⟨rfl,rfl,hwc⟩:=hcut
   clear l1 l2 hc0 hc0' d1 d1'
   have d0:=((HB2.out).cell (p:=⟨w.heap.size,0,none⟩) (lt_of_block HX.out)).trans ((cell_of_row _ _ _ _ _ _ HX.out).trans rfl)
   have d2:=((HB2.out).cell (p:=⟨w.heap.size,2,none⟩) (lt_of_block HX.out)).trans ((cell_of_row _ _ _ _ _ _ HX.out).trans rfl)
   have e0 : ((W1.alloc (.cells #[.pointer (some ⟨s.p,0,none⟩),.pointer none] 114)).drew).cell? ⟨W1.heap.size,0,none⟩ = some (.pointer (some ⟨s.p,0,none⟩)):=(cell_of_row _ _ _ _ _ _ HBM.out).trans rfl
   have e1 : ((W1.alloc (.cells #[.pointer (some ⟨s.p,0,none⟩),.pointer none] 114)).drew).cell? ⟨W1.heap.size,1,none⟩ = some (.pointer none):=(cell_of_row _ _ _ _ _ _ HBM.out).trans rfl
   rw [← hwc] at d0 d2 e0 e1 HBM HB2
   clear hwc
   obtain ⟨X,hX⟩ : ∃ x : World,x = wc:=⟨_,rfl⟩
   subst hX
   go_wp2_with fail
   ((with_reducible refine (KT.out X).mono ?_); rintro e w2 ⟨rfl,rfl⟩)
   have hb3:=HB2.out.alloc HB2.out.size (.cells #[.pointer (some ⟨s.p,0,none⟩),.pointer none] 114)
   have c0:=cell_make d0 (.cells #[.pointer (some ⟨s.p,0,none⟩),.pointer none] 114)
   have c2:=cell_make d2 (.cells #[.pointer (some ⟨s.p,0,none⟩),.pointer none] 114)
   clear d0 d2 e0 e1
   generalize hY : X.alloc (.cells #[.pointer (some ⟨s.p,0,none⟩),.pointer none] 114) = Y at *
   have HB3:=Lib.hid hb3
   clear hY hb3
   go_upto_region 22 with fail
   have hc2:=c2
   have f2 : ∀ w',Below Y.heap.size Y w' → w'.cell? ⟨w.heap.size,2,none⟩ = some (.slice (some ⟨b0,o0,none⟩) 2 cl):=fun w' hb => (hb.cell (p:=⟨w.heap.size,2,none⟩) (block_lt_of_cell c2)).trans c2
   have g0 : ∀ w',Below Y.heap.size Y w' → w'.cell? ⟨b0,o0,none⟩ = some (.int .i64 least):=fun w' hb => ((HB3.out.then hb).cell (p:=⟨b0,o0,none⟩) RL.out).trans R0.out
   have g1 : ∀ w',Below Y.heap.size Y w' → w'.cell? ⟨b0,o0 + 1,none⟩ = some (.int .i64 budget):=fun w' hb => ((HB3.out.then hb).cell (p:=⟨b0,o0 + 1,none⟩) RL.out).trans R1.out
   have F2:=Lib.hid f2; have G0:=Lib.hid g0; have G1:=Lib.hid g1
   clear f2 g0 g1 hc2 c2
   have T:=Lib.hid (Below.refl Y.heap.size Y).drew
   refine wp_region_phase (by kernel_rfl) ?_
   refine wpAnyH_take (i:=0) (oi:=⟨_,_,_,_,_,_⟩) (v:=?vv0) rfl (by kernel_rfl) (by kernel_rfl) (by kernel_rfl) (fun _ _ _ h => h) (Or.inl ⟨by rfl,?yy0⟩) T.out ?_
   case yy0 => (intro w' hw'; go_simp; try with_reducible rfl)
   try simp only [Act.put,List.setIfInBounds_toArray,List.set_cons_zero,List.set_cons_succ]
   refine wpAnyH_take (i:=1) (oi:=⟨_,_,_,_,_,_⟩) (v:=?vv1) rfl (by kernel_rfl) (by kernel_rfl) (by kernel_rfl) (fun _ _ _ h => h) (Or.inl ⟨by rfl,?yy1⟩) T.out ?_
   case yy1 => (intro w' hw'; go_simp; try with_reducible rfl)
   try simp only [Act.put,List.setIfInBounds_toArray,List.set_cons_zero,List.set_cons_succ]
   refine wpAnyH_take (i:=2) (oi:=⟨_,_,_,_,_,_⟩) (v:=?vv2) rfl (by kernel_rfl) (by kernel_rfl) (by kernel_rfl) (fun _ _ _ h => h) (Or.inl ⟨by rfl,?yy2⟩) T.out ?_
   case yy2 => (intro w' hw'; have c2:=F2.out w' hw'; have g0:=G0.out w' hw'; have g1:=G1.out w' hw'; go_simp; try with_reducible rfl)
   try simp only [Act.put,List.setIfInBounds_toArray,List.set_cons_zero,List.set_cons_succ]
   refine wpAnyH_take (i:=3) (oi:=⟨_,_,_,_,_,_⟩) (v:=?vv3) rfl (by kernel_rfl) (by kernel_rfl) (by kernel_rfl) (fun _ _ _ h => h) (Or.inl ⟨by rfl,?yy3⟩) T.out ?_
   case yy3 => (intro w' hw'; go_simp; try with_reducible rfl)
   try simp only [Act.put,List.setIfInBounds_toArray,List.set_cons_zero,List.set_cons_succ]
   refine wpAnyH_take (i:=4) (oi:=⟨_,_,_,_,_,_⟩) (v:=?vv4) rfl (by kernel_rfl) (by kernel_rfl) (by kernel_rfl) (fun _ _ _ h => h) (Or.inl ⟨by rfl,?yy4⟩) T.out ?_
   case yy4 => (intro w' hw'; have c2:=F2.out w' hw'; have g0:=G0.out w' hw'; have g1:=G1.out w' hw'; go_simp; try with_reducible rfl)
   try simp only [Act.put,List.setIfInBounds_toArray,List.set_cons_zero,List.set_cons_succ]
   refine wpAnyH_take (i:=5) (oi:=⟨_,_,_,_,_,_⟩) (v:=?vv5) rfl (by kernel_rfl) (by kernel_rfl) (by kernel_rfl) (fun _ _ _ h => h) (Or.inl ⟨by rfl,?yy5⟩) T.out ?_
   case yy5 => (intro w' hw'; go_simp; try with_reducible rfl)
   try simp only [Act.put,List.setIfInBounds_toArray,List.set_cons_zero,List.set_cons_succ]
   refine wpAnyH_take (i:=6) (oi:=⟨_,_,_,_,_,_⟩) (v:=?vv6) rfl (by kernel_rfl) (by kernel_rfl) (by kernel_rfl) (fun _ _ _ h => h) (Or.inl ⟨by rfl,?yy6⟩) T.out ?_
   case yy6 => (intro w' hw'; have c2:=F2.out w' hw'; have g0:=G0.out w' hw'; have g1:=G1.out w' hw'; go_simp; try with_reducible rfl)
   try simp only [Act.put,List.setIfInBounds_toArray,List.set_cons_zero,List.set_cons_succ]
   refine wpAnyH_take (i:=7) (oi:=⟨_,_,_,_,_,_⟩) (v:=?vv7) rfl (by kernel_rfl) (by kernel_rfl) (by kernel_rfl) (fun _ _ _ h => h) (Or.inl ⟨by rfl,?yy7⟩) T.out ?_
   case yy7 => (intro w' hw'; go_simp; try with_reducible rfl)
   try simp only [Act.put,List.setIfInBounds_toArray,List.set_cons_zero,List.set_cons_succ]
   refine wpAnyH_take (i:=8) (oi:=⟨_,_,_,_,_,_⟩) (v:=?vv8) rfl (by kernel_rfl) (by kernel_rfl) (by kernel_rfl) (fun _ _ _ h => h) (Or.inl ⟨by rfl,?yy8⟩) T.out ?_
   case yy8 => (intro w' hw'; have c2:=F2.out w' hw'; have g0:=G0.out w' hw'; have g1:=G1.out w' hw'; go_simp; try with_reducible rfl)
   try simp only [Act.put,List.setIfInBounds_toArray,List.set_cons_zero,List.set_cons_succ]
   refine wpAnyH_ready (rs:=[9]) (by kernel_rfl) (by simp) ?_
   refine AllReadyH.cons (o:=⟨_,_,_,_,_,_⟩) rfl (fun K hK => ?_) AllReadyH.nil
   go_simp
   with_reducible refine (KP.out _ (HB3.out.then T.out)).mono ?_
   rintro e w3 ⟨v,rfl,hown,hb⟩
   have HO:=Lib.hid hown
   have HLY:=Lib.hid T.out.size
   obtain ⟨ao,co,hao⟩ : ∃ ao co,v = .slice ao fs.length co:=(by rcases hown.2 with ⟨rfl,e0⟩ | ⟨gg,cc,_,rfl,_⟩; exact ⟨none,0,by rw [e0]⟩; exact ⟨_,_,rfl⟩)
   subst hao
   have T:=Lib.hid (T.out.then hb)
   clear hb hown
   refine hK.out _ _ T.out (fun hHeld => ?_)
   clear hK K hHeld
   try simp only [Act.put,List.setIfInBounds_toArray,List.set_cons_zero,List.set_cons_succ]
   refine wpAnyH_take (i:=10) (oi:=⟨_,_,_,_,_,_⟩) (v:=?vv10) rfl (by kernel_rfl) (by kernel_rfl) (by kernel_rfl) (fun _ _ _ h => h) (Or.inl ⟨by rfl,?yy10⟩) T.out ?_
   case yy10 => (intro w' hw'; go_simp; try with_reducible rfl)
   try simp only [Act.put,List.setIfInBounds_toArray,List.set_cons_zero,List.set_cons_succ]
   refine wpAnyH_take (i:=11) (oi:=⟨_,_,_,_,_,_⟩) (v:=?vv11) rfl (by kernel_rfl) (by kernel_rfl) (by kernel_rfl) (fun _ _ _ h => h) (Or.inl ⟨by rfl,?yy11⟩) T.out ?_
   case yy11 => (intro w' hw'; go_simp; try with_reducible rfl)
   try simp only [Act.put,List.setIfInBounds_toArray,List.set_cons_zero,List.set_cons_succ]
   refine wpAnyH_take (i:=12) (oi:=⟨_,_,_,_,_,_⟩) (v:=?vv12) rfl (by kernel_rfl) (by kernel_rfl) (by kernel_rfl) (fun _ _ _ h => h) (Or.inl ⟨by rfl,?yy12⟩) T.out ?_
   case yy12 => (intro w' hw'; go_simp; try with_reducible rfl)
   try simp only [Act.put,List.setIfInBounds_toArray,List.set_cons_zero,List.set_cons_succ]
   refine wpAnyH_take (i:=13) (oi:=⟨_,_,_,_,_,_⟩) (v:=?vv13) rfl (by kernel_rfl) (by kernel_rfl) (by kernel_rfl) (fun _ _ _ h => h) (Or.inl ⟨by rfl,?yy13⟩) T.out ?_
   case yy13 => (intro w' hw'; go_simp; try with_reducible rfl)
   try simp only [Act.put,List.setIfInBounds_toArray,List.set_cons_zero,List.set_cons_succ]
   refine wpAnyH_take (i:=14) (oi:=⟨_,_,_,_,_,_⟩) (v:=?vv14) rfl (by kernel_rfl) (by kernel_rfl) (by kernel_rfl) (fun _ _ _ h => h) (Or.inl ⟨by rfl,?yy14⟩) T.out ?_
   case yy14 => (intro w' hw'; go_simp; try with_reducible rfl)
   try simp only [Act.put,List.setIfInBounds_toArray,List.set_cons_zero,List.set_cons_succ]
   refine wpAnyH_done (by kernel_rfl) ?_ _
   go_wp2_with fail
   go_ret2
   exact ⟨⟨_,rfl,ownsRow_base HO.out (Nat.le_trans HB1.out.size (Nat.le_trans HB3.out.size HLY.out))⟩,HA.out.keep (HB3.out.then T.out),HB1.out.then (HB3.out.then T.out)⟩
end Go.Proofs.YtejaocnhekjfiaaGreatDoor
namespace Go.Proofs.YtejaocnhekjfiaaGreatDoor
open Go.RowKit
set_option linter.unusedVariables false
set_option maxRecDepth 100000 in
set_option maxHeartbeats 1000000 in
theorem range_ok {w : World} {p q : Nat} {c : Cfg} {L : List LA} {C : List (List Int)} (h : StackIs w p q c L C) (lo hi : Nat) (hlo : lo < 18446744073709551616) (hhi : hi < 18446744073709551616) (hok : S14.okC c.bits lo hi = true)
   (hP : ∀ x ∈ S14.covL c.bits lo hi,x.1 ≤ c.bits ∧ x.2 < 2 ^ (c.bits - x.1)) (hlen : (S14.covL c.bits lo hi).length ≤ 1000) (vs : List Int) (hvs : (S14.covL c.bits lo hi).map (partV c C) = vs) (hin : S02.In64 vs) (r : Int) (hr : S02.smallV (S02.sm vs) = .tuple #[.int .i64 r,.bool true]) :
   Calls Tryz.prog 90 #[.pointer (some ⟨p,0,none⟩),.int .u64 lo,.int .u64 hi] w fun e w' => e = .returned (.tuple #[.int .i64 r,.int .i64 0]) ∧ Below w.heap.size w w':=by
 have K1:=parts_ok h lo hi hlo hhi hok hP hlen
 have hl : vs.length ≤ 1000:=by rw [← hvs,List.length_map]; exact hlen
 rw [hvs] at K1
 have K1:=Lib.hid K1
 have K2:=Lib.hid (fun ad cap w1 (hrow : Row w1 ad vs.length (vs.map (Value.int .i64))) => S02.sum_any vs ad vs.length cap w1 hrow hin (by omega))
 rw [hr] at K2
 clear hP hlen hok h hvs hin hr
 go_enter Tryz.func90,Tryz.ntmps90
 go_wp2_with fail
 refine K1.out.mono ?_
 rintro e w1 ⟨ad,cap,rfl,hrow,hb⟩
 have HB:=Lib.hid hb
 have HR:=Lib.hid hrow
 clear hb hrow
 go_wp2_with fail
 refine (K2.out _ _ _ HR.out).mono ?_
 rintro e w2 ⟨rfl,hb⟩
 have HB2:=Lib.hid (HB.out.then hb)
 clear hb
 go_wp2_with fail
 go_ret2
 exact ⟨rfl,HB2.out⟩
end Go.Proofs.YtejaocnhekjfiaaGreatDoor
namespace Go.Proofs.YtejaocnhekjfiaaGreatDoor
open Go.RowKit
set_option linter.unusedVariables false
open S14 (PRow)
set_option maxRecDepth 100000 in
set_option maxHeartbeats 1000000 in
theorem quantile_ok {w : World} {p q : Nat} {c : Cfg} {L : List LA} {C : List (List Int)} (h : StackIs w p q c L C) (k0 : Int) (V : Int) (hV : V ≤ 1125899906842624) (hfit : ∀ l i,l ≤ c.bits → i < 2 ^ (c.bits - l) → -V ≤ partV c C (l,i) ∧ partV c C (l,i) ≤ V) (h1 : 1 ≤ k0) (h2 : k0 ≤ partV c C (c.bits,0))
   (x : Nat × Nat) (hx : (wayL c C c.bits 0 k0)[c.bits]? = some x) :
   Calls Tryz.prog 91 #[.pointer (some ⟨p,0,none⟩),.int .i64 k0] w fun e w' => e = .returned (.tuple #[.int .u64 x.2,.int .i64 0]) ∧ Below w.heap.size w w':=by
 have K:=Lib.hid (way_ok h k0 V hV hfit h1 h2)
 have hb59:=h.ok.b59
 have hw1 : IntKind.i64.wrap (((c.bits + 1 : Nat) : Int) - 1) = (c.bits : Int):=by rw [IntWalk.i64_in _ (by omega)]; omega
 have hw2 : IntKind.i64.wrap ((c.bits : Int) + 1 - 1) = (c.bits : Int):=by rw [IntWalk.i64_in _ (by omega)]; omega
 have hbI : (c.bits : Int) < (c.bits : Int) + 1:=by omega
 have HX:=Lib.hid hx
 clear h hfit hx
 go_enter Tryz.func91,Tryz.ntmps91
 go_wp2_with fail
 refine K.out.mono ?_
 rintro e w1 ⟨ad,cap,rfl,hrow,hb⟩
 obtain ⟨g,rfl,c0,c1⟩:=hrow.cells HX.out
 have HB:=Lib.hid hb
 clear hb hrow
 go_wp2_with fail
 go_ret2
 exact ⟨rfl,HB.out⟩
end Go.Proofs.YtejaocnhekjfiaaGreatDoor
namespace Go.Proofs.YtejaocnhekjfiaaGreatDoor
open Go.RowKit
set_option linter.unusedVariables false
open S25 (I64 numLine LineOk Tabs PlainW)
theorem line_range {w : World} {base a m : Nat} {c : Cfg} {S : List SI} (h : AggIs w base a m c S) (hT : Tabs w) {i : Nat} (hi : i < 20) {s : SI} (hs : S[i]? = some s) (lo hi2 : Nat) (hl1 : lo ≤ 9223372036854775807) (hl2 : hi2 ≤ 9223372036854775807) (r : Int)
   (hrI : -9223372036854775808 ≤ r ∧ r ≤ 9223372036854775807)
   (hok : S14.okC c.bits lo hi2 = true) (hP : ∀ x ∈ S14.covL c.bits lo hi2,x.1 ≤ c.bits ∧ x.2 < 2 ^ (c.bits - x.1)) (hlen : (S14.covL c.bits lo hi2).length ≤ 1000) (vs : List Int) (hvs : (S14.covL c.bits lo hi2).map (partV c s.C) = vs) (hin : S02.In64 vs) (hr : S02.smallV (S02.sm vs) = .tuple #[.int .i64 r,.bool true]) :
   Calls Tryz.prog 11 #[.pointer (some ⟨a,0,none⟩),.string (numLine vRange [(i : Int) + 1,lo,hi2])] w (ReadPost w base a m c S (bNumber ++ numT r)):=by
 have hst:=h.st i s hs
 have h1:=i64_handle hi
 have h2:=i64_nat hl1
 have h3:=i64_nat hl2
 refine (line_ok (t:=bNumber ++ numT r) (R:=fun v w2 => v = .iface 142 (.agg #[.int .i64 r]) ∧ AggIs w2 base a m c S ∧ Below w.heap.size w w2) a _ hT (line_fits (ok3 vRange_plain (by decide) h1 h2 h3)) (parse_range h1 h2 h3) (fun w1 v hb1 hv => ?_) (fun v w2 hR => ?_)).mono ?_
 · obtain ⟨al,cl,rfl,hr2⟩:=hv
   refine do_query a vRange ((i : Int) + 1) al 2 cl (fun w' hbw => ?_)
   refine (query_range (h.keep (hb1.then hbw)) hs al cl lo hi2 r (hr2.below hbw) hl1 hl2 (fun w3 hb3 => range_ok (hst.below ((hb1.then hbw).then hb3)) lo hi2 (by omega) (by omega) hok hP hlen vs hvs hin r hr)).mono ?_
   rintro e w2 ⟨rfl,hA',hu⟩
   exact ⟨_,rfl,rfl,hA',(hb1.then hbw).then hu⟩
 · obtain ⟨rfl,_,hu⟩:=hR
   exact text_number _ hrI w2 (hT.below hu)
 · rintro e w' ⟨rfl,v,w2,⟨_,hA',hu⟩,hb2⟩
   exact ⟨rfl,hA'.keep hb2,hu.then hb2⟩
theorem line_quantile {w : World} {base a m : Nat} {c : Cfg} {S : List SI} (h : AggIs w base a m c S) (hT : Tabs w) {i : Nat} (hi : i < 20) {s : SI} (hs : S[i]? = some s) (k0 : Int) (V : Int) (hV : V ≤ 1125899906842624)
   (hfit : ∀ l i,l ≤ c.bits → i < 2 ^ (c.bits - l) → -V ≤ partV c s.C (l,i) ∧ partV c s.C (l,i) ≤ V) (h1 : 1 ≤ k0) (h2 : k0 ≤ partV c s.C (c.bits,0)) (x : Nat × Nat) (hx : (wayL c s.C c.bits 0 k0)[c.bits]? = some x) (hx2 : x.2 < 100) :
   Calls Tryz.prog 11 #[.pointer (some ⟨a,0,none⟩),.string (numLine vQuantile [(i : Int) + 1,k0])] w (ReadPost w base a m c S (bKey ++ numT (x.2 : Int))):=by
 have hst:=h.st i s hs
 have g1:=i64_handle hi
 have hb:=(hfit c.bits 0 (Nat.le_refl _) (Nat.pow_pos (by decide))).2
 have g2 : I64 k0:=⟨by omega,by omega⟩
 refine (line_ok (t:=bKey ++ numT (x.2 : Int)) (R:=fun v w2 => v = .iface 145 (.agg #[.int .u64 x.2]) ∧ AggIs w2 base a m c S ∧ Below w.heap.size w w2) a _ hT (line_fits (ok2 vQuantile_plain (by decide) g1 g2)) (parse_quantile g1 g2) (fun w1 v hb1 hv => ?_) (fun v w2 hR => ?_)).mono ?_
 · obtain ⟨al,cl,rfl,hr2⟩:=hv
   refine do_query a vQuantile ((i : Int) + 1) al 1 cl (fun w' hbw => ?_)
   refine (query_quantile (h.keep (hb1.then hbw)) hs al cl k0 x.2 (hr2.below hbw) (fun w3 hb3 => quantile_ok (hst.below ((hb1.then hbw).then hb3)) k0 V hV hfit h1 h2 x hx)).mono ?_
   rintro e w2 ⟨rfl,hA',hu⟩
   exact ⟨_,rfl,rfl,hA',(hb1.then hbw).then hu⟩
 · obtain ⟨rfl,_,hu⟩:=hR
   exact text_key _ hx2 w2
 · rintro e w' ⟨rfl,v,w2,⟨_,hA',hu⟩,hb2⟩
   exact ⟨rfl,hA'.keep hb2,hu.then hb2⟩
end Go.Proofs.YtejaocnhekjfiaaGreatDoor
namespace Go.Proofs.YtejaocnhekjfiaaGreatDoor
open Go.RowKit
set_option linter.unusedVariables false
def foundT (f : (Nat × Nat) × Int) : ByteArray:=((((⟨#[32]⟩ : ByteArray) ++ numT f.1.1) ++ ⟨#[58]⟩ ++ numT f.1.2) ++ ⟨#[58]⟩) ++ numT f.2
theorem strCells_app (a b : ByteArray) : Lib.strCells (a ++ b) = Lib.strCells a ++ Lib.strCells b:=by
 unfold Lib.strCells; rw [ByteArray.data_append,Array.toList_append,List.map_append]
def FoundOk (f : (Nat × Nat) × Int) : Prop:=f.1.1 < 100 ∧ f.1.2 < 100 ∧ -9223372036854775808 ≤ f.2 ∧ f.2 ≤ 9223372036854775807
theorem foundT_size {f : (Nat × Nat) × Int} (h : FoundOk f) : (foundT f).size ≤ 66:=by
 have z1:=numT_size (f.1.1 : Int) ⟨by have:=h.1; omega,by have:=h.1; omega⟩
 have z2:=numT_size (f.1.2 : Int) ⟨by have:=h.2.1; omega,by have:=h.2.1; omega⟩
 have z3:=numT_size f.2 h.2.2
 unfold foundT
 simp only [ByteArray.size_append]
 show 1 + _ + 1 + _ + 1 + _ ≤ 66
 omega
theorem founds_size : ∀ (l : List ((Nat × Nat) × Int)) (t : ByteArray),(∀ f ∈ l,FoundOk f) → (l.foldl (fun t f => t ++ foundT f) t).size ≤ t.size + 66 * l.length
 | [],t,_ => by simp
 | f :: l,t,h => by
   have h1:=founds_size l (t ++ foundT f) (fun g hg => h g (List.mem_cons_of_mem _ hg))
   have h2:=foundT_size (h f List.mem_cons_self)
   rw [ByteArray.size_append] at h1
   rw [List.foldl_cons,List.length_cons]
   omega
theorem fcells_get : ∀ (l : List ((Nat × Nat) × Int)) (k : Nat) (f : (Nat × Nat) × Int),l[k]? = some f →
   (fcells l)[k * 3]? = some (.int .i64 f.1.1) ∧ (fcells l)[k * 3 + 1]? = some (.int .u64 f.1.2) ∧ (fcells l)[k * 3 + 2]? = some (.int .i64 f.2)
 | [],k,f,h => by simp at h
 | g :: l,0,f,h => by
   obtain rfl : g = f:=by simpa using h
   exact ⟨rfl,rfl,rfl⟩
 | g :: l,k + 1,f,h => by
   have e : fcells (g :: l) = [.int .i64 g.1.1,.int .u64 g.1.2,.int .i64 g.2] ++ fcells l:=rfl
   obtain ⟨h1,h2,h3⟩:=fcells_get l k f (by simpa using h)
   have sk : ∀ j,(fcells (g :: l))[(k + 1) * 3 + j]? = (fcells l)[k * 3 + j]?:=fun j => by
     rw [e,List.getElem?_append_right (by simp; omega)]
     congr 1
     simp; omega
   exact ⟨(sk 0).trans h1,(sk 1).trans h2,(sk 2).trans h3⟩
theorem owns_cell {w : World} {base : Nat} {e : TypeId} {size : Nat} {ao : Option Addr} {n co : Nat} {xs : List Value} (h : w.ownsRow base e size (.slice ao n co) n xs) (hn : 0 < n) :
   ∃ g,ao = some ⟨g,0,none⟩ ∧ n ≤ co ∧ ∀ j u,xs[j]? = some u → g < w.heap.size ∧ w.cell? ⟨g,j,none⟩ = some u:=by
 rcases h.2 with ⟨_,h0⟩ | ⟨g,cap,cur,e1,hb,hg,hnc,hcm,hcs,ht⟩
 · omega
 · cases e1
   refine ⟨g,rfl,hnc,fun j u hu => ⟨lt_of_block hg,?_⟩⟩
   rw [cell_of_row _ _ _ _ _ _ hg]
   rw [← ht,List.getElem?_take] at hu
   split at hu
   · rw [← hu]; simp
   · cases hu
set_option maxRecDepth 100000 in
set_option maxHeartbeats 2000000 in
theorem text_list (fs : List ((Nat × Nat) × Int)) (v : Value) (w : World) (hT : S25.Tabs w) (base : Nat) (hv : w.ownsRow base 160 3 v fs.length (fcells fs)) (hn : fs.length ≤ 100) (hs : ∀ f ∈ fs,f.1.1 < 100 ∧ f.1.2 < 100 ∧ -9223372036854775808 ≤ f.2 ∧ f.2 ≤ 9223372036854775807) :
   Calls Tryz.prog 35 #[.iface 154 (.agg #[v])] w fun e w' => e = .returned (.string (fs.foldl (fun t f => t ++ foundT f) ⟨#[108,105,115,116]⟩)) ∧ Below w.heap.size w w':=by
 have KW:=Lib.hid (fun (b : Nat) (w' : World) (h : Lib.IsBuilder 137 5 w.heap.size b [] w') (hs : w.heap.size ≤ w'.heap.size) => wstring_any w.heap.size b [] ⟨#[108,105,115,116]⟩ w' h (by decide) hs)
 obtain ⟨ao,co,rfl⟩ : ∃ ao co,v = .slice ao fs.length co:=by
   rcases hv.2 with ⟨rfl,e0⟩ | ⟨gg,cc,_,rfl,_⟩
   · exact ⟨none,0,by rw [e0]⟩
   · exact ⟨_,_,rfl⟩
 have HV:=Lib.hid hv
 have HS:=Lib.hid hs
 have HT:=Lib.hid hT
 have HN:=Lib.hid hn
 clear hv hs hT
 go_enter Tryz.func35,Tryz.ntmps35
 go_wp2_with fail
 refine (KW.out _ _ (IsBuilder.keep (Lib.fresh_isBuilder 137 5 w) ((Below.refl _ _).alloc (Nat.le_refl _) _)) (by simp; omega)).mono ?_
 rintro e w1 ⟨rfl,hB,hb,hk⟩
 rw [List.nil_append] at hB
 have hx0 : ((w.alloc (.cells #[.pointer none,.slice none 0 0] 137)).alloc (.cells #[.slice ao fs.length co] 154)).heap[w.heap.size + 1]? = some (.cells #[.slice ao fs.length co] 154 (0,0)):=by
   have:=heap_alloc_new (w.alloc (.cells #[.pointer none,.slice none 0 0] 137)) (.cells #[.slice ao fs.length co] 154)
   rwa [World.size_alloc] at this
 have hx1:=hk _ _ hx0 (by simp) (by intro c fz e; simp at e)
 have c0 : w1.cell? ⟨w.heap.size + 1,0,none⟩ = some (.slice ao fs.length co):=(cell_of_row _ _ _ _ _ _ hx1).trans rfl
 have hb1 : Below w.heap.size w w1:=(((Below.refl _ _).alloc (Nat.le_refl _) _).alloc (by simp) _).trans hb
 have HB:=Lib.hid hB
 have HB1:=Lib.hid hb1
 clear hB hb hk hx0 hx1 hb1
 generalize hn0 : fs.length = n at *
 have HL:=Lib.hid hn0
 clear hn0
 go_wp2_with fail
 go_loopw [11,54] (fun x i wr => ∃ k : Nat,k ≤ n ∧ i = .int .i64 k ∧ Hid (Lib.IsBuilder 137 5 w.heap.size w.heap.size (Lib.strCells ((fs.take k).foldl (fun t f => t ++ foundT f) ⟨#[108,105,115,116]⟩)) wr) ∧ Hid (Below w.heap.size w wr)) (fun x i _ => n - (intOf i).toNat)
 case atStart => exact ⟨0,Nat.zero_le _,rfl,Lib.hid (by rw [List.take_zero]; exact HB.out),HB1⟩
 case round =>
   obtain ⟨k,hk,rfl,hB,hbw⟩:=hrel
   by_cases hlt : k < n
   · have hgo : decide ((k : Int) < (n : Int)) = true:=by simpa using hlt
     obtain ⟨f,hfk⟩ : ∃ f,fs[k]? = some f:=⟨_,List.getElem?_eq_getElem (by rw [HL.out]; exact hlt)⟩
     obtain ⟨g,rfl,hnc,hcel⟩:=owns_cell HV.out (by omega)
     obtain ⟨q0,q1,q2⟩:=fcells_get fs k f hfk
     have hfo:=HS.out f (List.mem_of_getElem? hfk)
     have d0 : wr.cell? ⟨g,k * 3,none⟩ = some (.int .i64 f.1.1):=(hbw.out.cell (p:=⟨g,k * 3,none⟩) (hcel _ _ q0).1).trans (hcel _ _ q0).2
     have d1 : wr.cell? ⟨g,k * 3 + 1,none⟩ = some (.int .u64 f.1.2):=(hbw.out.cell (p:=⟨g,k * 3 + 1,none⟩) (hcel _ _ q1).1).trans (hcel _ _ q1).2
     have d2 : wr.cell? ⟨g,k * 3 + 2,none⟩ = some (.int .i64 f.2):=(hbw.out.cell (p:=⟨g,k * 3 + 2,none⟩) (hcel _ _ q2).1).trans (hcel _ _ q2).2
     have HSN:=Lib.hid (show (fs.take (k + 1)).foldl (fun t f => t ++ foundT f) ⟨#[108,105,115,116]⟩ = (fs.take k).foldl (fun t f => t ++ foundT f) ⟨#[108,105,115,116]⟩ ++ foundT f by
       rw [List.take_add_one,hfk]; exact List.foldl_append ..)
     have hsz:=founds_size (fs.take k) ⟨#[108,105,115,116]⟩ (fun f hf => HS.out f (List.mem_of_mem_take hf))
     have hsz2 : ((fs.take k).foldl (fun t f => t ++ foundT f) ⟨#[108,105,115,116]⟩).size ≤ 10000:=by
       have h1 : (fs.take k).length ≤ k:=List.length_take_le _ _
       have h2 : (⟨#[108,105,115,116]⟩ : ByteArray).size = 4:=rfl
       omega
     have HSZ:=Lib.hid hsz2
     have K1:=Tryz.strconv_Itoa_small f.1.1 hfo.1
     rw [numT_small] at K1
     have K2:=fuint_small f.1.2 hfo.2.1
     have K3:=fun w' (hb : Below w.heap.size w w') => Tryz.strconv_FormatInt_10 f.2 hfo.2.2.1 hfo.2.2.2 w' (HT.out.below hb).pow
     rw [show (⟨(Lib.itoa f.2).toArray⟩ : ByteArray) = numT f.2 from rfl] at K3
     have z1:=numT_size (f.1.1 : Int) ⟨by have:=hfo.1; omega,by have:=hfo.1; omega⟩
     have z2:=numT_size (f.1.2 : Int) ⟨by have:=hfo.2.1; omega,by have:=hfo.2.1; omega⟩
     have z3:=numT_size f.2 hfo.2.2
     have K1:=Lib.hid K1
     have K2:=Lib.hid K2
     have K3:=Lib.hid K3
     have HF:=Lib.hid (show foundT f = ((((⟨#[32]⟩ : ByteArray) ++ numT f.1.1) ++ ⟨#[58]⟩ ++ numT f.1.2) ++ ⟨#[58]⟩) ++ numT f.2 from rfl)
     generalize numT (f.1.1 : Int) = s1 at *
     generalize numT (f.1.2 : Int) = s2 at *
     generalize numT f.2 = s3 at *
     have n1 : ¬ 9223372036854775807 < 1 + s1.size:=by omega
     have n2 : ¬ 9223372036854775807 < 1 + s1.size + 1:=by omega
     have n3 : ¬ 9223372036854775807 < 1 + s1.size + 1 + s2.size:=by omega
     have n4 : ¬ 9223372036854775807 < 1 + s1.size + 1 + s2.size + 1:=by omega
     have n5 : ¬ 9223372036854775807 < 1 + s1.size + 1 + s2.size + 1 + s3.size:=by omega
     have n6 : 1 + s1.size + 1 + s2.size + 1 + s3.size ≤ 70:=by omega
     have HNE:=Lib.hid (show wr.heap.size ≠ w.heap.size from fun e => by
       rcases hB.out with ⟨_,v,h2,_⟩ | ⟨_,v,h2,_⟩
       · have:=lt_of_block h2; omega
       · have:=lt_of_block h2; omega)
     have HLEN:=Lib.hid (show (Lib.strCells ((fs.take k).foldl (fun t f => t ++ foundT f) ⟨#[108,105,115,116]⟩)).length + (((((⟨#[32]⟩ : ByteArray) ++ s1) ++ ⟨#[58]⟩ ++ s2) ++ ⟨#[58]⟩) ++ s3).size ≤ 140737488355328 by
       rw [Lib.strCells_length]
       simp only [ByteArray.size_append]
       have h1 : (⟨#[32]⟩ : ByteArray).size = 1:=rfl
       have h2 : (⟨#[58]⟩ : ByteArray).size = 1:=rfl
       omega)
     have HHLT:=Lib.hid hlt
     have hltI : (k : Int) < (n : Int):=by omega
     have hkn : (k : Int) ≤ 9223372036854775806:=by have:=HN.out; omega
     clear hfk hcel q0 q1 q2 hfo hsz hsz2 z1 z2 z3 n6 hlt
     go_upto_region 24 with fail
     have hxb:=heap_alloc_new wr (.cells #[.int .i64 f.1.1,.int .u64 f.1.2,.int .i64 f.2] 160)
     have hB2:=IsBuilder.keep hB.out ((Below.refl wr.heap.size wr).alloc (Nat.le_refl _) (.cells #[.int .i64 f.1.1,.int .u64 f.1.2,.int .i64 f.2] 160))
     have hbw2:=hbw.out.alloc hbw.out.size (.cells #[.int .i64 f.1.1,.int .u64 f.1.2,.int .i64 f.2] 160)
     generalize hX : wr.alloc (.cells #[.int .i64 f.1.1,.int .u64 f.1.2,.int .i64 f.2] 160) = X at *
     have HXB:=Lib.hid hxb
     have HB2:=Lib.hid hB2
     have HBW2:=Lib.hid hbw2
     clear hX hxb hB2 hbw2 d0 d1 d2
     have A0:=Lib.hid (show ∀ w' : World,w'.heap[wr.heap.size]? = some (.cells #[.int .i64 f.1.1,.int .u64 f.1.2,.int .i64 f.2] 160 (0,0)) →
         w'.cell? ⟨wr.heap.size,0,none⟩ = some (.int .i64 f.1.1) ∧ w'.cell? ⟨wr.heap.size,1,none⟩ = some (.int .u64 f.1.2) ∧ w'.cell? ⟨wr.heap.size,2,none⟩ = some (.int .i64 f.2) from
       fun w' h => ⟨(cell_of_row _ _ _ _ _ _ h).trans rfl,(cell_of_row _ _ _ _ _ _ h).trans rfl,(cell_of_row _ _ _ _ _ _ h).trans rfl⟩)
     have T:=Lib.hid (Below.refl X.heap.size X).drew
     have A1:=Lib.hid (fun (w' : World) (hb : Below X.heap.size X w') => A0.out w' ((hb.block _ (lt_of_block HXB.out)).trans HXB.out))
     refine wp_region_held (S:=fun w' => w'.cell? ⟨wr.heap.size,0,none⟩ = some (.int .i64 f.1.1) ∧ w'.cell? ⟨wr.heap.size,1,none⟩ = some (.int .u64 f.1.2) ∧ w'.cell? ⟨wr.heap.size,2,none⟩ = some (.int .i64 f.2)) (by kernel_rfl) ?_
     refine wpAnyH_take (i:=0) (oi:=⟨_,_,_,_,_,_⟩) (v:=?vvb0) rfl (by kernel_rfl) (by kernel_rfl) (by kernel_rfl) (fun _ _ _ h => h) (Or.inl ⟨by rfl,?yyb0⟩) (A1.out _ T.out) ?_
     case yyb0 => (intro w' hw'; go_simp; try with_reducible rfl)
     try simp only [Act.put,List.setIfInBounds_toArray,List.set_cons_zero,List.set_cons_succ]
     refine wpAnyH_take (i:=1) (oi:=⟨_,_,_,_,_,_⟩) (v:=?vvb1) rfl (by kernel_rfl) (by kernel_rfl) (by kernel_rfl) (fun _ _ _ h => h) (Or.inl ⟨by rfl,?yyb1⟩) (A1.out _ T.out) ?_
     case yyb1 => (intro w' hw'; go_simp; try with_reducible rfl)
     try simp only [Act.put,List.setIfInBounds_toArray,List.set_cons_zero,List.set_cons_succ]
     refine wpAnyH_take (i:=2) (oi:=⟨_,_,_,_,_,_⟩) (v:=?vvb2) rfl (by kernel_rfl) (by kernel_rfl) (by kernel_rfl) (fun _ _ _ h => h) (Or.inl ⟨by rfl,?yyb2⟩) (A1.out _ T.out) ?_
     case yyb2 => (intro w' hw'; obtain ⟨c0,c1,c2⟩:=hw'; go_simp; try with_reducible rfl)
     try simp only [Act.put,List.setIfInBounds_toArray,List.set_cons_zero,List.set_cons_succ]
     refine wpAnyH_take (i:=6) (oi:=⟨_,_,_,_,_,_⟩) (v:=?vvb6) rfl (by kernel_rfl) (by kernel_rfl) (by kernel_rfl) (fun _ _ _ h => h) (Or.inl ⟨by rfl,?yyb6⟩) (A1.out _ T.out) ?_
     case yyb6 => (intro w' hw'; go_simp; try with_reducible rfl)
     try simp only [Act.put,List.setIfInBounds_toArray,List.set_cons_zero,List.set_cons_succ]
     refine wpAnyH_take (i:=7) (oi:=⟨_,_,_,_,_,_⟩) (v:=?vvb7) rfl (by kernel_rfl) (by kernel_rfl) (by kernel_rfl) (fun _ _ _ h => h) (Or.inl ⟨by rfl,?yyb7⟩) (A1.out _ T.out) ?_
     case yyb7 => (intro w' hw'; go_simp; try with_reducible rfl)
     try simp only [Act.put,List.setIfInBounds_toArray,List.set_cons_zero,List.set_cons_succ]
     refine wpAnyH_take (i:=8) (oi:=⟨_,_,_,_,_,_⟩) (v:=?vvb8) rfl (by kernel_rfl) (by kernel_rfl) (by kernel_rfl) (fun _ _ _ h => h) (Or.inl ⟨by rfl,?yyb8⟩) (A1.out _ T.out) ?_
     case yyb8 => (intro w' hw'; obtain ⟨c0,c1,c2⟩:=hw'; go_simp; try with_reducible rfl)
     try simp only [Act.put,List.setIfInBounds_toArray,List.set_cons_zero,List.set_cons_succ]
     refine wpAnyH_take (i:=12) (oi:=⟨_,_,_,_,_,_⟩) (v:=?vvb12) rfl (by kernel_rfl) (by kernel_rfl) (by kernel_rfl) (fun _ _ _ h => h) (Or.inl ⟨by rfl,?yyb12⟩) (A1.out _ T.out) ?_
     case yyb12 => (intro w' hw'; go_simp; try with_reducible rfl)
     try simp only [Act.put,List.setIfInBounds_toArray,List.set_cons_zero,List.set_cons_succ]
     refine wpAnyH_take (i:=13) (oi:=⟨_,_,_,_,_,_⟩) (v:=?vvb13) rfl (by kernel_rfl) (by kernel_rfl) (by kernel_rfl) (fun _ _ _ h => h) (Or.inl ⟨by rfl,?yyb13⟩) (A1.out _ T.out) ?_
     case yyb13 => (intro w' hw'; obtain ⟨c0,c1,c2⟩:=hw'; go_simp; try with_reducible rfl)
     try simp only [Act.put,List.setIfInBounds_toArray,List.set_cons_zero,List.set_cons_succ]
     refine wpAnyH_ready (rs:=[3]) (by kernel_rfl) (by simp) ?_
     refine AllReadyH.cons (o:=⟨_,_,_,_,_,_⟩) rfl (fun K hK => ?_) AllReadyH.nil
     go_simp
     with_reducible refine (K1.out _).mono ?_
     rintro e w3 ⟨rfl,rfl⟩
     refine hK.out _ _ (A1.out _ T.out) (fun hHeld => ?_)
     clear hK K hHeld
     try simp only [Act.put,List.setIfInBounds_toArray,List.set_cons_zero,List.set_cons_succ]
     refine wpAnyH_take (i:=4) (oi:=⟨_,_,_,_,_,_⟩) (v:=?vvb4) rfl (by kernel_rfl) (by kernel_rfl) (by kernel_rfl) (fun _ _ _ h => h) (Or.inl ⟨by rfl,?yyb4⟩) (A1.out _ T.out) ?_
     case yyb4 => (intro w' hw'; go_simp; try with_reducible rfl)
     try simp only [Act.put,List.setIfInBounds_toArray,List.set_cons_zero,List.set_cons_succ]
     refine wpAnyH_take (i:=5) (oi:=⟨_,_,_,_,_,_⟩) (v:=?vvb5) rfl (by kernel_rfl) (by kernel_rfl) (by kernel_rfl) (fun _ _ _ h => h) (Or.inl ⟨by rfl,?yyb5⟩) (A1.out _ T.out) ?_
     case yyb5 => (intro w' hw'; go_simp; try with_reducible rfl)
     try simp only [Act.put,List.setIfInBounds_toArray,List.set_cons_zero,List.set_cons_succ]
     refine wpAnyH_ready (rs:=[9]) (by kernel_rfl) (by simp) ?_
     refine AllReadyH.cons (o:=⟨_,_,_,_,_,_⟩) rfl (fun K hK => ?_) AllReadyH.nil
     go_simp
     with_reducible refine (K2.out _).mono ?_
     rintro e w3 ⟨rfl,rfl⟩
     refine hK.out _ _ (A1.out _ T.out) (fun hHeld => ?_)
     clear hK K hHeld
     try simp only [Act.put,List.setIfInBounds_toArray,List.set_cons_zero,List.set_cons_succ]
     refine wpAnyH_take (i:=10) (oi:=⟨_,_,_,_,_,_⟩) (v:=?vvb10) rfl (by kernel_rfl) (by kernel_rfl) (by kernel_rfl) (fun _ _ _ h => h) (Or.inl ⟨by rfl,?yyb10⟩) (A1.out _ T.out) ?_
     case yyb10 => (intro w' hw'; go_simp; try with_reducible rfl)
     try simp only [Act.put,List.setIfInBounds_toArray,List.set_cons_zero,List.set_cons_succ]
     refine wpAnyH_take (i:=11) (oi:=⟨_,_,_,_,_,_⟩) (v:=?vvb11) rfl (by kernel_rfl) (by kernel_rfl) (by kernel_rfl) (fun _ _ _ h => h) (Or.inl ⟨by rfl,?yyb11⟩) (A1.out _ T.out) ?_
     case yyb11 => (intro w' hw'; go_simp; try with_reducible rfl)
     try simp only [Act.put,List.setIfInBounds_toArray,List.set_cons_zero,List.set_cons_succ]
     refine wpAnyH_ready (rs:=[14]) (by kernel_rfl) (by simp) ?_
     refine AllReadyH.cons (o:=⟨_,_,_,_,_,_⟩) rfl (fun K hK => ?_) AllReadyH.nil
     go_simp
     with_reducible refine (K3.out _ (HBW2.out.then T.out)).mono ?_
     rintro e w3 ⟨rfl,kk,os,hw3⟩
     have T:=Lib.hid (show Below X.heap.size X w3 by rw [hw3]; exact T.out.then (S25.below_grow _ kk os))
     clear hw3
     refine hK.out _ _ (A1.out _ T.out) (fun hHeld => ?_)
     clear hK K hHeld
     try simp only [Act.put,List.setIfInBounds_toArray,List.set_cons_zero,List.set_cons_succ]
     refine wpAnyH_take (i:=15) (oi:=⟨_,_,_,_,_,_⟩) (v:=?vvb15) rfl (by kernel_rfl) (by kernel_rfl) (by kernel_rfl) (fun _ _ _ h => h) (Or.inl ⟨by rfl,?yyb15⟩) (A1.out _ T.out) ?_
     case yyb15 => (intro w' hw'; go_simp; try with_reducible rfl)
     try simp only [Act.put,List.setIfInBounds_toArray,List.set_cons_zero,List.set_cons_succ]
     refine wpAnyH_ready (rs:=[16]) (by kernel_rfl) (by simp) ?_
     refine AllReadyH.cons (o:=⟨_,_,_,_,_,_⟩) rfl (fun K hK => ?_) AllReadyH.nil
     go_simp
     with_reducible refine (wstring_any w.heap.size w.heap.size (Lib.strCells ((fs.take k).foldl (fun t f => t ++ foundT f) ⟨#[108,105,115,116]⟩)) (((((⟨#[32]⟩ : ByteArray) ++ s1) ++ ⟨#[58]⟩ ++ s2) ++ ⟨#[58]⟩) ++ s3) _ (IsBuilder.keep HB2.out T.out) HLEN.out (HBW2.out.then T.out).size).mono ?_
     rintro e w4 ⟨rfl,hB4,hb4,hk4⟩
     have T4:=Lib.hid ((HBW2.out.then T.out).trans hb4)
     have HB4:=Lib.hid hB4
     have HX4:=Lib.hid (hk4 _ _ ((T.out.block _ (lt_of_block HXB.out)).trans HXB.out) (fun e => HNE.out (Option.some.inj e)) (by intro c fz e; simp at e))
     clear hB4 hb4 hk4
     refine hK.out _ _ (A0.out _ HX4.out) (fun hHeld => ?_)
     clear hK K hHeld
     try simp only [Act.put,List.setIfInBounds_toArray,List.set_cons_zero,List.set_cons_succ]
     refine wpAnyH_done (by kernel_rfl) ?_ _
     clear A1 K1 K2 K3 n1 n2 n3 n4 n5
     go_wp2_with fail
     go_roundw
     case rel =>
       refine ⟨k + 1,HHLT.out,by go_num,Lib.hid ?_,T4⟩
       have:=HB4.out
       rw [← strCells_app,← HF.out,← HSN.out] at this
       exact this
     case measure => have:=HHLT.out; simp [intOf]; omega
   · have hgo : decide ((k : Int) < (n : Int)) = false:=by simpa using hlt
     have hfin:=hB.out
     rw [List.take_of_length_le (by rw [HL.out]; omega)] at hfin
     obtain ⟨TT,hTT⟩ : ∃ q,fs.foldl (fun t f => t ++ foundT f) ⟨#[108,105,115,116]⟩ = q:=⟨_,rfl⟩
     rw [hTT] at hfin
     have KS:=Lib.hid (fun h => Tryz.Builder_String_any w.heap.size w.heap.size TT.data.toList wr hfin h)
     clear hfin
     go_wp2_with fail
     refine (KS.out hbw.out.size).mono ?_
     rintro e w3 ⟨rfl,hb3⟩
     have HB3:=Lib.hid (hbw.out.trans hb3)
     clear hb3
     go_wp2_with fail
     go_ret
     exact ⟨by rw [hTT]; rfl,HB3.out⟩
end Go.Proofs.YtejaocnhekjfiaaGreatDoor
namespace Go.Proofs.YtejaocnhekjfiaaGreatDoor
open Go.RowKit
set_option linter.unusedVariables false
open S25 (I64 numLine LineOk Tabs PlainW)
def listT (fs : List ((Nat × Nat) × Int)) : ByteArray:=fs.foldl (fun t f => t ++ foundT f) ⟨#[108,105,115,116]⟩
theorem line_heavy {w : World} {base a m : Nat} {c : Cfg} {S : List SI} (h : AggIs w base a m c S) (hT : Tabs w) {i : Nat} (hi : i < 20) {s : SI} (hs : S[i]? = some s) (least : Int) (budget : Nat) (h1 : 1 ≤ least) (hl : least ≤ 1125899906842624) (hbud : budget ≤ 4096)
   (hask : askedH c s.C least (c.bits + 1) ≤ budget) (fs : List ((Nat × Nat) × Int)) (hfs : outsH c s.C least (c.bits + 1) = fs) (hn : fs.length ≤ 100) (hsm : ∀ f ∈ fs,f.1.1 < 100 ∧ f.1.2 < 100 ∧ -9223372036854775808 ≤ f.2 ∧ f.2 ≤ 9223372036854775807) :
   Calls Tryz.prog 11 #[.pointer (some ⟨a,0,none⟩),.string (numLine vHeavy [(i : Int) + 1,least,budget])] w (ReadPost w base a m c S (listT fs)):=by
 have hst:=h.st i s hs
 have g1:=i64_handle hi
 have g2 : I64 least:=⟨by omega,by omega⟩
 have g3 : I64 (budget : Int):=⟨by omega,by omega⟩
 refine (line_ok (t:=listT fs) (R:=fun v w2 => (∃ v' b0,v = .iface 154 (.agg #[v']) ∧ w2.ownsRow b0 160 3 v' fs.length (fcells fs)) ∧ AggIs w2 base a m c S ∧ Below w.heap.size w w2) a _ hT (line_fits (ok3 vHeavy_plain (by decide) g1 g2 g3)) (parse_heavy g1 g2 g3) (fun w1 v hb1 hv => ?_) (fun v w2 hR => ?_)).mono ?_
 · obtain ⟨al,cl,rfl,hr2⟩:=hv
   refine do_query a vHeavy ((i : Int) + 1) al 2 cl (fun w' hbw => ?_)
   refine (query_heavy (h.keep (hb1.then hbw)) hs al cl least budget fs (hr2.below hbw) (fun w3 hb3 => ?_)).mono ?_
   · have K:=heavy_ok (hst.below ((hb1.then hbw).then hb3)) least budget h1 hbud hask
     rw [hfs] at K
     exact K
   · rintro e w2 ⟨⟨v,rfl,hown⟩,hA',hu⟩
     exact ⟨_,rfl,⟨v,_,rfl,hown⟩,hA',(hb1.then hbw).then hu⟩
 · obtain ⟨⟨v',b0,rfl,hown⟩,_,hu⟩:=hR
   exact text_list fs v' w2 (hT.below hu) b0 hown hn hsm
 · rintro e w' ⟨rfl,v,w2,⟨_,hA',hu⟩,hb2⟩
   exact ⟨rfl,hA'.keep hb2,hu.then hb2⟩
end Go.Proofs.YtejaocnhekjfiaaGreatDoor
namespace Go.Proofs.YtejaocnhekjfiaaGreatDoor
open Go.RowKit
set_option linter.unusedVariables false
open S25 (I64 numLine LineOk Tabs PlainW)
def cW : Cfg:=⟨2,1,4,1,0⟩
theorem cW_ok : cW.ok:=⟨by decide,by decide,by decide,by decide,by decide,by decide,by decide,by decide,by decide⟩
def c0W : List (List Int):=[[0,0,0,0],[0,0],[0]]
def c1W : List (List Int):=[[0,0,0,5],[0,5],[5]]
def c2W : List (List Int):=[[0,2,0,5],[2,5],[7]]
def outsW : List ((Nat × Nat) × Int):=[((2,0),7),((1,1),5),((0,3),5)]
theorem zero_w : zeroC cW = c0W:=by kernel_rfl
theorem upd_w1 : updS cW 3 5 c0W (List.range 3) = c1W:=by kernel_rfl
theorem upd_w2 : updS cW 1 2 c1W (List.range 3) = c2W:=by kernel_rfl
theorem outs_w : outsH cW c2W 5 3 = outsW:=by kernel_rfl
theorem asked_w : askedH cW c2W 5 3 = 5:=by kernel_rfl
theorem way_w : (wayL cW c2W 2 0 3)[2]? = some (0,3):=by kernel_rfl
theorem cov_w : S14.covL 2 1 2 = [(0,1),(0,2)]:=by kernel_rfl
theorem part_w : ∀ l,l < 3 → ∀ i,i < 2 ^ (2 - l) → -100 ≤ partV cW c2W (l,i) ∧ partV cW c2W (l,i) ≤ 100:=by decide +kernel
theorem inn_w : innL cW 0 [0,2,0,5] [0,2,0,5] = 29:=by kernel_rfl
theorem fit_w : ∀ k,k < 5 → S02.Fits (dotK [0,2,0,5] [0,2,0,5] k):=by decide +kernel
def xsW : List ByteArray:=[numLine vCreate [2,1,4,1,0],numLine vAdd [1,3,5],numLine vAdd [1,1,2],numLine vRange [1,1,2],numLine vQuantile [1,3],numLine vHeavy [1,5,9],numLine vInner [1,1]]
def tsW : List ByteArray:=[bHandle ++ numT 1,bDone,bDone,bNumber ++ numT 2,bKey ++ numT 3,listT outsW,bWide ++ numT 29]
def SsW : Nat → List (List (List Int))
 | 0 => []
 | 1 => [c0W]
 | 2 => [c1W]
 | _ => [c2W]
theorem one_of {S : List SI} {C : List (List Int)} (h : S.map (·.C) = [C]) : ∃ s,S = [s] ∧ s.C = C:=by
 match S,h with
 | [s],h => exact ⟨s,rfl,by simpa using h⟩
theorem fitl (b : Int) (C : List (List Int)) (h : C.all (fun zs => zs.all fun x => decide (-b ≤ x) && decide (x ≤ b)) = true) : ∀ zs ∈ C,FitL b zs:=fun zs hz x hx => by
 have:=List.all_eq_true.1 (List.all_eq_true.1 h zs hz) x hx
 simpa using this
theorem script_w : Script cW xsW tsW SsW:=by
 intro base a m S w k x hx hA hS hT hb
 match k,hx with
 | 0,hx =>
   obtain rfl : numLine vCreate [2,1,4,1,0] = x:=by simpa [xsW] using hx
   obtain rfl : S = []:=by simpa [SsW] using hS
   have K:=line_create cW_ok hA hT (by decide) 0 ⟨by decide,by decide⟩ (by decide) hb
   refine ⟨bHandle ++ numT 1,rfl,K.mono ?_⟩
   rintro e w' ⟨rfl,s,hs,hA',hu⟩
   exact ⟨rfl,[] ++ [s],hA',by rw [List.nil_append,List.map_cons,List.map_nil,hs,zero_w]; rfl,hu⟩
 | 1,hx =>
   obtain rfl : numLine vAdd [1,3,5] = x:=by simpa [xsW] using hx
   obtain ⟨s,rfl,hs⟩:=one_of (C:=c0W) hS
   have K:=line_add hA hT (i:=0) (by decide) (s:=s) rfl 3 (by decide) 5 100 10 (by rw [hs]; exact fitl 100 c0W (by decide)) (by decide) ⟨by decide,by decide⟩ (by decide) (by decide) (by decide) (by decide)
   refine ⟨bDone,rfl,K.mono ?_⟩
   rintro e w' ⟨rfl,hA',hu⟩
   refine ⟨rfl,_,hA',?_,hu⟩
   show [updS cW 3 5 s.C (List.range 3)] = [c1W]
   rw [hs,upd_w1]
 | 2,hx =>
   obtain rfl : numLine vAdd [1,1,2] = x:=by simpa [xsW] using hx
   obtain ⟨s,rfl,hs⟩:=one_of (C:=c1W) hS
   have K:=line_add hA hT (i:=0) (by decide) (s:=s) rfl 1 (by decide) 2 100 10 (by rw [hs]; exact fitl 100 c1W (by decide)) (by decide) ⟨by decide,by decide⟩ (by decide) (by decide) (by decide) (by decide)
   refine ⟨bDone,rfl,K.mono ?_⟩
   rintro e w' ⟨rfl,hA',hu⟩
   refine ⟨rfl,_,hA',?_,hu⟩
   show [updS cW 1 2 s.C (List.range 3)] = [c2W]
   rw [hs,upd_w2]
 | 3,hx =>
   obtain rfl : numLine vRange [1,1,2] = x:=by simpa [xsW] using hx
   obtain ⟨s,rfl,hs⟩:=one_of (C:=c2W) hS
   have K:=line_range hA hT (i:=0) (by decide) (s:=s) rfl 1 2 (by decide) (by decide) 2 ⟨by decide,by decide⟩ (by decide) (by show ∀ x ∈ S14.covL 2 1 2,_; rw [cov_w]; decide) (by show (S14.covL 2 1 2).length ≤ _; rw [cov_w]; decide) [2,0] (by show (S14.covL 2 1 2).map _ = _; rw [cov_w,hs]; kernel_rfl) (by unfold S02.In64; decide) (by kernel_rfl)
   refine ⟨bNumber ++ numT 2,rfl,K.mono ?_⟩
   rintro e w' ⟨rfl,hA',hu⟩
   exact ⟨rfl,_,hA',hS,Upd.of_below hu⟩
 | 4,hx =>
   obtain rfl : numLine vQuantile [1,3] = x:=by simpa [xsW] using hx
   obtain ⟨s,rfl,hs⟩:=one_of (C:=c2W) hS
   have K:=line_quantile hA hT (i:=0) (by decide) (s:=s) rfl 3 100 (by decide) (fun l i hl hi => by rw [hs]; exact part_w l (Nat.lt_succ_of_le hl) i hi) (by decide) (by rw [hs]; decide +kernel) (0,3) (by rw [hs]; exact way_w) (by decide)
   refine ⟨bKey ++ numT 3,rfl,K.mono ?_⟩
   rintro e w' ⟨rfl,hA',hu⟩
   exact ⟨rfl,_,hA',hS,Upd.of_below hu⟩
 | 5,hx =>
   obtain rfl : numLine vHeavy [1,5,9] = x:=by simpa [xsW] using hx
   obtain ⟨s,rfl,hs⟩:=one_of (C:=c2W) hS
   have K:=line_heavy hA hT (i:=0) (by decide) (s:=s) rfl 5 9 (by decide) (by decide) (by decide) (by rw [hs]; exact Nat.le_trans (Nat.le_of_eq asked_w) (by decide)) outsW (by rw [hs]; exact outs_w) (by decide) (by decide)
   refine ⟨listT outsW,rfl,K.mono ?_⟩
   rintro e w' ⟨rfl,hA',hu⟩
   exact ⟨rfl,_,hA',hS,Upd.of_below hu⟩
 | 6,hx =>
   obtain rfl : numLine vInner [1,1] = x:=by simpa [xsW] using hx
   obtain ⟨s,rfl,hs⟩:=one_of (C:=c2W) hS
   have K:=line_inner hA hT (i:=0) (j:=0) (by decide) (by decide) (s:=s) (t:=s) rfl rfl rfl (xs:=[0,2,0,5]) (ys:=[0,2,0,5]) (by rw [hs]; rfl) (by rw [hs]; rfl) (by unfold S02.In64; decide) (by unfold S02.In64; decide) (by unfold InnFits; rw [if_pos (by decide)]; exact fun k hk => fit_w k (Nat.lt_succ_of_le hk)) (by rw [inn_w]; decide)
   rw [inn_w] at K
   refine ⟨bWide ++ numT 29,rfl,K.mono ?_⟩
   rintro e w' ⟨rfl,hA',hu⟩
   exact ⟨rfl,_,hA',hS,Upd.of_below hu⟩
 | k + 7,hx => simp [xsW] at hx
end Go.Proofs.YtejaocnhekjfiaaGreatDoor
namespace Go.Proofs.YtejaocnhekjfiaaGreatDoor
open Go.RowKit
set_option linter.unusedVariables false
open S25 (I64 numLine LineOk Tabs PlainW)
def scrW0 : ByteArray:=⟨#[99,114,101,97,116,101,32,50,32,49,32,52,32,49,32,48,10,97,100,100,32,49,32,51,32,53,10,97,100,100,32,49,32,49,32,50,10,114,97,110,103,101,32,49,32,49,32,50,10,113,117,97,110,116,105,108,101,32,49,32,51,10,104,101,97,118,121,32,49,32,53,32,57,10,105,110,110,101,114,32,49,32,49]⟩
def scrW1 : ByteArray:=⟨#[97,100,100,32,49,32,51,32,53,10,97,100,100,32,49,32,49,32,50,10,114,97,110,103,101,32,49,32,49,32,50,10,113,117,97,110,116,105,108,101,32,49,32,51,10,104,101,97,118,121,32,49,32,53,32,57,10,105,110,110,101,114,32,49,32,49]⟩
def scrW2 : ByteArray:=⟨#[97,100,100,32,49,32,49,32,50,10,114,97,110,103,101,32,49,32,49,32,50,10,113,117,97,110,116,105,108,101,32,49,32,51,10,104,101,97,118,121,32,49,32,53,32,57,10,105,110,110,101,114,32,49,32,49]⟩
def scrW3 : ByteArray:=⟨#[114,97,110,103,101,32,49,32,49,32,50,10,113,117,97,110,116,105,108,101,32,49,32,51,10,104,101,97,118,121,32,49,32,53,32,57,10,105,110,110,101,114,32,49,32,49]⟩
def scrW4 : ByteArray:=⟨#[113,117,97,110,116,105,108,101,32,49,32,51,10,104,101,97,118,121,32,49,32,53,32,57,10,105,110,110,101,114,32,49,32,49]⟩
def scrW5 : ByteArray:=⟨#[104,101,97,118,121,32,49,32,53,32,57,10,105,110,110,101,114,32,49,32,49]⟩
def scrW6 : ByteArray:=⟨#[105,110,110,101,114,32,49,32,49]⟩
theorem splits_w : Splits scrW0 xsW:=by
 unfold xsW
 have e0 : numLine vCreate [2,1,4,1,0] = scrW0.extract 0 16:=by kernel_rfl
 have f0 : scrW0.extract (16 + 1) scrW0.size = scrW1:=by kernel_rfl
 have e1 : numLine vAdd [1,3,5] = scrW1.extract 0 9:=by kernel_rfl
 have f1 : scrW1.extract (9 + 1) scrW1.size = scrW2:=by kernel_rfl
 have e2 : numLine vAdd [1,1,2] = scrW2.extract 0 9:=by kernel_rfl
 have f2 : scrW2.extract (9 + 1) scrW2.size = scrW3:=by kernel_rfl
 have e3 : numLine vRange [1,1,2] = scrW3.extract 0 11:=by kernel_rfl
 have f3 : scrW3.extract (11 + 1) scrW3.size = scrW4:=by kernel_rfl
 have e4 : numLine vQuantile [1,3] = scrW4.extract 0 12:=by kernel_rfl
 have f4 : scrW4.extract (12 + 1) scrW4.size = scrW5:=by kernel_rfl
 have e5 : numLine vHeavy [1,5,9] = scrW5.extract 0 11:=by kernel_rfl
 have f5 : scrW5.extract (11 + 1) scrW5.size = scrW6:=by kernel_rfl
 have e6 : numLine vInner [1,1] = scrW6:=by kernel_rfl
 rw [e0,e1,e2,e3,e4,e5,e6]
 refine .more scrW0 16 _ (by kernel_rfl) (by decide) ?_
 rw [f0]
 refine .more scrW1 9 _ (by kernel_rfl) (by decide) ?_
 rw [f1]
 refine .more scrW2 9 _ (by kernel_rfl) (by decide) ?_
 rw [f2]
 refine .more scrW3 11 _ (by kernel_rfl) (by decide) ?_
 rw [f3]
 refine .more scrW4 12 _ (by kernel_rfl) (by decide) ?_
 rw [f4]
 refine .more scrW5 11 _ (by kernel_rfl) (by decide) ?_
 rw [f5]
 exact .last _ (by kernel_rfl)
theorem reps_w : (bNumber ++ numT 2 = ⟨#[110,117,109,98,101,114,32,50]⟩) ∧ (bKey ++ numT 3 = ⟨#[107,101,121,32,51]⟩) ∧ (listT outsW = ⟨#[108,105,115,116,32,50,58,48,58,55,32,49,58,49,58,53,32,48,58,51,58,53]⟩) ∧ (bWide ++ numT 29 = ⟨#[119,105,100,101,32,50,57]⟩):=⟨by kernel_rfl,by kernel_rfl,by kernel_rfl,by kernel_rfl⟩
theorem eqs_w (s : ByteArray) (l : List UInt8) (h : s = ⟨l.toArray⟩) : (s.toList == l) = true:=by
 rw [h,ByteArray.toList_eq]; simp
set_option maxRecDepth 100000 in
set_option maxHeartbeats 1000000 in
theorem works_any (w : World) (hT : Tabs w) : Calls Tryz.prog 7 #[] w fun e w' => e = .returned (.bool true) ∧ Below w.heap.size w w':=by
 have K:=Lib.hid (run_any cW scrW0 xsW tsW SsW splits_w (by decide) rfl (by decide) rfl script_w w hT)
 unfold scrW0 at K
 have e3:=eqs_w _ [110,117,109,98,101,114,32,50] reps_w.1
 have e4:=eqs_w _ [107,101,121,32,51] reps_w.2.1
 have e5:=eqs_w _ [108,105,115,116,32,50,58,48,58,55,32,49,58,49,58,53,32,48,58,51,58,53] reps_w.2.2.1
 have e6:=eqs_w _ [119,105,100,101,32,50,57] reps_w.2.2.2
 unfold xsW tsW at K
 generalize bNumber ++ numT 2 = s3 at *
 generalize bKey ++ numT 3 = s4 at *
 generalize listT outsW = s5 at *
 generalize bWide ++ numT 29 = s6 at *
 clear hT
 go_enter Tryz.func7,Tryz.ntmps7
 go_wp2_with fail
 refine (K.out).mono ?_
 rintro e w1 ⟨v,n₀,rfl,hown,hb⟩
 obtain ⟨ao,co,rfl⟩ : ∃ ao co,v = .slice ao 7 co:=by
   rcases hown.2 with ⟨_,e0⟩ | ⟨gg,cc,_,rfl,_⟩
   · cases e0
   · exact ⟨_,_,rfl⟩
 obtain ⟨g,rfl,hnc,hc⟩:=owns_cell hown (by decide)
 have c3 : w1.cell? ⟨g,3,none⟩ = some (.string s3):=(hc 3 (.string s3) rfl).2
 have c4 : w1.cell? ⟨g,4,none⟩ = some (.string s4):=(hc 4 (.string s4) rfl).2
 have c5 : w1.cell? ⟨g,5,none⟩ = some (.string s5):=(hc 5 (.string s5) rfl).2
 have c6 : w1.cell? ⟨g,6,none⟩ = some (.string s6):=(hc 6 (.string s6) rfl).2
 have HB:=Lib.hid hb
 clear hc hown hb K
 go_wp2_with fail
 go_ret
 exact ⟨rfl,HB.out⟩
end Go.Proofs.YtejaocnhekjfiaaGreatDoor
namespace Go.Proofs.YtejaocnhekjfiaaGreatDoor
open Go.RowKit
set_option linter.unusedVariables false
open S25 (I64 numLine LineOk Tabs PlainW)
def partG (F : List Int) (k : Nat) : List Int:=(List.range 64).map fun i => if k ≤ i then F.getD i 0 else 0
theorem partG_len (F : List Int) (k : Nat) : (partG F k).length = 64:=by simp [partG]
theorem partG_getD (F : List Int) (k : Nat) {i : Nat} (hi : i < 64) : (partG F k).getD i 0 = if k ≤ i then F.getD i 0 else 0:=by
 unfold partG; rw [List.getD_eq_getElem?_getD,List.getElem?_map,List.getElem?_range hi]; rfl
theorem partG_top (F : List Int) : partG F 64 = List.replicate 64 0:=list_ext_getD 64 (partG_len ..) List.length_replicate fun j hj => by
 rw [partG_getD _ _ hj,repl_getD,if_neg (by omega)]
theorem partG_zero (F : List Int) (h : F.length = 64) : partG F 0 = F:=list_ext_getD 64 (partG_len ..) h fun j hj => by
 rw [partG_getD _ _ hj,if_pos (Nat.zero_le _)]
theorem partG_step (F : List Int) {k : Nat} (hk : k < 64) (u : Int) : bump (bump (partG F (k + 1)) k u) k (F.getD k 0 - u) = partG F k:=
 list_ext_getD 64 (by rw [bump_len,bump_len,partG_len]) (partG_len ..) fun j hj => by
   rw [bump_getD _ _ _ (by rw [bump_len,partG_len]; exact hk),bump_getD _ _ _ (by rw [partG_len]; exact hk),partG_getD _ _ hj,partG_getD _ _ hj]
   by_cases e : j = k
   · subst e; rw [if_neg (by omega),if_pos rfl,if_pos rfl,if_pos (Nat.le_refl _)]; omega
   · rw [if_neg e,if_neg e]
     by_cases h : k ≤ j
     · rw [if_pos h,if_pos (by omega)]; omega
     · rw [if_neg h,if_neg (by omega)]; rfl
theorem partG_fit {F : List Int} {b : Int} (h : FitL b F) (hb : 0 ≤ b) (k : Nat) : FitL b (partG F k):=fun x hx => by
 simp only [partG,List.mem_map] at hx
 obtain ⟨i,_,rfl⟩:=hx
 split
 · exact h.getD hb i
 · omega
theorem fit_bump2 {b : Int} {F : List Int} (h : FitL b F) (hb : 0 ≤ b) (k : Nat) {d : Int} (hd : -b ≤ d ∧ d ≤ b) : FitL (2 * b) (bump F k d):=by
 have h0:=h.getD hb k
 exact (h.mono (show b ≤ 2 * b by omega)).set k ⟨by omega,by omega⟩
theorem tdiv_fit {b x : Int} (h : -b ≤ x ∧ x ≤ b) : -b ≤ x.tdiv 2 ∧ x.tdiv 2 ≤ b ∧ -b ≤ x - x.tdiv 2 ∧ x - x.tdiv 2 ≤ b:=by
 rcases Int.le_total 0 x with h0 | h0
 · rw [Int.tdiv_eq_ediv_of_nonneg h0]; omega
 · obtain ⟨y,rfl⟩ : ∃ y : Int,x = -y:=⟨-x,by omega⟩
   rw [Int.neg_tdiv,Int.tdiv_eq_ediv_of_nonneg (by omega)]; omega
def Fed (w : World) (base x a m : Nat) (c : Cfg) (F : List Int) : Prop:=∃ S,WIs w base x a m c S (List.replicate 192 0) ∧ ∃ s,S[1]? = some s ∧ s.C = stackOf c F
theorem Fed.keep {w w' : World} {base x a m : Nat} {c : Cfg} {F : List Int} (h : Fed w base x a m c F) (hb : Below w.heap.size w w') : Fed w' base x a m c F:=by
 obtain ⟨S,hW,s,hs,hC⟩:=h
 exact ⟨S,hW.keep hb,s,hs,hC⟩
theorem Fed.c0 {w : World} {base x a m : Nat} {c : Cfg} {F : List Int} (h : Fed w base x a m c F) : w.cell? ⟨x,0,none⟩ = some (.pointer (some ⟨a,0,none⟩)):=by
 obtain ⟨S,hW,_⟩:=h
 exact hW.cells.1
theorem stack_fit {c : Cfg} (hm : c.mode ≠ 2) (h6 : c.bits = 6) {F : List Int} {b : Int} (hF : FitL b F) (hb : 0 ≤ b) : ∀ zs ∈ stackOf c F,FitL (64 * b) zs:=fun zs hz => by
 have:=relC_fit (c:=c) (F:=F) (C:=stackOf c F) (by unfold RelC; rw [if_neg hm]) hF hb zs hz
 rw [h6] at this
 exact this
theorem fed_line {w : World} {base x a m : Nat} {c : Cfg} {F : List Int} (h : Fed w base x a m c F) (hT : Tabs w) (hbw : base ≤ w.heap.size) (hm : c.mode ≠ 2) (h6 : c.bits = 6) (hF : F.length = 64) {b : Int} (hfit : FitL b F) (hb0 : 0 ≤ b) (hb : b ≤ 281474976710656) {k : Nat} (hk : k < 64) {d : Int} (hd : -b ≤ d ∧ d ≤ b) :
   Calls Tryz.prog 11 #[.pointer (some ⟨a,0,none⟩),.string (numLine vAdd [2,k,d])] w fun e w' => e = .returned (.tuple #[.string bDone,.bool true]) ∧ Fed w' base x a m c (bump F k d) ∧ Below base w w':=by
 obtain ⟨S,hW,s,hs,hC⟩:=h
 have hok:=(hW.agg.st 1 s hs).ok
 have hk6 : k < 2 ^ c.bits:=by rw [h6]; exact hk
 have K:=line_add hW.agg hT (i:=1) (by decide) hs k hk6 d (64 * b) b (by rw [hC]; exact stack_fit hm h6 hfit hb0) (by omega) hd hb0 (by omega) (by unfold errOf; rw [if_neg (fun h => hm h.1)]) (by omega)
 refine K.mono ?_
 rintro e w' ⟨rfl,hA,hu⟩
 refine ⟨rfl,⟨_,hW.line hA hu (by rw [List.length_set]; exact hW.three),_,List.getElem?_set_self (List.getElem?_eq_some_iff.1 hs).1,?_⟩,hu.below hW.agg.base hbw⟩
 show updS c k d s.C _ = _
 rw [hC]
 exact stack_bump hok hm hk6 F (by rw [h6]; exact hF) d
theorem encB_len {c : Cfg} (hc : c.ok) (h6 : c.bits = 6) {C : List (List Int)} (hl : C.length = 7) (hC : ∀ zs ∈ C,zs.length ≤ 1024 ∧ S21.In64 zs) : (encB c C).length ≤ 80000 ∧ 12 ≤ (encB c C).length:=by
 have h1:=bodyB_len c hc C hC C.length (Nat.le_refl _)
 unfold encB
 rw [List.length_append,lowB_len]
 refine ⟨by omega,?_⟩
 have h2 : 8 ≤ (bodyB c C C.length).length:=by
   unfold bodyB
   rw [List.length_append,List.length_append,lowB_len]; omega
 omega
theorem encB_is (c : Cfg) (C : List (List Int)) : IsB (encB c C):=(bodyB_is c C _).append (lowB_is _ _)
theorem bytesT_size (xs : List Nat) : (bytesT xs).size = 6 + 2 * xs.length:=by
 unfold bytesT hexS
 show (List.toArray _).size = _
 rw [List.size_toArray,List.length_append]
 have : ∀ xs : List Nat,(xs.flatMap fun x => [UInt8.ofNat (hexD (x / 16)),UInt8.ofNat (hexD (x % 16))]).length = 2 * xs.length:=fun xs => by
   induction xs with
   | nil => rfl
   | cons x xs ih => rw [List.flatMap_cons,List.length_append,ih]; simp; omega
 rw [this]; rfl
theorem stack_lens {c : Cfg} (hc : c.ok) {F : List Int} : ∀ zs ∈ stackOf c F,zs.length ≤ 1024:=fun zs hz => by
 simp only [stackOf,List.mem_map] at hz
 obtain ⟨n,hn,rfl⟩:=hz
 rw [cellsOf_len]
 have h1:=hc.r1; have h2:=hc.r8; have h3:=hc.w1; have h4:=hc.w8
 cases hx : c.exact n with
 | true =>
   obtain ⟨e1,e2⟩:=RW_ex hx
   have : 2 ^ (c.bits - n) ≤ c.width:=by unfold Cfg.exact at hx; exact of_decide_eq_true hx
   rw [e1,e2]; omega
 | false =>
   obtain ⟨e1,e2⟩:=RW_sk hx
   rw [e1,e2]; exact Nat.mul_le_mul h2 h4
def expT (c : Cfg) (F : List Int) : ByteArray:=bytesT ((encB c (stackOf c F)).map Int.toNat)
theorem exp_size {c : Cfg} (hc : c.ok) (h6 : c.bits = 6) (hm : c.mode ≠ 2) {F : List Int} {b : Int} (hF : FitL b F) (hb0 : 0 ≤ b) (hb : b ≤ 281474976710656) : 30 ≤ (expT c F).size ∧ (expT c F).size ≤ 200000:=by
 have hC : ∀ zs ∈ stackOf c F,zs.length ≤ 1024 ∧ S21.In64 zs:=fun zs hz => ⟨stack_lens hc zs hz,fun x hx => by have:=stack_fit hm h6 hF hb0 zs hz x hx; omega⟩
 have:=encB_len hc h6 (by rw [stackOf_len,h6]) hC
 unfold expT
 rw [bytesT_size,List.length_map]
 omega
theorem exp_line {w : World} {base a m : Nat} {c : Cfg} {S : List SI} (h : AggIs w base a m c S) (hT : Tabs w) {i : Nat} (hi : i < 20) {s : SI} (hs : S[i]? = some s) {F : List Int} (hC : s.C = stackOf c F) (h6 : c.bits = 6) (hm : c.mode ≠ 2) {b : Int} (hF : FitL b F) (hb0 : 0 ≤ b) (hb : b ≤ 281474976710656) :
   Calls Tryz.prog 11 #[.pointer (some ⟨a,0,none⟩),.string (numLine vExport [(i : Int) + 1])] w (ReadPost w base a m c S (expT c F)):=by
 have hok:=(h.st i s hs).ok
 have hCC : ∀ zs ∈ stackOf c F,zs.length ≤ 1024 ∧ S21.In64 zs:=fun zs hz => ⟨stack_lens hok zs hz,fun x hx => by have:=stack_fit hm h6 hF hb0 zs hz x hx; omega⟩
 have hL:=(encB_len hok h6 (by rw [stackOf_len,h6]) hCC).1
 have K:=line_export h hT hi hs (by rw [hC]; exact fun zs hz => (stack_fit hm h6 hF hb0 zs hz).mono (by omega)) (by rw [hC]; exact encB_is _ _) (by rw [hC]; omega)
 rw [hC] at K
 exact K
end Go.Proofs.YtejaocnhekjfiaaGreatDoor
namespace Go.Proofs.YtejaocnhekjfiaaGreatDoor
open Go.RowKit
set_option linter.unusedVariables false
open S25 (I64 numLine LineOk Tabs PlainW)
theorem and_1 (x : Int) : bits BinOp.and IntKind.i64 x 1 = x % 2:=by
 show IntKind.i64.wrap ((BitVec.ofInt 64 x &&& BitVec.ofInt 64 1).toNat : Int) = _
 have e : (BitVec.ofInt 64 1).toNat = 2 ^ 1 - 1:=by decide
 rw [BitVec.toNat_and,e,Nat.and_two_pow_sub_one_eq_mod,BitVec.toNat_ofInt]
 rw [IntWalk.i64_in _ (by omega)]
 omega
def twoMode (m0 : Int) : Nat:=if m0 % 2 = 1 then 3 else 1
theorem twoMode_ok (m0 : Int) : 1 ≤ twoMode m0 ∧ twoMode m0 ≤ 3 ∧ twoMode m0 ≠ 2:=by unfold twoMode; split <;> decide
theorem vExport_sp : vExport ++ (⟨#[32]⟩ : ByteArray) = ⟨#[101,120,112,111,114,116,32]⟩:=by decide
theorem numLine1 (v : ByteArray) (x : Int) : numLine v [x] = (v ++ ⟨#[32]⟩) ++ numT x:=by
 show S25.lineW v [numT x] = _
 rw [S25.lineW_eq]
 show v ++ ((⟨#[32]⟩ : ByteArray) ++ (numT x ++ ⟨#[]⟩)) = _
 simp only [ByteArray.append_assoc]
 congr 3
 apply ByteArray.ext; rw [ByteArray.data_append]; exact Array.append_empty
theorem add2_line (k d : Int) : numLine vAdd [2,k,d] = (((⟨#[97,100,100,32,50,32]⟩ : ByteArray) ++ numT k) ++ ⟨#[32]⟩) ++ numT d:=by
 rw [numLine3]
 have e : ((vAdd ++ (⟨#[32]⟩ : ByteArray)) ++ numT 2) ++ ⟨#[32]⟩ = ⟨#[97,100,100,32,50,32]⟩:=by kernel_rfl
 rw [e]
theorem exp2_line : numLine vExport [2] = ⟨#[101,120,112,111,114,116,32,50]⟩:=by kernel_rfl
set_option maxRecDepth 100000 in
set_option maxHeartbeats 2000000 in
theorem merges_any (b r wd m0 : Int) (sd : Nat) (w : World) (hT : Tabs w) (hs : sd < 18446744073709551616) (p : Option Addr) (l : List OpI) (cap : Nat) (hl : OpsAt w p l) (at_ : Int) :
   Calls Tryz.prog 3 #[.agg #[.int .i64 b,.int .i64 r,.int .i64 wd,.int .i64 m0,.int .u64 sd],.slice p l.length cap,.int .i64 at_] w fun e w' => e = .returned (.bool true) ∧ Below w.heap.size w w':=by
 have HM3:=Lib.hid (twoMode_ok m0)
 have hmd : twoMode m0 = 1 ∧ m0 % 2 = 0 ∨ twoMode m0 = 3 ∧ m0 % 2 = 1:=by unfold twoMode; split <;> omega
 have hand:=and_1 m0
 generalize twoMode m0 = md at *
 have HMD:=Lib.hid hmd
 clear hmd
 have KW:=Lib.hid (fun (w' : World) (hb : Below w.heap.size w w') => works_any w' (hT.below hb))
 have KP:=Lib.hid (fun (w' : World) (hb : Below w.heap.size w w') => played_any b r wd m0 sd md w' (hT.below hb) hs HM3.out.1 HM3.out.2.1 p l cap (hl.below hb))
 have KM:=Lib.hid (fun (w' : World) (hb : Below w.heap.size w w') => made_any b r wd m0 sd md w' (hT.below hb) hs HM3.out.1 HM3.out.2.1)
 have KH:=Lib.hid (fun w => handle_any at_ w)
 have HC:=Lib.hid (cutCfg_ok r wd hs HM3.out.1 HM3.out.2.1)
 have H6:=Lib.hid (show (cutCfg r wd sd md).bits = 6 from rfl)
 have HN2:=Lib.hid (show (cutCfg r wd sd md).mode ≠ 2 from HM3.out.2.2)
 have HT:=Lib.hid hT
 generalize hcc : cutCfg r wd sd md = c at *
 clear hcc hT hl hs
 have HB0:=Lib.hid ((Below.refl w.heap.size w).alloc (Nat.le_refl _) (.cells #[.int .i64 b,.int .i64 r,.int .i64 wd,.int .i64 m0,.int .u64 sd] 24))
 have HX0:=Lib.hid (heap_alloc_new w (.cells #[.int .i64 b,.int .i64 r,.int .i64 wd,.int .i64 m0,.int .u64 sd] 24))
 go_enter Tryz.func3,Tryz.ntmps3
 go_wp2_with fail
 refine (KW.out _ HB0.out).mono ?_
 rintro e w1 ⟨rfl,hb⟩
 have HB1:=Lib.hid (HB0.out.then hb)
 have HX1:=Lib.hid ((hb.block _ (lt_of_block HX0.out)).trans HX0.out)
 clear hb HB0 HX0
 have c0 : w1.cell? ⟨w.heap.size,0,none⟩ = some (.int .i64 b):=(cell_of_row _ _ _ _ _ _ HX1.out).trans rfl
 have c1 : w1.cell? ⟨w.heap.size,1,none⟩ = some (.int .i64 r):=(cell_of_row _ _ _ _ _ _ HX1.out).trans rfl
 have c2 : w1.cell? ⟨w.heap.size,2,none⟩ = some (.int .i64 wd):=(cell_of_row _ _ _ _ _ _ HX1.out).trans rfl
 have c3 : w1.cell? ⟨w.heap.size,3,none⟩ = some (.int .i64 m0):=(cell_of_row _ _ _ _ _ _ HX1.out).trans rfl
 have c4 : w1.cell? ⟨w.heap.size,4,none⟩ = some (.int .u64 sd):=(cell_of_row _ _ _ _ _ _ HX1.out).trans rfl
 go_upto_if 26 with fail
 go_cut [8] (fun s8 wx => s8 = .int .i64 (md : Int) ∧ wx = w1)
 case first =>
   rcases HMD.out with ⟨e1,e2⟩ | ⟨e1,e2⟩
   · have g : (m0 % 2 == 1) = false:=by rw [e2]; rfl
     subst e1
     go_wp2_with fail
     go_meet
     exact ⟨rfl,rfl⟩
   · have g : (m0 % 2 == 1) = true:=by rw [e2]; rfl
     subst e1
     go_wp2_with fail
     go_meet
     exact ⟨rfl,rfl⟩
 case rest =>
   obtain ⟨rfl,rfl⟩:=hcut
   go_wp2_with fail
   refine (KP.out _ HB1.out).mono ?_
   rintro e wP ⟨x1,B1,a1,m1,S1,rfl,hW1,hS1,hsz1,hsz2,hb⟩
   have HB2:=Lib.hid (HB1.out.then hb)
   have HX2:=Lib.hid ((hb.block _ (lt_of_block HX1.out)).trans HX1.out)
   have HW1:=Lib.hid hW1
   have HS1:=Lib.hid hS1
   clear c0 c1 c2 c3 c4 hb hW1 hS1 hsz1 hsz2 hand HMD
   have c0 : wP.cell? ⟨w.heap.size,0,none⟩ = some (.int .i64 b):=(cell_of_row _ _ _ _ _ _ HX2.out).trans rfl
   have c1 : wP.cell? ⟨w.heap.size,1,none⟩ = some (.int .i64 r):=(cell_of_row _ _ _ _ _ _ HX2.out).trans rfl
   have c2 : wP.cell? ⟨w.heap.size,2,none⟩ = some (.int .i64 wd):=(cell_of_row _ _ _ _ _ _ HX2.out).trans rfl
   have c3 : wP.cell? ⟨w.heap.size,3,none⟩ = some (.int .i64 m0):=(cell_of_row _ _ _ _ _ _ HX2.out).trans rfl
   have c4 : wP.cell? ⟨w.heap.size,4,none⟩ = some (.int .u64 sd):=(cell_of_row _ _ _ _ _ _ HX2.out).trans rfl
   go_wp2_with fail
   refine (KM.out _ HB2.out).mono ?_
   rintro e wM ⟨x2,a2,m2,S2,rfl,hW2,hz2,hb⟩
   have HBM:=Lib.hid hb
   have hF2 : Fed wM wP.heap.size x2 a2 m2 c (partG (rowG (playG c (l.take 25)) (hd at_)) 64):=by
     obtain ⟨s,hs⟩ : ∃ s,S2[1]? = some s:=⟨_,List.getElem?_eq_getElem (by rw [hW2.three]; decide)⟩
     refine ⟨S2,hW2,s,hs,?_⟩
     rw [hz2 s (List.mem_of_getElem? hs),partG_top,zero_stack]
   have HF2:=Lib.hid hF2
   clear c0 c1 c2 c3 c4 hb hW2 hz2 hF2 KP KM KW HX1 HX2 HB1
   go_wp2_with fail
   refine (KH.out _).mono ?_
   rintro e w' ⟨rfl,rfl⟩
   have hh3:=hd_lt at_
   have hok : ((hd at_ : Nat) : Int) < 3:=by omega
   have hbnd:=bound25 (show (l.take 25).length ≤ 25 by rw [List.length_take]; omega)
   have hinv:=inv_play HC.out H6.out _ (l.take 25) rfl
   have hfit:=(hinv.fit.rowG hinv.nn (hd at_)).mono (show 1048576 * (2 : Int) ^ (l.take 25).length ≤ 35184372088832 by omega)
   obtain ⟨s1,hs1⟩ : ∃ s,S1[hd at_]? = some s:=⟨_,List.getElem?_eq_getElem (by rw [HW1.out.three]; exact hh3)⟩
   have hC1:=(hinv.rel _ hh3).not2 HN2.out
   rw [← HS1.out,map_getD hs1] at hC1
   have HGK:=Lib.hid (fun k (hk : k < 64) => rowG_getD (playG c (l.take 25)) (hd at_) k hk)
   have HRL:=Lib.hid (rowG_len (playG c (l.take 25)) (hd at_))
   generalize hFF : rowG (playG c (l.take 25)) (hd at_) = F at *
   have HFit:=Lib.hid hfit
   have HC1:=Lib.hid hC1
   have HS:=Lib.hid hs1
   clear hbnd hinv hfit hC1 hs1 hFF HS1 KH
   generalize playG c (l.take 25) = G at *
   generalize hd at_ = h at *
   have HH3:=Lib.hid hh3
   go_wp2_with fail
   go_loopw [12,13,14,15,16,17] (fun i _ _ _ _ _ wr => ∃ k : Nat,k ≤ 64 ∧ (k = 0 ∧ i = .int .i64 (-1) ∨ 1 ≤ k ∧ i = .int .i64 ((k - 1 : Nat) : Int)) ∧ Hid (Fed wr wP.heap.size x2 a2 m2 c (partG F k)) ∧ Hid (Below wP.heap.size wP wr)) (fun i _ _ _ _ _ _ => (intOf i + 1).toNat)
   case atStart => exact ⟨64,Nat.le_refl _,.inr ⟨by decide,rfl⟩,HF2,HBM⟩
   case round =>
     obtain ⟨k,hk,hki,hFd,hbw⟩:=hrel
     rcases hki with ⟨rfl,rfl⟩ | ⟨hk1,rfl⟩
     · have hF0 : Fed wr wP.heap.size x2 a2 m2 c F:=by have:=hFd.out; rwa [partG_zero F HRL.out] at this
       obtain ⟨S3,hW3,s3,hs3,hC3⟩:=hF0
       have KE2:=fun (w' : World) (hb' : Below wr.heap.size wr w') => exp_line (hW3.keep hb').agg (HT.out.below (HB2.out.then (hbw.out.then hb'))) (i:=1) (by decide) hs3 hC3 H6.out HN2.out HFit.out (by decide) (by decide)
       have KE1:=fun (w' : World) (hb' : Below wP.heap.size wP w') => exp_line (HW1.out.keep hb').agg (HT.out.below (HB2.out.then hb')) (i:=h) (by have:=HH3.out; omega) HS.out HC1.out H6.out HN2.out HFit.out (by decide) (by decide)
       have e2 : (((1 : Nat) : Int) + 1) = 2:=rfl
       rw [e2] at KE2
       rw [exp2_line] at KE2
       have hL:=numLine1 vExport ((h : Int) + 1)
       rw [vExport_sp] at hL
       simp only [hL] at KE1
       have hz:=exp_size HC.out H6.out HN2.out HFit.out (by decide) (by decide)
       unfold ReadPost at KE1 KE2
       have KT1:=Lib.hid (fun w => text_any ((h : Int) + 1) (i64_handle (by have:=HH3.out; omega)) w)
       have z1:=numT_size ((h : Int) + 1) ⟨by have:=HH3.out; omega,by have:=HH3.out; omega⟩
       have hwr : IntKind.i64.wrap ((h : Int) + 1) = (h : Int) + 1:=IntWalk.i64_in _ (by have:=HH3.out; omega)
       have hwr2 : wrap64 ((h : Int) + 1) = (h : Int) + 1:=by have:=HH3.out; unfold wrap64; omega
       generalize numT ((h : Int) + 1) = s1 at *
       generalize expT c F = xx at *
       have n1 : ¬ 9223372036854775807 < 7 + s1.size:=by omega
       have hx20 : (20 : Int) < ((xx.size : Nat) : Int):=by omega
       have KE1:=Lib.hid KE1
       have KE2:=Lib.hid KE2
       have HW3:=Lib.hid hW3
       clear hL z1 hz hW3 hs3 hC3 e2
       go_upto_region 18 with fail
       have A0:=Lib.hid (show ∀ w',Below wr.heap.size wr w' → w'.cell? ⟨x1,0,none⟩ = some (.pointer (some ⟨a1,0,none⟩)) from fun w' hb => (HW1.out.keep (hbw.out.then hb)).cells.1)
       have T:=Lib.hid (Below.refl wr.heap.size wr).drew
       refine wp_region_held (S:=fun w' => w'.cell? ⟨x1,0,none⟩ = some (.pointer (some ⟨a1,0,none⟩))) (by kernel_rfl) ?_
       refine wpAnyH_take (i:=0) (oi:=⟨_,_,_,_,_,_⟩) (v:=?vve0) rfl (by kernel_rfl) (by kernel_rfl) (by kernel_rfl) (fun _ _ _ h => h) (Or.inl ⟨by rfl,?yye0⟩) (A0.out _ T.out) ?_
       case yye0 => (intro w' hw'; go_simp; try with_reducible rfl)
       try simp only [Act.put,List.setIfInBounds_toArray,List.set_cons_zero,List.set_cons_succ]
       refine wpAnyH_take (i:=1) (oi:=⟨_,_,_,_,_,_⟩) (v:=?vve1) rfl (by kernel_rfl) (by kernel_rfl) (by kernel_rfl) (fun _ _ _ h => h) (Or.inl ⟨by rfl,?yye1⟩) (A0.out _ T.out) ?_
       case yye1 => (intro w' hw'; go_simp; try with_reducible rfl)
       try simp only [Act.put,List.setIfInBounds_toArray,List.set_cons_zero,List.set_cons_succ]
       refine wpAnyH_take (i:=2) (oi:=⟨_,_,_,_,_,_⟩) (v:=?vve2) rfl (by kernel_rfl) (by kernel_rfl) (by kernel_rfl) (fun _ _ _ h => h) (Or.inl ⟨by rfl,?yye2⟩) (A0.out _ T.out) ?_
       case yye2 => (intro w' hw'; go_simp; try with_reducible rfl)
       try simp only [Act.put,List.setIfInBounds_toArray,List.set_cons_zero,List.set_cons_succ]
       refine wpAnyH_take (i:=3) (oi:=⟨_,_,_,_,_,_⟩) (v:=?vve3) rfl (by kernel_rfl) (by kernel_rfl) (by kernel_rfl) (fun _ _ _ h => h) (Or.inl ⟨by rfl,?yye3⟩) (A0.out _ T.out) ?_
       case yye3 => (intro w' hw'; have c0:=hw'; go_simp; try with_reducible rfl)
       try simp only [Act.put,List.setIfInBounds_toArray,List.set_cons_zero,List.set_cons_succ]
       refine wpAnyH_take (i:=4) (oi:=⟨_,_,_,_,_,_⟩) (v:=?vve4) rfl (by kernel_rfl) (by kernel_rfl) (by kernel_rfl) (fun _ _ _ h => h) (Or.inl ⟨by rfl,?yye4⟩) (A0.out _ T.out) ?_
       case yye4 => (intro w' hw'; go_simp; try with_reducible rfl)
       try simp only [Act.put,List.setIfInBounds_toArray,List.set_cons_zero,List.set_cons_succ]
       refine wpAnyH_take (i:=5) (oi:=⟨_,_,_,_,_,_⟩) (v:=?vve5) rfl (by kernel_rfl) (by kernel_rfl) (by kernel_rfl) (fun _ _ _ h => h) (Or.inl ⟨by rfl,?yye5⟩) (A0.out _ T.out) ?_
       case yye5 => (intro w' hw'; go_simp; try with_reducible rfl)
       try simp only [Act.put,List.setIfInBounds_toArray,List.set_cons_zero,List.set_cons_succ]
       refine wpAnyH_ready (rs:=[6]) (by kernel_rfl) (by simp) ?_
       refine AllReadyH.cons (o:=⟨_,_,_,_,_,_⟩) rfl (fun K hK => ?_) AllReadyH.nil
       go_simp
       with_reducible refine (KT1.out _).mono ?_
       rintro e w3 ⟨rfl,hb⟩
       have T:=Lib.hid (T.out.then hb)
       clear hb
       refine hK.out _ _ (A0.out _ T.out) (fun hHeld => ?_)
       clear hK K hHeld
       try simp only [Act.put,List.setIfInBounds_toArray,List.set_cons_zero,List.set_cons_succ]
       refine wpAnyH_take (i:=7) (oi:=⟨_,_,_,_,_,_⟩) (v:=?vve7) rfl (by kernel_rfl) (by kernel_rfl) (by kernel_rfl) (fun _ _ _ h => h) (Or.inl ⟨by rfl,?yye7⟩) (A0.out _ T.out) ?_
       case yye7 => (intro w' hw'; go_simp; try with_reducible rfl)
       try simp only [Act.put,List.setIfInBounds_toArray,List.set_cons_zero,List.set_cons_succ]
       refine wpAnyH_ready (rs:=[8]) (by kernel_rfl) (by simp) ?_
       refine AllReadyH.cons (o:=⟨_,_,_,_,_,_⟩) rfl (fun K hK => ?_) AllReadyH.nil
       go_simp
       with_reducible refine (KE1.out _ (hbw.out.then T.out)).mono ?_
       rintro e w4 ⟨rfl,hA4,hb4⟩
       have T:=Lib.hid (T.out.then hb4)
       clear hA4 hb4
       refine hK.out _ _ (A0.out _ T.out) (fun hHeld => ?_)
       clear hK K hHeld
       try simp only [Act.put,List.setIfInBounds_toArray,List.set_cons_zero,List.set_cons_succ]
       refine wpAnyH_take (i:=9) (oi:=⟨_,_,_,_,_,_⟩) (v:=?vve9) rfl (by kernel_rfl) (by kernel_rfl) (by kernel_rfl) (fun _ _ _ h => h) (Or.inl ⟨by rfl,?yye9⟩) (A0.out _ T.out) ?_
       case yye9 => (intro w' hw'; go_simp; try with_reducible rfl)
       try simp only [Act.put,List.setIfInBounds_toArray,List.set_cons_zero,List.set_cons_succ]
       refine wpAnyH_take (i:=10) (oi:=⟨_,_,_,_,_,_⟩) (v:=?vve10) rfl (by kernel_rfl) (by kernel_rfl) (by kernel_rfl) (fun _ _ _ h => h) (Or.inl ⟨by rfl,?yye10⟩) (A0.out _ T.out) ?_
       case yye10 => (intro w' hw'; go_simp; try with_reducible rfl)
       try simp only [Act.put,List.setIfInBounds_toArray,List.set_cons_zero,List.set_cons_succ]
       refine wpAnyH_take (i:=11) (oi:=⟨_,_,_,_,_,_⟩) (v:=?vve11) rfl (by kernel_rfl) (by kernel_rfl) (by kernel_rfl) (fun _ _ _ h => h) (Or.inl ⟨by rfl,?yye11⟩) (A0.out _ T.out) ?_
       case yye11 => (intro w' hw'; go_simp; try with_reducible rfl)
       try simp only [Act.put,List.setIfInBounds_toArray,List.set_cons_zero,List.set_cons_succ]
       refine wpAnyH_take (i:=12) (oi:=⟨_,_,_,_,_,_⟩) (v:=?vve12) rfl (by kernel_rfl) (by kernel_rfl) (by kernel_rfl) (fun _ _ _ h => h) (Or.inl ⟨by rfl,?yye12⟩) (A0.out _ T.out) ?_
       case yye12 => (intro w' hw'; go_simp; try with_reducible rfl)
       try simp only [Act.put,List.setIfInBounds_toArray,List.set_cons_zero,List.set_cons_succ]
       refine wpAnyH_take (i:=13) (oi:=⟨_,_,_,_,_,_⟩) (v:=?vve13) rfl (by kernel_rfl) (by kernel_rfl) (by kernel_rfl) (fun _ _ _ h => h) (Or.inl ⟨by rfl,?yye13⟩) (A0.out _ T.out) ?_
       case yye13 => (intro w' hw'; go_simp; try with_reducible rfl)
       try simp only [Act.put,List.setIfInBounds_toArray,List.set_cons_zero,List.set_cons_succ]
       refine wpAnyH_done (by kernel_rfl) ?_ _
       clear A0 KE1 KT1 n1 hwr hwr2
       obtain ⟨W4,hW4⟩ : ∃ z : World,z = w4:=⟨_,rfl⟩
       subst hW4
       have c0:=(HW3.out.keep T.out).cells.1
       go_wp2_with fail
       with_reducible refine (KE2.out _ T.out).mono ?_
       rintro e w5 ⟨rfl,hA5,hb5⟩
       have HB5:=Lib.hid (HB2.out.then ((hbw.out.then T.out).then hb5))
       clear hA5 hb5 c0 KE2
       go_wp2_with fail
       go_ret
       exact ⟨rfl,HB5.out⟩
     · obtain ⟨j,rfl⟩ : ∃ j,k = j + 1:=⟨k - 1,by omega⟩
       have e : ((j + 1 - 1 : Nat) : Int) = (j : Int):=by omega
       rw [e]
       clear e
       have hj : j < 64:=by omega
       have hjI : (j : Int) < 64:=by omega
       have hj0 : (0 : Int) ≤ (j : Int):=by omega
       have HKey:=Lib.hid (show ∀ w',Below wP.heap.size wP w' → w'.cell? ⟨x1,6 + h * 64 + j,none⟩ = some (.int .i64 (F.getD j 0)) from fun w' hb => by
         have:=(HW1.out.keep hb).key (i:=64 * h + j) (by have:=HH3.out; omega)
         rw [← HGK.out j hj,show 6 + (64 * h + j) = 6 + h * 64 + j by omega] at this
         exact this)
       have hk0:=HKey.out _ hbw.out
       have hgf:=HFit.out.getD (by decide) j
       have htd:=tdiv_fit hgf
       have hU:=partG_step F hj ((F.getD j 0).tdiv 2)
       have HFP:=Lib.hid (partG_fit HFit.out (by decide) (j + 1))
       have HPL:=Lib.hid (partG_len F (j + 1))
       generalize F.getD j 0 = gj at *
       have hq1 : wrap64 (gj.tdiv 2) = gj.tdiv 2:=by unfold wrap64; omega
       obtain ⟨hf,hhf⟩ : ∃ q,gj.tdiv 2 = q:=⟨_,rfl⟩
       rw [hhf] at hU htd
       have HHF:=Lib.hid (hq1.trans hhf)
       have HU:=Lib.hid hU
       clear hU hq1 hhf
       have hs1 : wrap64 (gj - hf) = gj - hf:=by unfold wrap64; omega
       have hs2 : IntKind.i64.wrap (gj - hf) = gj - hf:=IntWalk.i64_in _ ⟨by omega,by omega⟩
       have hjw : IntKind.i64.wrap (j : Int) = (j : Int):=IntWalk.i64_in _ ⟨by omega,by omega⟩
       have KT1:=Lib.hid (fun w => text_any (j : Int) (i64_nat (by omega)) w)
       have KT2:=Lib.hid (fun w => text_any hf ⟨by omega,by omega⟩ w)
       have KT3:=Lib.hid (fun w => text_any (gj - hf) ⟨by omega,by omega⟩ w)
       have z1:=numT_size (j : Int) ⟨by omega,by omega⟩
       have z2:=numT_size hf ⟨by omega,by omega⟩
       have z3:=numT_size (gj - hf) ⟨by omega,by omega⟩
       have HF1:=Lib.hid (fit_bump2 HFP.out (by decide) j (d:=hf) ⟨by omega,by omega⟩)
       have KL1:=fun (w' : World) (hb' : Below wr.heap.size wr w') => fed_line (hFd.out.keep hb') (HT.out.below (HB2.out.then (hbw.out.then hb'))) (hbw.out.then hb').size HN2.out H6.out HPL.out HFP.out (by decide) (by decide) hj (d:=hf) ⟨by omega,by omega⟩
       have KL2:=fun (w' : World) (hb' : Below wP.heap.size wP w') (hf' : Fed w' wP.heap.size x2 a2 m2 c (bump (partG F (j + 1)) j hf)) => fed_line hf' (HT.out.below (HB2.out.then hb')) hb'.size HN2.out H6.out (by rw [bump_len]; exact HPL.out) HF1.out (by decide) (by decide) hj (d:=gj - hf) ⟨by omega,by omega⟩
       simp only [add2_line] at KL1 KL2
       generalize numT (j : Int) = s1 at *
       generalize numT hf = s2 at *
       generalize numT (gj - hf) = s3 at *
       have n1 : ¬ 9223372036854775807 < 6 + s1.size:=by omega
       have n2 : ¬ 9223372036854775807 < 6 + s1.size + 1:=by omega
       have n3 : ¬ 9223372036854775807 < 6 + s1.size + 1 + s2.size:=by omega
       have n4 : ¬ 9223372036854775807 < 6 + s1.size + 1 + s3.size:=by omega
       have KL1:=Lib.hid KL1
       have KL2:=Lib.hid KL2
       have HJ:=Lib.hid hj
       clear z1 z2 z3 hgf htd hj
       go_upto_region 14 with fail
       rw [HHF.out]
       clear hk0 HHF
       have A0:=Lib.hid (show ∀ w',Below wr.heap.size wr w' → w'.cell? ⟨x2,0,none⟩ = some (.pointer (some ⟨a2,0,none⟩)) from fun w' hb => (hFd.out.keep hb).c0)
       have T:=Lib.hid (Below.refl wr.heap.size wr).drew
       refine wp_region_held (S:=fun w' => w'.cell? ⟨x2,0,none⟩ = some (.pointer (some ⟨a2,0,none⟩))) (by kernel_rfl) ?_
       refine wpAnyH_take (i:=0) (oi:=⟨_,_,_,_,_,_⟩) (v:=?vvb0) rfl (by kernel_rfl) (by kernel_rfl) (by kernel_rfl) (fun _ _ _ h => h) (Or.inl ⟨by rfl,?yyb0⟩) (A0.out _ T.out) ?_
       case yyb0 => (intro w' hw'; go_simp; try with_reducible rfl)
       try simp only [Act.put,List.setIfInBounds_toArray,List.set_cons_zero,List.set_cons_succ]
       refine wpAnyH_take (i:=1) (oi:=⟨_,_,_,_,_,_⟩) (v:=?vvb1) rfl (by kernel_rfl) (by kernel_rfl) (by kernel_rfl) (fun _ _ _ h => h) (Or.inl ⟨by rfl,?yyb1⟩) (A0.out _ T.out) ?_
       case yyb1 => (intro w' hw'; go_simp; try with_reducible rfl)
       try simp only [Act.put,List.setIfInBounds_toArray,List.set_cons_zero,List.set_cons_succ]
       refine wpAnyH_take (i:=2) (oi:=⟨_,_,_,_,_,_⟩) (v:=?vvb2) rfl (by kernel_rfl) (by kernel_rfl) (by kernel_rfl) (fun _ _ _ h => h) (Or.inl ⟨by rfl,?yyb2⟩) (A0.out _ T.out) ?_
       case yyb2 => (intro w' hw'; go_simp; try with_reducible rfl)
       try simp only [Act.put,List.setIfInBounds_toArray,List.set_cons_zero,List.set_cons_succ]
       refine wpAnyH_take (i:=3) (oi:=⟨_,_,_,_,_,_⟩) (v:=?vvb3) rfl (by kernel_rfl) (by kernel_rfl) (by kernel_rfl) (fun _ _ _ h => h) (Or.inl ⟨by rfl,?yyb3⟩) (A0.out _ T.out) ?_
       case yyb3 => (intro w' hw'; have c0:=hw'; go_simp; try with_reducible rfl)
       try simp only [Act.put,List.setIfInBounds_toArray,List.set_cons_zero,List.set_cons_succ]
       refine wpAnyH_take (i:=4) (oi:=⟨_,_,_,_,_,_⟩) (v:=?vvb4) rfl (by kernel_rfl) (by kernel_rfl) (by kernel_rfl) (fun _ _ _ h => h) (Or.inl ⟨by rfl,?yyb4⟩) (A0.out _ T.out) ?_
       case yyb4 => (intro w' hw'; go_simp; try with_reducible rfl)
       try simp only [Act.put,List.setIfInBounds_toArray,List.set_cons_zero,List.set_cons_succ]
       refine wpAnyH_take (i:=8) (oi:=⟨_,_,_,_,_,_⟩) (v:=?vvb8) rfl (by kernel_rfl) (by kernel_rfl) (by kernel_rfl) (fun _ _ _ h => h) (Or.inl ⟨by rfl,?yyb8⟩) (A0.out _ T.out) ?_
       case yyb8 => (intro w' hw'; go_simp; try with_reducible rfl)
       try simp only [Act.put,List.setIfInBounds_toArray,List.set_cons_zero,List.set_cons_succ]
       refine wpAnyH_ready (rs:=[5]) (by kernel_rfl) (by simp) ?_
       refine AllReadyH.cons (o:=⟨_,_,_,_,_,_⟩) rfl (fun K hK => ?_) AllReadyH.nil
       go_simp
       with_reducible refine (KT1.out _).mono ?_
       rintro e w3 ⟨rfl,hb⟩
       have T:=Lib.hid (T.out.then hb)
       clear hb
       refine hK.out _ _ (A0.out _ T.out) (fun hHeld => ?_)
       clear hK K hHeld
       try simp only [Act.put,List.setIfInBounds_toArray,List.set_cons_zero,List.set_cons_succ]
       refine wpAnyH_take (i:=6) (oi:=⟨_,_,_,_,_,_⟩) (v:=?vvb6) rfl (by kernel_rfl) (by kernel_rfl) (by kernel_rfl) (fun _ _ _ h => h) (Or.inl ⟨by rfl,?yyb6⟩) (A0.out _ T.out) ?_
       case yyb6 => (intro w' hw'; go_simp; try with_reducible rfl)
       try simp only [Act.put,List.setIfInBounds_toArray,List.set_cons_zero,List.set_cons_succ]
       refine wpAnyH_take (i:=7) (oi:=⟨_,_,_,_,_,_⟩) (v:=?vvb7) rfl (by kernel_rfl) (by kernel_rfl) (by kernel_rfl) (fun _ _ _ h => h) (Or.inl ⟨by rfl,?yyb7⟩) (A0.out _ T.out) ?_
       case yyb7 => (intro w' hw'; go_simp; try with_reducible rfl)
       try simp only [Act.put,List.setIfInBounds_toArray,List.set_cons_zero,List.set_cons_succ]
       refine wpAnyH_ready (rs:=[9]) (by kernel_rfl) (by simp) ?_
       refine AllReadyH.cons (o:=⟨_,_,_,_,_,_⟩) rfl (fun K hK => ?_) AllReadyH.nil
       go_simp
       with_reducible refine (KT2.out _).mono ?_
       rintro e w3 ⟨rfl,hb⟩
       have T:=Lib.hid (T.out.then hb)
       clear hb
       refine hK.out _ _ (A0.out _ T.out) (fun hHeld => ?_)
       clear hK K hHeld
       try simp only [Act.put,List.setIfInBounds_toArray,List.set_cons_zero,List.set_cons_succ]
       refine wpAnyH_take (i:=10) (oi:=⟨_,_,_,_,_,_⟩) (v:=?vvb10) rfl (by kernel_rfl) (by kernel_rfl) (by kernel_rfl) (fun _ _ _ h => h) (Or.inl ⟨by rfl,?yyb10⟩) (A0.out _ T.out) ?_
       case yyb10 => (intro w' hw'; go_simp; try with_reducible rfl)
       try simp only [Act.put,List.setIfInBounds_toArray,List.set_cons_zero,List.set_cons_succ]
       refine wpAnyH_ready (rs:=[11]) (by kernel_rfl) (by simp) ?_
       refine AllReadyH.cons (o:=⟨_,_,_,_,_,_⟩) rfl (fun K hK => ?_) AllReadyH.nil
       go_simp
       with_reducible refine (KL1.out _ T.out).mono ?_
       rintro e w4 ⟨rfl,hF4,hb4⟩
       have HF4:=Lib.hid hF4
       have HB4:=Lib.hid ((hbw.out.then T.out).trans hb4)
       have A4:=Lib.hid hF4.c0
       clear hF4 hb4
       refine hK.out _ _ A4.out (fun hHeld => ?_)
       clear hK K hHeld
       try simp only [Act.put,List.setIfInBounds_toArray,List.set_cons_zero,List.set_cons_succ]
       refine wpAnyH_take (i:=12) (oi:=⟨_,_,_,_,_,_⟩) (v:=?vvb12) rfl (by kernel_rfl) (by kernel_rfl) (by kernel_rfl) (fun _ _ _ h => h) (Or.inl ⟨by rfl,?yyb12⟩) A4.out ?_
       case yyb12 => (intro w' hw'; go_simp; try with_reducible rfl)
       try simp only [Act.put,List.setIfInBounds_toArray,List.set_cons_zero,List.set_cons_succ]
       refine wpAnyH_take (i:=13) (oi:=⟨_,_,_,_,_,_⟩) (v:=?vvb13) rfl (by kernel_rfl) (by kernel_rfl) (by kernel_rfl) (fun _ _ _ h => h) (Or.inl ⟨by rfl,?yyb13⟩) A4.out ?_
       case yyb13 => (intro w' hw'; go_simp; try with_reducible rfl)
       try simp only [Act.put,List.setIfInBounds_toArray,List.set_cons_zero,List.set_cons_succ]
       refine wpAnyH_take (i:=14) (oi:=⟨_,_,_,_,_,_⟩) (v:=?vvb14) rfl (by kernel_rfl) (by kernel_rfl) (by kernel_rfl) (fun _ _ _ h => h) (Or.inl ⟨by rfl,?yyb14⟩) A4.out ?_
       case yyb14 => (intro w' hw'; go_simp; try with_reducible rfl)
       try simp only [Act.put,List.setIfInBounds_toArray,List.set_cons_zero,List.set_cons_succ]
       refine wpAnyH_take (i:=15) (oi:=⟨_,_,_,_,_,_⟩) (v:=?vvb15) rfl (by kernel_rfl) (by kernel_rfl) (by kernel_rfl) (fun _ _ _ h => h) (Or.inl ⟨by rfl,?yyb15⟩) A4.out ?_
       case yyb15 => (intro w' hw'; go_simp; try with_reducible rfl)
       try simp only [Act.put,List.setIfInBounds_toArray,List.set_cons_zero,List.set_cons_succ]
       refine wpAnyH_take (i:=16) (oi:=⟨_,_,_,_,_,_⟩) (v:=?vvb16) rfl (by kernel_rfl) (by kernel_rfl) (by kernel_rfl) (fun _ _ _ h => h) (Or.inl ⟨by rfl,?yyb16⟩) A4.out ?_
       case yyb16 => (intro w' hw'; go_simp; try with_reducible rfl)
       try simp only [Act.put,List.setIfInBounds_toArray,List.set_cons_zero,List.set_cons_succ]
       refine wpAnyH_done (by kernel_rfl) ?_ _
       clear A0 A4 KL1
       obtain ⟨W4,hW4⟩ : ∃ z : World,z = w4:=⟨_,rfl⟩
       subst hW4
       go_upto_region 15 with fail
       have A0:=Lib.hid (show ∀ w',Below W4.heap.size W4 w' → w'.cell? ⟨x2,0,none⟩ = some (.pointer (some ⟨a2,0,none⟩)) ∧ w'.cell? ⟨x1,6 + h * 64 + j,none⟩ = some (.int .i64 gj) from fun w' hb => ⟨(HF4.out.keep hb).c0,HKey.out _ (HB4.out.then hb)⟩)
       have T:=Lib.hid (Below.refl W4.heap.size W4).drew
       refine wp_region_held (S:=fun w' => w'.cell? ⟨x2,0,none⟩ = some (.pointer (some ⟨a2,0,none⟩)) ∧ w'.cell? ⟨x1,6 + h * 64 + j,none⟩ = some (.int .i64 gj)) (by kernel_rfl) ?_
       refine wpAnyH_take (i:=0) (oi:=⟨_,_,_,_,_,_⟩) (v:=?vvd0) rfl (by kernel_rfl) (by kernel_rfl) (by kernel_rfl) (fun _ _ _ h => h) (Or.inl ⟨by rfl,?yyd0⟩) (A0.out _ T.out) ?_
       case yyd0 => (intro w' hw'; go_simp; try with_reducible rfl)
       try simp only [Act.put,List.setIfInBounds_toArray,List.set_cons_zero,List.set_cons_succ]
       refine wpAnyH_take (i:=1) (oi:=⟨_,_,_,_,_,_⟩) (v:=?vvd1) rfl (by kernel_rfl) (by kernel_rfl) (by kernel_rfl) (fun _ _ _ h => h) (Or.inl ⟨by rfl,?yyd1⟩) (A0.out _ T.out) ?_
       case yyd1 => (intro w' hw'; go_simp; try with_reducible rfl)
       try simp only [Act.put,List.setIfInBounds_toArray,List.set_cons_zero,List.set_cons_succ]
       refine wpAnyH_take (i:=2) (oi:=⟨_,_,_,_,_,_⟩) (v:=?vvd2) rfl (by kernel_rfl) (by kernel_rfl) (by kernel_rfl) (fun _ _ _ h => h) (Or.inl ⟨by rfl,?yyd2⟩) (A0.out _ T.out) ?_
       case yyd2 => (intro w' hw'; go_simp; try with_reducible rfl)
       try simp only [Act.put,List.setIfInBounds_toArray,List.set_cons_zero,List.set_cons_succ]
       refine wpAnyH_take (i:=3) (oi:=⟨_,_,_,_,_,_⟩) (v:=?vvd3) rfl (by kernel_rfl) (by kernel_rfl) (by kernel_rfl) (fun _ _ _ h => h) (Or.inl ⟨by rfl,?yyd3⟩) (A0.out _ T.out) ?_
       case yyd3 => (intro w' hw'; obtain ⟨c0,c1⟩:=hw'; go_simp; try with_reducible rfl)
       try simp only [Act.put,List.setIfInBounds_toArray,List.set_cons_zero,List.set_cons_succ]
       refine wpAnyH_take (i:=4) (oi:=⟨_,_,_,_,_,_⟩) (v:=?vvd4) rfl (by kernel_rfl) (by kernel_rfl) (by kernel_rfl) (fun _ _ _ h => h) (Or.inl ⟨by rfl,?yyd4⟩) (A0.out _ T.out) ?_
       case yyd4 => (intro w' hw'; go_simp; try with_reducible rfl)
       try simp only [Act.put,List.setIfInBounds_toArray,List.set_cons_zero,List.set_cons_succ]
       refine wpAnyH_take (i:=8) (oi:=⟨_,_,_,_,_,_⟩) (v:=?vvd8) rfl (by kernel_rfl) (by kernel_rfl) (by kernel_rfl) (fun _ _ _ h => h) (Or.inl ⟨by rfl,?yyd8⟩) (A0.out _ T.out) ?_
       case yyd8 => (intro w' hw'; go_simp; try with_reducible rfl)
       try simp only [Act.put,List.setIfInBounds_toArray,List.set_cons_zero,List.set_cons_succ]
       refine wpAnyH_take (i:=9) (oi:=⟨_,_,_,_,_,_⟩) (v:=?vvd9) rfl (by kernel_rfl) (by kernel_rfl) (by kernel_rfl) (fun _ _ _ h => h) (Or.inl ⟨by rfl,?yyd9⟩) (A0.out _ T.out) ?_
       case yyd9 => (intro w' hw'; go_simp; try with_reducible rfl)
       try simp only [Act.put,List.setIfInBounds_toArray,List.set_cons_zero,List.set_cons_succ]
       refine wpAnyH_take (i:=10) (oi:=⟨_,_,_,_,_,_⟩) (v:=?vvd10) rfl (by kernel_rfl) (by kernel_rfl) (by kernel_rfl) (fun _ _ _ h => h) (Or.inl ⟨by rfl,?yyd10⟩) (A0.out _ T.out) ?_
       case yyd10 => (intro w' hw'; go_simp; try with_reducible rfl)
       try simp only [Act.put,List.setIfInBounds_toArray,List.set_cons_zero,List.set_cons_succ]
       refine wpAnyH_take (i:=11) (oi:=⟨_,_,_,_,_,_⟩) (v:=?vvd11) rfl (by kernel_rfl) (by kernel_rfl) (by kernel_rfl) (fun _ _ _ h => h) (Or.inl ⟨by rfl,?yyd11⟩) (A0.out _ T.out) ?_
       case yyd11 => (intro w' hw'; go_simp; try with_reducible rfl)
       try simp only [Act.put,List.setIfInBounds_toArray,List.set_cons_zero,List.set_cons_succ]
       refine wpAnyH_take (i:=12) (oi:=⟨_,_,_,_,_,_⟩) (v:=?vvd12) rfl (by kernel_rfl) (by kernel_rfl) (by kernel_rfl) (fun _ _ _ h => h) (Or.inl ⟨by rfl,?yyd12⟩) (A0.out _ T.out) ?_
       case yyd12 => (intro w' hw'; go_simp; try with_reducible rfl)
       try simp only [Act.put,List.setIfInBounds_toArray,List.set_cons_zero,List.set_cons_succ]
       refine wpAnyH_take (i:=13) (oi:=⟨_,_,_,_,_,_⟩) (v:=?vvd13) rfl (by kernel_rfl) (by kernel_rfl) (by kernel_rfl) (fun _ _ _ h => h) (Or.inl ⟨by rfl,?yyd13⟩) (A0.out _ T.out) ?_
       case yyd13 => (intro w' hw'; go_simp; try with_reducible rfl)
       try simp only [Act.put,List.setIfInBounds_toArray,List.set_cons_zero,List.set_cons_succ]
       refine wpAnyH_take (i:=14) (oi:=⟨_,_,_,_,_,_⟩) (v:=?vvd14) rfl (by kernel_rfl) (by kernel_rfl) (by kernel_rfl) (fun _ _ _ h => h) (Or.inl ⟨by rfl,?yyd14⟩) (A0.out _ T.out) ?_
       case yyd14 => (intro w' hw'; go_simp; try with_reducible rfl)
       try simp only [Act.put,List.setIfInBounds_toArray,List.set_cons_zero,List.set_cons_succ]
       refine wpAnyH_take (i:=15) (oi:=⟨_,_,_,_,_,_⟩) (v:=?vvd15) rfl (by kernel_rfl) (by kernel_rfl) (by kernel_rfl) (fun _ _ _ h => h) (Or.inl ⟨by rfl,?yyd15⟩) (A0.out _ T.out) ?_
       case yyd15 => (intro w' hw'; obtain ⟨c0,c1⟩:=hw'; go_simp; try with_reducible rfl)
       try simp only [Act.put,List.setIfInBounds_toArray,List.set_cons_zero,List.set_cons_succ]
       refine wpAnyH_take (i:=16) (oi:=⟨_,_,_,_,_,_⟩) (v:=?vvd16) rfl (by kernel_rfl) (by kernel_rfl) (by kernel_rfl) (fun _ _ _ h => h) (Or.inl ⟨by rfl,?yyd16⟩) (A0.out _ T.out) ?_
       case yyd16 => (intro w' hw'; go_simp; try with_reducible rfl)
       try simp only [Act.put,List.setIfInBounds_toArray,List.set_cons_zero,List.set_cons_succ]
       refine wpAnyH_take (i:=17) (oi:=⟨_,_,_,_,_,_⟩) (v:=?vvd17) rfl (by kernel_rfl) (by kernel_rfl) (by kernel_rfl) (fun _ _ _ h => h) (Or.inl ⟨by rfl,?yyd17⟩) (A0.out _ T.out) ?_
       case yyd17 => (intro w' hw'; go_simp; try with_reducible rfl)
       try simp only [Act.put,List.setIfInBounds_toArray,List.set_cons_zero,List.set_cons_succ]
       refine wpAnyH_ready (rs:=[5]) (by kernel_rfl) (by simp) ?_
       refine AllReadyH.cons (o:=⟨_,_,_,_,_,_⟩) rfl (fun K hK => ?_) AllReadyH.nil
       go_simp
       with_reducible refine (KT1.out _).mono ?_
       rintro e w3 ⟨rfl,hb⟩
       have T:=Lib.hid (T.out.then hb)
       clear hb
       refine hK.out _ _ (A0.out _ T.out) (fun hHeld => ?_)
       clear hK K hHeld
       try simp only [Act.put,List.setIfInBounds_toArray,List.set_cons_zero,List.set_cons_succ]
       refine wpAnyH_take (i:=6) (oi:=⟨_,_,_,_,_,_⟩) (v:=?vvd6) rfl (by kernel_rfl) (by kernel_rfl) (by kernel_rfl) (fun _ _ _ h => h) (Or.inl ⟨by rfl,?yyd6⟩) (A0.out _ T.out) ?_
       case yyd6 => (intro w' hw'; go_simp; try with_reducible rfl)
       try simp only [Act.put,List.setIfInBounds_toArray,List.set_cons_zero,List.set_cons_succ]
       refine wpAnyH_take (i:=7) (oi:=⟨_,_,_,_,_,_⟩) (v:=?vvd7) rfl (by kernel_rfl) (by kernel_rfl) (by kernel_rfl) (fun _ _ _ h => h) (Or.inl ⟨by rfl,?yyd7⟩) (A0.out _ T.out) ?_
       case yyd7 => (intro w' hw'; go_simp; try with_reducible rfl)
       try simp only [Act.put,List.setIfInBounds_toArray,List.set_cons_zero,List.set_cons_succ]
       refine wpAnyH_ready (rs:=[18]) (by kernel_rfl) (by simp) ?_
       refine AllReadyH.cons (o:=⟨_,_,_,_,_,_⟩) rfl (fun K hK => ?_) AllReadyH.nil
       go_simp
       with_reducible refine (KT3.out _).mono ?_
       rintro e w3 ⟨rfl,hb⟩
       have T:=Lib.hid (T.out.then hb)
       clear hb
       refine hK.out _ _ (A0.out _ T.out) (fun hHeld => ?_)
       clear hK K hHeld
       try simp only [Act.put,List.setIfInBounds_toArray,List.set_cons_zero,List.set_cons_succ]
       refine wpAnyH_take (i:=19) (oi:=⟨_,_,_,_,_,_⟩) (v:=?vvd19) rfl (by kernel_rfl) (by kernel_rfl) (by kernel_rfl) (fun _ _ _ h => h) (Or.inl ⟨by rfl,?yyd19⟩) (A0.out _ T.out) ?_
       case yyd19 => (intro w' hw'; go_simp; try with_reducible rfl)
       try simp only [Act.put,List.setIfInBounds_toArray,List.set_cons_zero,List.set_cons_succ]
       refine wpAnyH_ready (rs:=[20]) (by kernel_rfl) (by simp) ?_
       refine AllReadyH.cons (o:=⟨_,_,_,_,_,_⟩) rfl (fun K hK => ?_) AllReadyH.nil
       go_simp
       with_reducible refine (KL2.out _ (HB4.out.then T.out) (HF4.out.keep T.out)).mono ?_
       rintro e w6 ⟨rfl,hF6,hb6⟩
       rw [HU.out] at hF6
       have HF6:=Lib.hid hF6
       have HB6:=Lib.hid ((HB4.out.then T.out).trans hb6)
       have A6:=Lib.hid (And.intro hF6.c0 (HKey.out _ HB6.out))
       clear hF6 hb6
       refine hK.out _ _ A6.out (fun hHeld => ?_)
       clear hK K hHeld
       try simp only [Act.put,List.setIfInBounds_toArray,List.set_cons_zero,List.set_cons_succ]
       refine wpAnyH_take (i:=21) (oi:=⟨_,_,_,_,_,_⟩) (v:=?vvd21) rfl (by kernel_rfl) (by kernel_rfl) (by kernel_rfl) (fun _ _ _ h => h) (Or.inl ⟨by rfl,?yyd21⟩) A6.out ?_
       case yyd21 => (intro w' hw'; go_simp; try with_reducible rfl)
       try simp only [Act.put,List.setIfInBounds_toArray,List.set_cons_zero,List.set_cons_succ]
       refine wpAnyH_take (i:=22) (oi:=⟨_,_,_,_,_,_⟩) (v:=?vvd22) rfl (by kernel_rfl) (by kernel_rfl) (by kernel_rfl) (fun _ _ _ h => h) (Or.inl ⟨by rfl,?yyd22⟩) A6.out ?_
       case yyd22 => (intro w' hw'; go_simp; try with_reducible rfl)
       try simp only [Act.put,List.setIfInBounds_toArray,List.set_cons_zero,List.set_cons_succ]
       refine wpAnyH_take (i:=23) (oi:=⟨_,_,_,_,_,_⟩) (v:=?vvd23) rfl (by kernel_rfl) (by kernel_rfl) (by kernel_rfl) (fun _ _ _ h => h) (Or.inl ⟨by rfl,?yyd23⟩) A6.out ?_
       case yyd23 => (intro w' hw'; go_simp; try with_reducible rfl)
       try simp only [Act.put,List.setIfInBounds_toArray,List.set_cons_zero,List.set_cons_succ]
       refine wpAnyH_take (i:=24) (oi:=⟨_,_,_,_,_,_⟩) (v:=?vvd24) rfl (by kernel_rfl) (by kernel_rfl) (by kernel_rfl) (fun _ _ _ h => h) (Or.inl ⟨by rfl,?yyd24⟩) A6.out ?_
       case yyd24 => (intro w' hw'; go_simp; try with_reducible rfl)
       try simp only [Act.put,List.setIfInBounds_toArray,List.set_cons_zero,List.set_cons_succ]
       refine wpAnyH_take (i:=25) (oi:=⟨_,_,_,_,_,_⟩) (v:=?vvd25) rfl (by kernel_rfl) (by kernel_rfl) (by kernel_rfl) (fun _ _ _ h => h) (Or.inl ⟨by rfl,?yyd25⟩) A6.out ?_
       case yyd25 => (intro w' hw'; go_simp; try with_reducible rfl)
       try simp only [Act.put,List.setIfInBounds_toArray,List.set_cons_zero,List.set_cons_succ]
       refine wpAnyH_done (by kernel_rfl) ?_ _
       clear A0 A6 KL2 n1 n2 n3 n4 KT1 KT2 KT3
       obtain ⟨W6,hW6⟩ : ∃ z : World,z = w6:=⟨_,rfl⟩
       subst hW6
       have hbd:=bDone_ne
       have hbp : bDone.toList = [100,111,110,101]:=eq_of_beq bDone_eq
       have hjw1 : wrap64 ((j : Int) - 1) = (j : Int) - 1:=by have:=HJ.out; unfold wrap64; omega
       have hjw2 : IntKind.i64.wrap ((j : Int) - 1) = (j : Int) - 1:=IntWalk.i64_in _ ⟨by omega,by have:=HJ.out; omega⟩
       go_wp2_with fail
       go_roundw
       case rel =>
         refine ⟨j,by omega,?_,HF6,HB6⟩
         rcases Nat.eq_zero_or_pos j with e | e
         · subst e; exact .inl ⟨rfl,rfl⟩
         · refine .inr ⟨e,?_⟩
           rw [show ((j - 1 : Nat) : Int) = (j : Int) - 1 by omega]
       case measure => first | (simp [intOf]; done) | (simp [intOf]; omega)
end Go.Proofs.YtejaocnhekjfiaaGreatDoor
