/- Walks and plain laws, part 14: Prt Way Hv Hv2 Ag13 Rng Qnt Ag14. -/
import Derived.Test.YtejaocnhekjfiaaGreatDoorK02
import Derived.Test.YtejaocnhekjfiaaGreatDoorK04
import Derived.Test.YtejaocnhekjfiaaGreatDoorK07
import Derived.Test.YtejaocnhekjfiaaGreatDoorK08
import Derived.Test.YtejaocnhekjfiaaGreatDoorK10
import Derived.Test.YtejaocnhekjfiaaGreatDoorK13
namespace Go.Proofs.YtejaocnhekjfiaaGreatDoor
open Go.RowKit Go.Shelf
set_option linter.unusedVariables false
attribute [local go_sem] Oper.semAt_some
open S14 (PRow)
set_option maxRecDepth 100000 in
set_option maxHeartbeats 1000000 in
theorem part_any {w : World} {p q : Nat} {c : Cfg} {L : List LA} {C : List (List Int)} (h : StackIs w p q c L C) (b : Nat) (hb : Boxed w b 108 (.pointer (some ⟨p,0,none⟩))) (n : Nat) (A : LA) (zs : List Int) (hA : L[n]? = some A) (hz : C[n]? = some zs) (key : Nat) (hk : key < 2 ^ (c.bits - n)) :
   Calls Tryz.prog 176 #[.agg #[.int .i64 n,.int .u64 key],.pointer (some ⟨b,0,none⟩)] w fun e w' => e = .returned (.int .i64 (levPoint c n zs key)) ∧ Below w.heap.size w w':=by
 have hb1:=(Below.refl w.heap.size w).alloc (Nat.le_refl _) (.cells #[.int .i64 n,.int .u64 key] 46)
 have hbl:=heap_alloc_new w (.cells #[.int .i64 n,.int .u64 key] 46)
 have K:=Lib.hid (stpoint_ok (h.below hb1) n A zs hA hz key hk)
 have HB:=Lib.hid hb1
 have c0:=(hb.alloc (.cells #[.int .i64 n,.int .u64 key] 46)).cell
 generalize levPoint c n zs key = r at *
 clear h hb hb1 hbl hA hz hk
 go_enter Tryz.func176,Tryz.ntmps176
 go_wp2_with fail
 refine K.out.mono ?_
 rintro e w1 ⟨rfl,hb⟩
 have HB1:=Lib.hid (HB.out.then hb)
 clear hb
 go_wp2_with fail
 go_ret
 exact ⟨rfl,HB1.out⟩
noncomputable def partV (c : Cfg) (C : List (List Int)) (q : Nat × Nat) : Int:=levPoint c q.1 (C.getD q.1 []) q.2
structure PartI (w1 : World) (n₀ B a3 : Nat) (vs : List Int) (k : Nat) (W : World) : Prop where
 low : Below B w1 W
 b10 : Boxed W B 310 (.func (.func 176) #[] #[.pointer (some ⟨a3,0,none⟩)])
 row : ∃ v,Boxed W (B + 1) 125 v ∧ W.ownsRow n₀ 2 1 v k ((vs.take k).map (Value.int .i64))
 size : n₀ ≤ W.heap.size
theorem PartI.abides {w1 : World} {n₀ B a3 : Nat} {vs : List Int} (h4 : n₀ = B + 3) : AbidesB (B + 2) n₀ (PartI w1 n₀ B a3 vs):=by
 constructor
 · intro k W W' row h hg hr
   obtain ⟨v,hv,ho⟩:=h.row
   have nb : ∀ j,j < n₀ → some j ≠ row:=fun j hj e => by have:=(hr j e.symm).1; omega
   have hsz:=h.size
   refine ⟨h.low.grown hg (by omega) (fun r e => by have:=(hr r e).1; omega),h.b10.kept hg (nb _ (by omega)),⟨v,hv.kept hg (nb _ (by omega)),ho.kept hg ?_⟩,Nat.le_trans h.size hg.size⟩
   rcases ho.2 with ⟨rfl,_⟩ | ⟨g,cap,cur,rfl,_,hgb,_⟩
   · exact .inl rfl
   · refine .inr fun e => ?_
     obtain ⟨_,o,ho,hc⟩:=hr g (by simpa [Value.ownBlock] using e.symm)
     rw [hgb] at ho; cases ho; cases hc
 · intro k W u h
   obtain ⟨v,hv,ho⟩:=h.row
   have hg:=grownBy_setCell' W (B + 2) u
   have hsz:=h.size
   refine ⟨h.low.grown hg (by omega) (fun r e => by cases e; omega),h.b10.kept hg (fun e => by simp at e),⟨v,hv.kept hg (fun e => by simp at e),ho.kept hg ?_⟩,Nat.le_trans h.size hg.size⟩
   rcases ho.2 with ⟨rfl,_⟩ | ⟨g,cap,cur,rfl,hge,hgb,_⟩
   · exact .inl rfl
   · refine .inr fun e => ?_
     have : g = B + 2:=by simpa [Value.ownBlock] using e
     omega
theorem PartI.next {w1 W W1 w3 : World} {n₀ B a3 k : Nat} {vs : List Int} {v v' : Value} {r : Int} {ob : Obj} (h4 : n₀ = B + 3) (hI : PartI w1 n₀ B a3 vs k W) (hu : Below W.heap.size W W1) (hv : Boxed W (B + 1) 125 v)
   (ho : W.ownsRow n₀ 2 1 v k ((vs.take k).map (Value.int .i64)))
   (hown' : w3.ownsRow n₀ 2 1 v' (k + 1) ((vs.take k).map (Value.int .i64) ++ [.int .i64 r])) (hgrow : (W1.alloc ob).grownBy w3 v.ownBlock) (ht : vs[k]? = some r) :
   Boxed w3 (B + 1) 125 v ∧ Boxed w3 B 310 (.func (.func 176) #[] #[.pointer (some ⟨a3,0,none⟩)]) ∧ KeepsFrom n₀ W (w3.setCell ⟨B + 1,0,none⟩ v') ∧ Below B W (w3.setCell ⟨B + 1,0,none⟩ v') ∧ PartI w1 n₀ B a3 vs (k + 1) (w3.setCell ⟨B + 1,0,none⟩ v'):=by
 have hsz:=hI.size
 have hv1 : Boxed W1 (B + 1) 125 v:=(hu.block _ hv.lt).trans hv
 have hb1 : Boxed W1 B 310 (.func (.func 176) #[] #[.pointer (some ⟨a3,0,none⟩)]):=(hu.block _ hI.b10.lt).trans hI.b10
 have ho1 : W1.ownsRow n₀ 2 1 v k ((vs.take k).map (Value.int .i64)):=ownsRow_upd ho (Upd.of_below (S:=fun _ => False) hu) (fun _ _ _ _ h => h)
 have hs1:=hu.size
 obtain ⟨hv2,hv3,_,hk2,hb2⟩:=hv1.appended (n₀:=B) (by decide) (ownsRow_base ho1 (by omega)) (by omega) (by omega) (ownsRow_base hown' (by omega)) hgrow
 have hg2:=grownBy_setCell' w3 (B + 1) v'
 have own_ne : ∀ j,j < n₀ → some j ≠ v.ownBlock:=fun j hj e => by have:=(ownsRow_g ho1 e.symm).1; omega
 have hb3 : Boxed w3 B 310 (.func (.func 176) #[] #[.pointer (some ⟨a3,0,none⟩)]):=(hb1.alloc _).kept hgrow (own_ne _ (by omega))
 have hkf : KeepsFrom n₀ W W1:=⟨hu.size,fun k o hk ho hc => (hu.block k (Array.getElem?_eq_some_iff.1 ho).1).trans ho⟩
 have hsz3 : W1.heap.size ≤ (w3.setCell ⟨B + 1,0,none⟩ v').heap.size:=hk2.size
 have hlow : Below B W (w3.setCell ⟨B + 1,0,none⟩ v'):=(hu.mono (by omega)).trans hb2
 refine ⟨hv2,hb3,hkf.trans (hk2.from _),hlow,⟨hI.low.trans hlow,hb3.other (by omega) v',⟨v',hv3,?_⟩,by omega⟩⟩
 have e1 : (vs.take (k + 1)).map (Value.int .i64) = (vs.take k).map (Value.int .i64) ++ [.int .i64 r]:=by rw [List.take_add_one,ht]; simp
 rw [e1]
 exact hown'.kept hg2 (.inr (hv2.not_row (by decide) hown').symm)
def PartsR (w : World) (vs : List Int) (e : Ending) (w' : World) : Prop:=
 ∃ ad cap,e = .returned (.tuple #[.slice ad vs.length cap,.int .i64 0]) ∧ Row w' ad vs.length (vs.map (Value.int .i64)) ∧ Below w.heap.size w w'
set_option maxRecDepth 100000 in
set_option maxHeartbeats 4000000 in
theorem parts_ok {w : World} {p q : Nat} {c : Cfg} {L : List LA} {C : List (List Int)} (h : StackIs w p q c L C) (lo hi : Nat) (hlo : lo < 18446744073709551616) (hhi : hi < 18446744073709551616) (hok : S14.okC c.bits lo hi = true)
   (hP : ∀ x ∈ S14.covL c.bits lo hi,x.1 ≤ c.bits ∧ x.2 < 2 ^ (c.bits - x.1)) (hlen : (S14.covL c.bits lo hi).length ≤ 1000) :
   Calls Tryz.prog 137 #[.pointer (some ⟨p,0,none⟩),.int .u64 lo,.int .u64 hi] w (PartsR w ((S14.covL c.bits lo hi).map (partV c C))):=by
 have hle : lo ≤ hi:=by unfold S14.okC at hok; simp only [Bool.and_eq_true,decide_eq_true_eq] at hok; exact hok.1.2
 have hb0:=(Below.refl w.heap.size w).alloc (Nat.le_refl _) (.cells #[.pointer (some ⟨p,0,none⟩)] 108)
 have b3:=Boxed.new w 108 (.pointer (some ⟨p,0,none⟩))
 have hs0 : (w.alloc (.cells #[.pointer (some ⟨p,0,none⟩)] 108)).heap.size = w.heap.size + 1:=by simp
 have h1:=h.below hb0
 have KC:=fun w0 hb => stconfig_any (h1.below (w':=w0) hb)
 have KV:=fun w0 => S14.cover_good c.bits lo hi w0 hlo hhi hok
 have c3:=b3.cell
 have hgd : decide (hi < lo) = false:=by simpa using hle
 have hgi : ¬ ((hi : Int) < lo):=by omega
 generalize hW0 : w.alloc (.cells #[.pointer (some ⟨p,0,none⟩)] 108) = W0 at *
 unfold cfgV at KC
 generalize hcv : S14.covL c.bits lo hi = xs at *
 refine (callsIn_wide (n:=9)).1 ?_
 refine callsIn_of_wp_marks Tryz.func137 rfl trivial ?_ rfl
 simp only [Tryz.ntmps137,List.size_toArray,List.length_cons,List.length_nil,Nat.reduceAdd,Nat.reduceSub,Array.replicate_succ,Array.replicate_zero,List.push_toArray,List.append_toArray,List.nil_append,List.cons_append]
 gi_wp2
 refine ⟨trivial,(callsIn_wide.2 (KC _ (Below.refl _ _))).mono ?_⟩
 rintro e w1 ⟨rfl,hb1⟩
 gi_wp2
 refine ⟨trivial,(callsIn_wide.2 (KV _)).mono ?_⟩
 rintro e w2 ⟨ad,cap,rfl,hrow,hb2⟩
 rw [hcv,hok] at *
 gi_wp2
 refine ⟨trivial,(callsIn_wide.2 (values177 _ ad xs.length cap rfl _)).mono ?_⟩
 rintro e w3 ⟨rfl,hw3⟩
 have hB10 : Boxed w3 w2.heap.size 310 (.func (.func 176) #[] #[.pointer (some ⟨w.heap.size,0,none⟩)]):=by
   rw [hw3]; exact ((Boxed.new w2 310 _).alloc _).alloc _
 have hB11 : Boxed w3 (w2.heap.size + 1) 125 (.slice none 0 0):=by
   have h:=(Boxed.new (w2.alloc (.cells #[.func (.func 176) #[] #[.pointer (some ⟨w.heap.size,0,none⟩)]] 310)) 125 (.slice none 0 0)).alloc (.cells #[.slice ad xs.length cap] 256)
   rw [World.size_alloc] at h
   rw [hw3]; exact h
 have hB12 : Boxed w3 (w2.heap.size + 2) 256 (.slice ad xs.length cap):=by
   have h:=Boxed.new ((w2.alloc (.cells #[.func (.func 176) #[] #[.pointer (some ⟨w.heap.size,0,none⟩)]] 310)).alloc (.cells #[.slice none 0 0] 125)) 256 (.slice ad xs.length cap)
   rw [World.size_alloc,World.size_alloc] at h
   rw [hw3]; exact h
 have hsz3 : w3.heap.size = w2.heap.size + 3:=by rw [hw3]; simp
 have hb23 : Below w2.heap.size w2 w3:=by
   rw [hw3]
   exact (((Below.refl _ w2).alloc (Nat.le_refl _) _).alloc (by simp) _).alloc (by simp; omega) _
 clear hw3
 gi_wp2
 have hb02 : Below W0.heap.size W0 w2:=hb1.then hb2
 have hrow3:=hrow.below hb23
 have hI0 : PartI w2 w3.heap.size w2.heap.size w.heap.size (xs.map (partV c C)) 0 w3:=⟨hb23,hB10,⟨_,hB11,World.ownsRow_nil _ _ _ _⟩,Nat.le_refl _⟩
 have hAb:=PartI.abides (w1:=w2) (a3:=w.heap.size) (vs:=xs.map (partV c C)) hsz3
 obtain ⟨i0,hi0,hz0,hz1,hz2⟩ : ∃ i0,Tryz.prog.info? 2 = some i0 ∧ i0.zero = some (.int .i64 0) ∧ i0.size = 1 ∧ i0.bytes = 8:=⟨_,rfl,by kernel_rfl,by kernel_rfl,by kernel_rfl⟩
 have hgl : ∀ g,ad = some ⟨g,0,none⟩ → g < w2.heap.size ∨ xs = []:=fun g e => by
   rcases hrow.2 with h | ⟨g',rest,e',hh⟩
   · exact .inr h
   · left; rw [e] at e'; cases e'; exact lt_of_block hh
 have HSZ:=Lib.hid hsz3
 refine wpIn_rangeFunc_boxA rfl (by decide) (gf:=211) (lb:=#[.pointer (some ⟨w2.heap.size + 2,0,none⟩)]) rfl trivial (enters_of Tryz.func211 (by kernel_rfl) rfl)
   (values_seq _ (w2.heap.size + 2) w2.heap.size xs ad cap w3 hB12 hrow3 hgl (by omega) (by omega)) (by omega)
   (fun h k => h.trans k) (fun W l o' hl => ?kb) (fun _ => rfl)
   (PartI w2 w3.heap.size w2.heap.size w.heap.size (xs.map (partV c C))) hAb hI0
   (fun x a' W => ∃ b12,W.heap[b12]? = some (.cells #[.int .i64 x.1,.int .u64 x.2] 46 (0,0)) ∧ a' = { tmps:=#[.pointer (some ⟨p,0,none⟩),.int .u64 lo,.int .u64 hi,.pointer (some ⟨w.heap.size,0,none⟩),undef,undef,.slice none 0 0,.int .i64 0,.slice ad xs.length cap,.bool true,.pointer (some ⟨w2.heap.size,0,none⟩),.pointer (some ⟨w2.heap.size + 1,0,none⟩),.pointer (some ⟨b12,0,none⟩),.int .u64 lo,.int .u64 hi,.bool false,.tuple #[.slice ad xs.length cap,.bool true],.pointer (some ⟨p,0,none⟩),.agg #[.int .i64 c.bits,.int .i64 c.rows,.int .i64 c.width,.int .i64 c.mode,.int .u64 c.seed],.int .i64 c.bits,.int .u64 lo,.int .u64 hi,.tuple #[.slice ad xs.length cap,.bool true],.slice ad xs.length cap,.bool true,.bool true,.bool false,.func (.func 176) #[] #[.pointer (some ⟨w.heap.size,0,none⟩)],.slice ad xs.length cap,.func (.func 211) #[] #[.pointer (some ⟨w2.heap.size + 2,0,none⟩)],.agg #[.int .i64 x.1,.int .u64 x.2],undef,undef,undef,undef,undef,undef,undef],defers:=[] }) ?hAx ?assign ?body ?done
 case kb => exact ⟨rfl,rfl,rfl,by simp,fun k hk => World.putObj_heap_other (by omega)⟩
 case hAx =>
   rintro x a' _ W W' row ⟨b12,hb,rfl⟩ hg hr
   refine ⟨b12,(hg.block _ (lt_of_block hb) (fun e => ?_)).trans hb,rfl⟩
   obtain ⟨_,o,ho,hc⟩:=hr b12 e.symm
   rw [hb] at ho; cases ho; cases hc
 case assign =>
   intro l k x W K hI hK
   have hsW:=hI.size
   have HK:=Lib.hid (hK { tmps:=#[.pointer (some ⟨p,0,none⟩),.int .u64 lo,.int .u64 hi,.pointer (some ⟨w.heap.size,0,none⟩),undef,undef,.slice none 0 0,.int .i64 0,.slice ad xs.length cap,.bool true,.pointer (some ⟨w2.heap.size,0,none⟩),.pointer (some ⟨w2.heap.size + 1,0,none⟩),.pointer (some ⟨W.heap.size,0,none⟩),.int .u64 lo,.int .u64 hi,.bool false,.tuple #[.slice ad xs.length cap,.bool true],.pointer (some ⟨p,0,none⟩),.agg #[.int .i64 c.bits,.int .i64 c.rows,.int .i64 c.width,.int .i64 c.mode,.int .u64 c.seed],.int .i64 c.bits,.int .u64 lo,.int .u64 hi,.tuple #[.slice ad xs.length cap,.bool true],.slice ad xs.length cap,.bool true,.bool true,.bool false,.func (.func 176) #[] #[.pointer (some ⟨w.heap.size,0,none⟩)],.slice ad xs.length cap,.func (.func 211) #[] #[.pointer (some ⟨w2.heap.size + 2,0,none⟩)],.agg #[.int .i64 x.1,.int .u64 x.2],undef,undef,undef,undef,undef,undef,undef],defers:=[] } (W.alloc (.cells #[.int .i64 x.1,.int .u64 x.2] 46))
     ((KeepsOthers.alloc W _).from _) ((Below.refl _ W).alloc (by have:=HSZ.out; omega) _) (hAb.alloc _ hI) ⟨W.heap.size,heap_alloc_new W _,rfl⟩)
   unfold encP
   clear hK hI hI0 hAb hB10 hB11 hB12 hrow hrow3 KC KV
   gi_wp2
   exact HK.out
 case body =>
   rintro l k x a' W hx hI ⟨b12,hb,rfl⟩
   obtain ⟨v,hv,ho⟩:=hI.row
   have hI0':=hI
   have HI:=Lib.hid hI
   have HX:=Lib.hid hx
   have hxm:=hP x (List.mem_of_getElem? hx)
   have hst:=h1.below (hb02.then (show Below w2.heap.size w2 W from hI.low))
   have hA : ∃ A,L[x.1]? = some A:=⟨L[x.1]'(by rw [h1.len]; omega),List.getElem?_eq_getElem _⟩
   obtain ⟨A,hA⟩:=hA
   have hz : ∃ zs,C[x.1]? = some zs:=⟨C[x.1]'(by rw [h1.lenC]; omega),List.getElem?_eq_getElem _⟩
   obtain ⟨zs,hz⟩:=hz
   have hrv : levPoint c x.1 zs x.2 = partV c C x:=by unfold partV; rw [List.getD_eq_getElem?_getD,hz]; rfl
   have b3W : Boxed W w.heap.size 108 (.pointer (some ⟨p,0,none⟩)):=((hb02.then hI.low).block _ b3.lt).trans b3
   have KP:=Lib.hid (fun w' (hb : Below W.heap.size W w') => part_any (hst.below hb) w.heap.size ((hb.block _ b3W.lt).trans b3W) x.1 A zs hA hz x.2 hxm.2)
   rw [hrv] at KP
   have hvs : (xs.map (partV c C))[k]? = some (partV c C x):=by rw [List.getElem?_map,hx]; rfl
   have HVS:=Lib.hid hvs
   have q0:=hv.cell
   have q1:=hI.b10.cell
   have q2 : W.cell? ⟨b12,0,none⟩ = some (.int .i64 x.1):=(cell_of_row _ _ _ _ _ _ hb).trans rfl
   have q3 : W.cell? ⟨b12,1,none⟩ = some (.int .u64 x.2):=(cell_of_row _ _ _ _ _ _ hb).trans rfl
   have HO:=Lib.hid ho
   have HV:=Lib.hid hv
   have HBb:=Lib.hid hb
   have T0:=Lib.hid (show W.drew.cell? ⟨w2.heap.size,0,none⟩ = some (.func (.func 176) #[] #[.pointer (some ⟨w.heap.size,0,none⟩)]) ∧ W.drew.cell? ⟨b12,0,none⟩ = some (.int .i64 x.1) ∧ W.drew.cell? ⟨b12,1,none⟩ = some (.int .u64 x.2) from ⟨q1,q2,q3⟩)
   have qo : W.drew.cell? ⟨w2.heap.size + 1,0,none⟩ = some v:=q0
   have TB:=Lib.hid (Below.refl W.heap.size W).drew
   have hkk : k < 1000:=by have:=(List.getElem?_eq_some_iff.1 hx).1; omega
   generalize partV c C x = r at *
   clear q0 q1 q2 q3 hv ho hb hI hI0' hx hst hA hz hrv b3W hxm hvs hI0 hAb hB10 hB11 hB12 hrow hrow3 KC KV hP hsz3
   gi_wp2
   refine wpIn_region_round (by kernel_rfl) (fun _ _ h => h) (by kernel_rfl) (S:=fun w' => w'.cell? ⟨w2.heap.size,0,none⟩ = some (.func (.func 176) #[] #[.pointer (some ⟨w.heap.size,0,none⟩)]) ∧ w'.cell? ⟨b12,0,none⟩ = some (.int .i64 x.1) ∧ w'.cell? ⟨b12,1,none⟩ = some (.int .u64 x.2)) ?_
   refine wpAnyH_take (i:=1) (oi:=⟨_,_,_,_,_,_⟩) (v:=?vva1) rfl (by kernel_rfl) (by kernel_rfl) (by kernel_rfl) (fun _ _ _ h => h) (Or.inl ⟨by rfl,?yya1⟩) T0.out ?_
   case yya1 => (intro w' hw'; obtain ⟨q1,q2,q3⟩:=hw'; go_simp; try with_reducible rfl)
   try simp only [Act.put,List.setIfInBounds_toArray,List.set_cons_zero,List.set_cons_succ]
   refine wpAnyH_take (i:=2) (oi:=⟨_,_,_,_,_,_⟩) (v:=?vva2) rfl (by kernel_rfl) (by kernel_rfl) (by kernel_rfl) (fun _ _ _ h => h) (Or.inl ⟨by rfl,?yya2⟩) T0.out ?_
   case yya2 => (intro w' hw'; obtain ⟨q1,q2,q3⟩:=hw'; go_simp; try with_reducible rfl)
   try simp only [Act.put,List.setIfInBounds_toArray,List.set_cons_zero,List.set_cons_succ]
   refine wpAnyH_ready (rs:=[0,3]) (by kernel_rfl) (by simp) ?_
   refine AllReadyH.cons (o:=⟨_,_,_,_,_,_⟩) rfl (fun K hK => ?_) (AllReadyH.cons (o:=⟨_,_,_,_,_,_⟩) rfl (fun K hK => ?_) AllReadyH.nil)
   · go_simp
     refine hK.out _ _ T0.out (fun hHeld => ?_)
     clear hK K hHeld
     try simp only [Act.put,List.setIfInBounds_toArray,List.set_cons_zero,List.set_cons_succ]
     refine wpAnyH_ready (rs:=[3]) (by kernel_rfl) (by simp) ?_
     refine AllReadyH.cons (o:=⟨_,_,_,_,_,_⟩) rfl (fun K hK => ?_) AllReadyH.nil
     go_simp
     with_reducible refine (KP.out _ TB.out).mono ?_
     rintro e W1 ⟨rfl,hb1W⟩
     have HBW:=Lib.hid (undrew hb1W)
     have hv1 : Boxed W1 (w2.heap.size + 1) 125 v:=(HBW.out.block _ HV.out.lt).trans HV.out
     have hf1 : Boxed W1 w2.heap.size 310 (.func (.func 176) #[] #[.pointer (some ⟨w.heap.size,0,none⟩)]):=(HBW.out.block _ HI.out.b10.lt).trans HI.out.b10
     have hb1x:=(HBW.out.block _ (lt_of_block HBb.out)).trans HBb.out
     have T1:=Lib.hid (show W1.cell? ⟨w2.heap.size,0,none⟩ = some (.func (.func 176) #[] #[.pointer (some ⟨w.heap.size,0,none⟩)]) ∧ W1.cell? ⟨b12,0,none⟩ = some (.int .i64 x.1) ∧ W1.cell? ⟨b12,1,none⟩ = some (.int .u64 x.2) from ⟨hf1.cell,(cell_of_row _ _ _ _ _ _ hb1x).trans rfl,(cell_of_row _ _ _ _ _ _ hb1x).trans rfl⟩)
     have hbA:=(Below.heap_alloc W1 (.cells #[.int .i64 r] 2) _ (lt_of_block hb1x)).trans hb1x
     have HBA:=Lib.hid hbA
     have T2:=Lib.hid (show (W1.alloc (.cells #[.int .i64 r] 2)).cell? ⟨w2.heap.size,0,none⟩ = some (.func (.func 176) #[] #[.pointer (some ⟨w.heap.size,0,none⟩)]) ∧ (W1.alloc (.cells #[.int .i64 r] 2)).cell? ⟨b12,0,none⟩ = some (.int .i64 x.1) ∧ (W1.alloc (.cells #[.int .i64 r] 2)).cell? ⟨b12,1,none⟩ = some (.int .u64 x.2) from ⟨(hf1.alloc _).cell,(cell_of_row _ _ _ _ _ _ hbA).trans rfl,(cell_of_row _ _ _ _ _ _ hbA).trans rfl⟩)
     have qo1:=hv1.cell
     have qo2:=(hv1.alloc (.cells #[.int .i64 r] 2)).cell
     have ho1:=(ownsRow_upd HO.out (Upd.of_below (S:=fun _ => False) HBW.out) (fun _ _ _ _ h => h)).alloc (.cells #[.int .i64 r] 2)
     have hnw:=heap_alloc_new W1 (.cells #[.int .i64 r] 2)
     have hsW:=HBW.out.size
     have hsI:=HI.out.size
     clear hb1W hv1 hf1 hb1x hbA
     refine hK.out _ _ T1.out (fun hHeld => ?_)
     clear hK K hHeld
     try simp only [Act.put,List.setIfInBounds_toArray,List.set_cons_zero,List.set_cons_succ]
     refine wpAnyH_ready (rs:=[4]) (by kernel_rfl) (by simp) ?_
     refine AllReadyH.cons (o:=⟨_,_,_,_,_,_⟩) rfl (fun K hK => ?_) AllReadyH.nil
     go_simp
     refine hK.out _ _ T2.out (fun hHeld => ?_)
     clear hK K hHeld
     try simp only [Act.put,List.setIfInBounds_toArray,List.set_cons_zero,List.set_cons_succ]
     refine wpAnyH_ready (rs:=[5]) (by kernel_rfl) (by simp) ?_
     refine AllReadyH.cons (o:=⟨_,_,_,_,_,_⟩) rfl (fun K hK => ?_) AllReadyH.nil
     refine step_append_grown rfl (.tmp 31) (.tmp 35) 125 rfl w3.heap.size 2 i0 (.int .i64 0) 8 Tryz.underlying125 hi0 hz0 hz1 hz2 rfl v k _ rfl ho1 (some ⟨W1.heap.size,0,none⟩) 1 1 [.int .i64 r] rfl
       ⟨rfl,fun i y hy => by
         match i,hy with
         | 0,hy => simp at hy; subst hy; exact ⟨W1.heap.size,0,rfl,(cell_of_row _ _ _ _ _ _ hnw).trans rfl,by simp⟩⟩ (fun e => by cases e) (by simp [Value.oneCell']) (by unfold maxLen; omega) (by omega) (by simp; omega) ?_
     intro v' W3 hown' hgrow
     have hgrow : (W1.alloc (.cells #[.int .i64 r] 2)).grownBy W3 v.ownBlock:=hgrow
     obtain ⟨g',cap',rfl⟩:=ownsRow_succ hown'
     obtain ⟨hv3,hb3,hkf,hlow,hIn⟩:=PartI.next HSZ.out HI.out HBW.out HV.out HO.out hown' hgrow HVS.out
     have hx3 : W3.heap[b12]? = some (.cells #[.int .i64 x.1,.int .u64 x.2] 46 (0,0)):=(hgrow.block _ (lt_of_block HBA.out) (fun e => by
       obtain ⟨_,l',fr',hc'⟩:=ownsRow_g ho1 e.symm
       rw [HBA.out] at hc'; cases hc')).trans HBA.out
     have hx4 : (W3.setCell ⟨w2.heap.size + 1,0,none⟩ (.slice (some ⟨g',0,none⟩) (k + 1) cap')).heap[b12]? = some (.cells #[.int .i64 x.1,.int .u64 x.2] 46 (0,0)):=(heap_setCell_other _ _ _ _ (show b12 ≠ w2.heap.size + 1 from fun e => by
       have:=hv3; unfold Boxed at this; rw [← e,hx3] at this; simp at this)).trans hx3
     have hc1:=hv3.cell
     have hf1:=hv3.frozen
     have T3:=Lib.hid (show W3.cell? ⟨w2.heap.size,0,none⟩ = some (.func (.func 176) #[] #[.pointer (some ⟨w.heap.size,0,none⟩)]) ∧ W3.cell? ⟨b12,0,none⟩ = some (.int .i64 x.1) ∧ W3.cell? ⟨b12,1,none⟩ = some (.int .u64 x.2) from ⟨hb3.cell,(cell_of_row _ _ _ _ _ _ hx3).trans rfl,(cell_of_row _ _ _ _ _ _ hx3).trans rfl⟩)
     have T4:=Lib.hid (show (W3.setCell ⟨w2.heap.size + 1,0,none⟩ (.slice (some ⟨g',0,none⟩) (k + 1) cap')).cell? ⟨w2.heap.size,0,none⟩ = some (.func (.func 176) #[] #[.pointer (some ⟨w.heap.size,0,none⟩)]) ∧ (W3.setCell ⟨w2.heap.size + 1,0,none⟩ (.slice (some ⟨g',0,none⟩) (k + 1) cap')).cell? ⟨b12,0,none⟩ = some (.int .i64 x.1) ∧ (W3.setCell ⟨w2.heap.size + 1,0,none⟩ (.slice (some ⟨g',0,none⟩) (k + 1) cap')).cell? ⟨b12,1,none⟩ = some (.int .u64 x.2) from ⟨(hb3.other (by omega) _).cell,(cell_of_row _ _ _ _ _ _ hx4).trans rfl,(cell_of_row _ _ _ _ _ _ hx4).trans rfl⟩)
     clear hx3 hx4
     refine hK.out _ _ T3.out (fun hHeld => ?_)
     clear hK K hHeld
     try simp only [Act.put,List.setIfInBounds_toArray,List.set_cons_zero,List.set_cons_succ]
     refine wpAnyH_ready (rs:=[6]) (by kernel_rfl) (by simp) ?_
     refine AllReadyH.cons (o:=⟨_,_,_,_,_,_⟩) rfl (fun K hK => ?_) AllReadyH.nil
     go_simp
     refine hK.out _ _ T4.out (fun hHeld => ?_)
     clear hK K hHeld
     try simp only [Act.put,List.setIfInBounds_toArray,List.set_cons_zero,List.set_cons_succ]
     refine wpAnyH_done (by kernel_rfl) ?_ _
     exact ⟨hkf,hlow,hIn⟩
   · skip
     go_simp
     with_reducible refine (KP.out _ TB.out).mono ?_
     rintro e W1 ⟨rfl,hb1W⟩
     have HBW:=Lib.hid (undrew hb1W)
     have hv1 : Boxed W1 (w2.heap.size + 1) 125 v:=(HBW.out.block _ HV.out.lt).trans HV.out
     have hf1 : Boxed W1 w2.heap.size 310 (.func (.func 176) #[] #[.pointer (some ⟨w.heap.size,0,none⟩)]):=(HBW.out.block _ HI.out.b10.lt).trans HI.out.b10
     have hb1x:=(HBW.out.block _ (lt_of_block HBb.out)).trans HBb.out
     have T1:=Lib.hid (show W1.cell? ⟨w2.heap.size,0,none⟩ = some (.func (.func 176) #[] #[.pointer (some ⟨w.heap.size,0,none⟩)]) ∧ W1.cell? ⟨b12,0,none⟩ = some (.int .i64 x.1) ∧ W1.cell? ⟨b12,1,none⟩ = some (.int .u64 x.2) from ⟨hf1.cell,(cell_of_row _ _ _ _ _ _ hb1x).trans rfl,(cell_of_row _ _ _ _ _ _ hb1x).trans rfl⟩)
     have hbA:=(Below.heap_alloc W1 (.cells #[.int .i64 r] 2) _ (lt_of_block hb1x)).trans hb1x
     have HBA:=Lib.hid hbA
     have T2:=Lib.hid (show (W1.alloc (.cells #[.int .i64 r] 2)).cell? ⟨w2.heap.size,0,none⟩ = some (.func (.func 176) #[] #[.pointer (some ⟨w.heap.size,0,none⟩)]) ∧ (W1.alloc (.cells #[.int .i64 r] 2)).cell? ⟨b12,0,none⟩ = some (.int .i64 x.1) ∧ (W1.alloc (.cells #[.int .i64 r] 2)).cell? ⟨b12,1,none⟩ = some (.int .u64 x.2) from ⟨(hf1.alloc _).cell,(cell_of_row _ _ _ _ _ _ hbA).trans rfl,(cell_of_row _ _ _ _ _ _ hbA).trans rfl⟩)
     have qo1:=hv1.cell
     have qo2:=(hv1.alloc (.cells #[.int .i64 r] 2)).cell
     have ho1:=(ownsRow_upd HO.out (Upd.of_below (S:=fun _ => False) HBW.out) (fun _ _ _ _ h => h)).alloc (.cells #[.int .i64 r] 2)
     have hnw:=heap_alloc_new W1 (.cells #[.int .i64 r] 2)
     have hsW:=HBW.out.size
     have hsI:=HI.out.size
     clear hb1W hv1 hf1 hb1x hbA
     refine hK.out _ _ T1.out (fun hHeld => ?_)
     clear hK K hHeld
     try simp only [Act.put,List.setIfInBounds_toArray,List.set_cons_zero,List.set_cons_succ]
     refine wpAnyH_ready (rs:=[0,4]) (by kernel_rfl) (by simp) ?_
     refine AllReadyH.cons (o:=⟨_,_,_,_,_,_⟩) rfl (fun K hK => ?_) (AllReadyH.cons (o:=⟨_,_,_,_,_,_⟩) rfl (fun K hK => ?_) AllReadyH.nil)
     · go_simp
       refine hK.out _ _ T1.out (fun hHeld => ?_)
       clear hK K hHeld
       try simp only [Act.put,List.setIfInBounds_toArray,List.set_cons_zero,List.set_cons_succ]
       refine wpAnyH_ready (rs:=[4]) (by kernel_rfl) (by simp) ?_
       refine AllReadyH.cons (o:=⟨_,_,_,_,_,_⟩) rfl (fun K hK => ?_) AllReadyH.nil
       go_simp
       refine hK.out _ _ T2.out (fun hHeld => ?_)
       clear hK K hHeld
       try simp only [Act.put,List.setIfInBounds_toArray,List.set_cons_zero,List.set_cons_succ]
       refine wpAnyH_ready (rs:=[5]) (by kernel_rfl) (by simp) ?_
       refine AllReadyH.cons (o:=⟨_,_,_,_,_,_⟩) rfl (fun K hK => ?_) AllReadyH.nil
       refine step_append_grown rfl (.tmp 31) (.tmp 35) 125 rfl w3.heap.size 2 i0 (.int .i64 0) 8 Tryz.underlying125 hi0 hz0 hz1 hz2 rfl v k _ rfl ho1 (some ⟨W1.heap.size,0,none⟩) 1 1 [.int .i64 r] rfl
         ⟨rfl,fun i y hy => by
           match i,hy with
           | 0,hy => simp at hy; subst hy; exact ⟨W1.heap.size,0,rfl,(cell_of_row _ _ _ _ _ _ hnw).trans rfl,by simp⟩⟩ (fun e => by cases e) (by simp [Value.oneCell']) (by unfold maxLen; omega) (by omega) (by simp; omega) ?_
       intro v' W3 hown' hgrow
       have hgrow : (W1.alloc (.cells #[.int .i64 r] 2)).grownBy W3 v.ownBlock:=hgrow
       obtain ⟨g',cap',rfl⟩:=ownsRow_succ hown'
       obtain ⟨hv3,hb3,hkf,hlow,hIn⟩:=PartI.next HSZ.out HI.out HBW.out HV.out HO.out hown' hgrow HVS.out
       have hx3 : W3.heap[b12]? = some (.cells #[.int .i64 x.1,.int .u64 x.2] 46 (0,0)):=(hgrow.block _ (lt_of_block HBA.out) (fun e => by
         obtain ⟨_,l',fr',hc'⟩:=ownsRow_g ho1 e.symm
         rw [HBA.out] at hc'; cases hc')).trans HBA.out
       have hx4 : (W3.setCell ⟨w2.heap.size + 1,0,none⟩ (.slice (some ⟨g',0,none⟩) (k + 1) cap')).heap[b12]? = some (.cells #[.int .i64 x.1,.int .u64 x.2] 46 (0,0)):=(heap_setCell_other _ _ _ _ (show b12 ≠ w2.heap.size + 1 from fun e => by
         have:=hv3; unfold Boxed at this; rw [← e,hx3] at this; simp at this)).trans hx3
       have hc1:=hv3.cell
       have hf1:=hv3.frozen
       have T3:=Lib.hid (show W3.cell? ⟨w2.heap.size,0,none⟩ = some (.func (.func 176) #[] #[.pointer (some ⟨w.heap.size,0,none⟩)]) ∧ W3.cell? ⟨b12,0,none⟩ = some (.int .i64 x.1) ∧ W3.cell? ⟨b12,1,none⟩ = some (.int .u64 x.2) from ⟨hb3.cell,(cell_of_row _ _ _ _ _ _ hx3).trans rfl,(cell_of_row _ _ _ _ _ _ hx3).trans rfl⟩)
       have T4:=Lib.hid (show (W3.setCell ⟨w2.heap.size + 1,0,none⟩ (.slice (some ⟨g',0,none⟩) (k + 1) cap')).cell? ⟨w2.heap.size,0,none⟩ = some (.func (.func 176) #[] #[.pointer (some ⟨w.heap.size,0,none⟩)]) ∧ (W3.setCell ⟨w2.heap.size + 1,0,none⟩ (.slice (some ⟨g',0,none⟩) (k + 1) cap')).cell? ⟨b12,0,none⟩ = some (.int .i64 x.1) ∧ (W3.setCell ⟨w2.heap.size + 1,0,none⟩ (.slice (some ⟨g',0,none⟩) (k + 1) cap')).cell? ⟨b12,1,none⟩ = some (.int .u64 x.2) from ⟨(hb3.other (by omega) _).cell,(cell_of_row _ _ _ _ _ _ hx4).trans rfl,(cell_of_row _ _ _ _ _ _ hx4).trans rfl⟩)
       clear hx3 hx4
       refine hK.out _ _ T3.out (fun hHeld => ?_)
       clear hK K hHeld
       try simp only [Act.put,List.setIfInBounds_toArray,List.set_cons_zero,List.set_cons_succ]
       refine wpAnyH_ready (rs:=[6]) (by kernel_rfl) (by simp) ?_
       refine AllReadyH.cons (o:=⟨_,_,_,_,_,_⟩) rfl (fun K hK => ?_) AllReadyH.nil
       go_simp
       refine hK.out _ _ T4.out (fun hHeld => ?_)
       clear hK K hHeld
       try simp only [Act.put,List.setIfInBounds_toArray,List.set_cons_zero,List.set_cons_succ]
       refine wpAnyH_done (by kernel_rfl) ?_ _
       exact ⟨hkf,hlow,hIn⟩
     · go_simp
       refine hK.out _ _ T2.out (fun hHeld => ?_)
       clear hK K hHeld
       try simp only [Act.put,List.setIfInBounds_toArray,List.set_cons_zero,List.set_cons_succ]
       refine wpAnyH_ready (rs:=[0]) (by kernel_rfl) (by simp) ?_
       refine AllReadyH.cons (o:=⟨_,_,_,_,_,_⟩) rfl (fun K hK => ?_) AllReadyH.nil
       go_simp
       refine hK.out _ _ T2.out (fun hHeld => ?_)
       clear hK K hHeld
       try simp only [Act.put,List.setIfInBounds_toArray,List.set_cons_zero,List.set_cons_succ]
       refine wpAnyH_ready (rs:=[5]) (by kernel_rfl) (by simp) ?_
       refine AllReadyH.cons (o:=⟨_,_,_,_,_,_⟩) rfl (fun K hK => ?_) AllReadyH.nil
       refine step_append_grown rfl (.tmp 31) (.tmp 35) 125 rfl w3.heap.size 2 i0 (.int .i64 0) 8 Tryz.underlying125 hi0 hz0 hz1 hz2 rfl v k _ rfl ho1 (some ⟨W1.heap.size,0,none⟩) 1 1 [.int .i64 r] rfl
         ⟨rfl,fun i y hy => by
           match i,hy with
           | 0,hy => simp at hy; subst hy; exact ⟨W1.heap.size,0,rfl,(cell_of_row _ _ _ _ _ _ hnw).trans rfl,by simp⟩⟩ (fun e => by cases e) (by simp [Value.oneCell']) (by unfold maxLen; omega) (by omega) (by simp; omega) ?_
       intro v' W3 hown' hgrow
       have hgrow : (W1.alloc (.cells #[.int .i64 r] 2)).grownBy W3 v.ownBlock:=hgrow
       obtain ⟨g',cap',rfl⟩:=ownsRow_succ hown'
       obtain ⟨hv3,hb3,hkf,hlow,hIn⟩:=PartI.next HSZ.out HI.out HBW.out HV.out HO.out hown' hgrow HVS.out
       have hx3 : W3.heap[b12]? = some (.cells #[.int .i64 x.1,.int .u64 x.2] 46 (0,0)):=(hgrow.block _ (lt_of_block HBA.out) (fun e => by
         obtain ⟨_,l',fr',hc'⟩:=ownsRow_g ho1 e.symm
         rw [HBA.out] at hc'; cases hc')).trans HBA.out
       have hx4 : (W3.setCell ⟨w2.heap.size + 1,0,none⟩ (.slice (some ⟨g',0,none⟩) (k + 1) cap')).heap[b12]? = some (.cells #[.int .i64 x.1,.int .u64 x.2] 46 (0,0)):=(heap_setCell_other _ _ _ _ (show b12 ≠ w2.heap.size + 1 from fun e => by
         have:=hv3; unfold Boxed at this; rw [← e,hx3] at this; simp at this)).trans hx3
       have hc1:=hv3.cell
       have hf1:=hv3.frozen
       have T3:=Lib.hid (show W3.cell? ⟨w2.heap.size,0,none⟩ = some (.func (.func 176) #[] #[.pointer (some ⟨w.heap.size,0,none⟩)]) ∧ W3.cell? ⟨b12,0,none⟩ = some (.int .i64 x.1) ∧ W3.cell? ⟨b12,1,none⟩ = some (.int .u64 x.2) from ⟨hb3.cell,(cell_of_row _ _ _ _ _ _ hx3).trans rfl,(cell_of_row _ _ _ _ _ _ hx3).trans rfl⟩)
       have T4:=Lib.hid (show (W3.setCell ⟨w2.heap.size + 1,0,none⟩ (.slice (some ⟨g',0,none⟩) (k + 1) cap')).cell? ⟨w2.heap.size,0,none⟩ = some (.func (.func 176) #[] #[.pointer (some ⟨w.heap.size,0,none⟩)]) ∧ (W3.setCell ⟨w2.heap.size + 1,0,none⟩ (.slice (some ⟨g',0,none⟩) (k + 1) cap')).cell? ⟨b12,0,none⟩ = some (.int .i64 x.1) ∧ (W3.setCell ⟨w2.heap.size + 1,0,none⟩ (.slice (some ⟨g',0,none⟩) (k + 1) cap')).cell? ⟨b12,1,none⟩ = some (.int .u64 x.2) from ⟨(hb3.other (by omega) _).cell,(cell_of_row _ _ _ _ _ _ hx4).trans rfl,(cell_of_row _ _ _ _ _ _ hx4).trans rfl⟩)
       clear hx3 hx4
       refine hK.out _ _ T3.out (fun hHeld => ?_)
       clear hK K hHeld
       try simp only [Act.put,List.setIfInBounds_toArray,List.set_cons_zero,List.set_cons_succ]
       refine wpAnyH_ready (rs:=[6]) (by kernel_rfl) (by simp) ?_
       refine AllReadyH.cons (o:=⟨_,_,_,_,_,_⟩) rfl (fun K hK => ?_) AllReadyH.nil
       go_simp
       refine hK.out _ _ T4.out (fun hHeld => ?_)
       clear hK K hHeld
       try simp only [Act.put,List.setIfInBounds_toArray,List.set_cons_zero,List.set_cons_succ]
       refine wpAnyH_done (by kernel_rfl) ?_ _
       exact ⟨hkf,hlow,hIn⟩
 case done =>
   intro D W hD hI hK
   obtain ⟨v,hv,ho⟩:=hI.row
   have hc:=hv.cell
   have hlow:=hI.low
   have hD2 : w2.heap.size ≤ D:=by omega
   clear hsz3 HSZ
   gi_wp2
   refine ⟨by simp,.inl ⟨_,_,rfl,run_takeDeferred hK,?_⟩⟩
   have hlen' : xs.length = (xs.map (partV c C)).length:=by rw [List.length_map]
   rw [hlen',List.take_length] at ho
   obtain ⟨ad',cap',rfl,hrr⟩:=Row.own (ownsRow_putObj ho (.deferred none) hK rfl)
   refine ⟨.tuple #[.slice ad' (xs.map (partV c C)).length cap',.int .i64 0],by simp [results,Tryz.results137,go_sem],ad',cap',rfl,hrr,?_⟩
   have hb4 : Below w2.heap.size W (W.putObj D (.deferred none)):=⟨rfl,rfl,rfl,by simp,fun k hk => World.putObj_heap_other (by omega)⟩
   exact hb0.trans (((hb02.then (hlow.trans hb4)).mono (by omega)))
end Go.Proofs.YtejaocnhekjfiaaGreatDoor
namespace Go.Proofs.YtejaocnhekjfiaaGreatDoor
open Go.RowKit
set_option linter.unusedVariables false
open S14 (PRow pcells pblk pcells_len)
theorem prow_news {w : World} {g cap : Nat} {l : List (Nat × Nat)} {rest : List Value} {t : TypeId} (h : w.heap[g]? = some (.cells (pblk l rest) t (0,0))) : ∀ j u,(pcells l)[j]? = some u → w.cell? ((⟨g,0,none⟩ : Addr).add j) = some u:=fun j u hj => by
 have hlt:=(List.getElem?_eq_some_iff.1 hj).1
 rw [show (⟨g,0,none⟩ : Addr).add j = ⟨g,0 + j,none⟩ from Addr.add_mid _ _ _,Nat.zero_add,cell_of_row _ _ _ _ _ _ h]
 unfold pblk
 rw [List.getElem?_toArray,List.getElem?_append_left hlt,hj]
theorem cells_one (l : List (Nat × Nat)) : ∀ u ∈ pcells l,u.oneCell' = true:=fun u hu => by
 simp only [pcells,List.mem_flatMap] at hu
 obtain ⟨p,_,hp⟩:=hu
 rcases List.mem_cons.1 hp with rfl | hp
 · rfl
 · simp at hp; subst hp; rfl
@[go_sem] theorem nil256 (a : Addr) (n c : Nat) (w : World) : (binOp BinOp.eql 256 (.slice (some a) n c) (.slice none 0 0)).run Tryz.prog w = .ok (.bool false) w:=by kernel_rfl
@[go_sem] theorem slice318 (B : Nat) (n : Int) (h0 : 0 ≤ n) (h2 : n ≤ 60) (w : World) : (Instr.sliceAt 318 (.pointer (some ⟨B,0,none⟩)) none (some (.int .i64 n)) none).run Tryz.prog w = .ok (.slice (some ⟨B,0,none⟩) n.toNat 60) w:=by
 have hl : Tryz.prog.arrayLen 318 = 60:=by kernel_rfl
 have hu : Tryz.prog.underlying 318 = some (.array (Tryz.prog.arrayLen 318) (Tryz.prog.elem 318)):=by kernel_rfl
 have hs : (sizeOf (Tryz.prog.elem 318)).run Tryz.prog w = .ok 2 w:=by kernel_rfl
 rw [run_sliceAt_array_h w 318 ⟨B,0,none⟩ hu .i64 n h0 (by rw [hl]; exact h2),hs,hl]
 simp [Result.andThen,slicedAt]
 exact Addr.add_mid B 0 0
def CloneR (w : World) (l : List (Nat × Nat)) (e : Ending) (w' : World) : Prop:=∃ ad cap,e = .returned (.slice ad l.length cap) ∧ PRow w' ad l.length l ∧ Below w.heap.size w w'
set_option maxRecDepth 100000 in
set_option maxHeartbeats 1000000 in
theorem pclone {w : World} {g cap : Nat} {l : List (Nat × Nat)} {rest : List Value} {t : TypeId} (h : w.heap[g]? = some (.cells (pblk l rest) t (0,0))) (hl : 1 ≤ l.length) (hl2 : l.length ≤ 1000) :
   Calls Tryz.prog 182 #[.slice (some ⟨g,0,none⟩) l.length cap] w (CloneR w l):=by
 obtain ⟨i0,hi0,hz0,hz1,hz2⟩:=info_parts S14.info30
 have hb:=(Below.refl w.heap.size w).alloc (Nat.le_refl _) (.cells #[] 46)
 have hn:=heap_alloc_new w (.cells #[] 46)
 have hg:=(Below.heap_alloc w (.cells #[] 46) _ (lt_of_block h)).trans h
 have hlen:=pcells_len l
 have ho : (w.alloc (.cells #[] 46)).ownsRow w.heap.size 46 2 (.slice (some ⟨w.heap.size,0,none⟩) 0 0) 0 []:=
   ⟨rfl,.inr ⟨_,0,#[],rfl,Nat.le_refl _,hn,Nat.le_refl _,by unfold maxLen; omega,rfl,rfl⟩⟩
 obtain ⟨n,hln⟩ : ∃ n,l.length = n:=⟨_,rfl⟩
 have HLN:=Lib.hid hln
 have HNE:=prow_news (cap:=cap) hg
 rw [hln] at hl hl2 hlen ⊢
 have hsz : w.heap.size ≤ (w.alloc (.cells #[] 46)).heap.size:=by simp
 clear hln hn hg h
 go_enter Tryz.func182,Tryz.ntmps182
 go_wp2_with (at_builtin; refine wpList_append_own_at _ rfl (.tmp 5) (.tmp 6) 256 rfl w.heap.size 46 i0 _ 2 16 Tryz.underlying256 hi0 hz0 hz1 hz2 rfl (by decide) _ _ _ rfl ho ⟨g,0,none⟩ n cap (pcells l) rfl hlen HNE (cells_one _) (by unfold maxLen; omega) (by omega) hsz ?_)
 intro v' w' hown hgrow _ _
 obtain ⟨ad,cc,rfl,hrow,_⟩:=PRow.own hown
 have hb2 : Below w.heap.size w w':=hb.grown hgrow (by simp) (fun k e => by cases e; exact Nat.le_refl _)
 go_wp2_with fail
 go_ret
 exact ⟨ad,cc,by rw [HLN.out]; rfl,by rw [HLN.out]; exact hrow,hb2⟩
theorem take_set_at {A : Type} (W : List A) (m : Nat) (x : A) : (W.set m x).take m = W.take m:=by
 apply List.ext_getElem?
 intro i
 rw [List.getElem?_take,List.getElem?_take]
 split
 · rw [List.getElem?_set_ne (by omega)]
 · rfl
noncomputable def wayL (c : Cfg) (C : List (List Int)) : Nat → Nat → Int → List (Nat × Nat)
 | 0,i,_ => [(0,i)]
 | l + 1,i,k => (l + 1,i) :: if k ≤ partV c C (l,2 * i) then wayL c C l (2 * i) k else wayL c C l (2 * i + 1) (k - partV c C (l,2 * i))
theorem wayL_len (c : Cfg) (C : List (List Int)) : ∀ l i k,(wayL c C l i k).length = l + 1
 | 0,_,_ => rfl
 | l + 1,i,k => by rw [wayL,List.length_cons]; split <;> rw [wayL_len]
def WAt (w : World) (b : Nat) (W : List (Nat × Nat)) : Prop:=w.heap[b]? = some (.cells (pblk W []) 318 (0,0))
theorem WAt.c0 {w : World} {b : Nat} {W : List (Nat × Nat)} (h : WAt w b W) {j : Nat} {p : Nat × Nat} (hp : W[j]? = some p) : w.cell? ⟨b,j * 2,none⟩ = some (.int .i64 p.1):=(cell_of_row _ _ _ _ _ _ h).trans (S14.pblk_get hp [])
theorem WAt.c1 {w : World} {b : Nat} {W : List (Nat × Nat)} (h : WAt w b W) {j : Nat} {p : Nat × Nat} (hp : W[j]? = some p) : w.cell? ⟨b,j * 2 + 1,none⟩ = some (.int .u64 p.2):=(cell_of_row _ _ _ _ _ _ h).trans (S14.pblk_get1 hp [])
theorem WAt.fr {w : World} {b : Nat} {W : List (Nat × Nat)} (h : WAt w b W) (o : Nat) : w.frozen? ⟨b,o,none⟩ = false:=frozen_of_row _ _ _ _ _ h
theorem WAt.below {w w' : World} {b : Nat} {W : List (Nat × Nat)} (h : WAt w b W) (hb : Below w.heap.size w w') : WAt w' b W:=(hb.block _ (lt_of_block h)).trans h
theorem WAt.set {w : World} {b : Nat} {W : List (Nat × Nat)} (h : WAt w b W) {j : Nat} (hj : j < W.length) (q : Nat × Nat) : WAt ((w.setCell ⟨b,j * 2,none⟩ (.int .i64 q.1)).setCell ⟨b,j * 2 + 1,none⟩ (.int .u64 q.2)) b (W.set j q):=by
 unfold WAt
 rw [heap_setCell_same _ _ _ _ _ _ (heap_setCell_same _ _ _ _ _ _ h),S14.pblk_set hj]
def wz : Array Value:=pblk (List.replicate 60 (0,0)) []
theorem zero318 (w : World) : (zeroValue 318).run Tryz.prog w = .ok (.agg wz) w:=by kernel_rfl
theorem wz_eq : wz = pblk (List.replicate 60 (0,0)) []:=rfl
attribute [irreducible] wz
set_option maxRecDepth 100000 in
set_option maxHeartbeats 2000000 in
theorem way_ok {w : World} {p q : Nat} {c : Cfg} {L : List LA} {C : List (List Int)} (h : StackIs w p q c L C) (k0 : Int) (V : Int) (hV : V ≤ 1125899906842624) (hfit : ∀ l i,l ≤ c.bits → i < 2 ^ (c.bits - l) → -V ≤ partV c C (l,i) ∧ partV c C (l,i) ≤ V) (h1 : 1 ≤ k0) (h2 : k0 ≤ partV c C (c.bits,0)) :
   Calls Tryz.prog 139 #[.pointer (some ⟨p,0,none⟩),.int .i64 k0] w fun e w' => ∃ ad cap,e = .returned (.tuple #[.slice ad (c.bits + 1) cap,.int .i64 0]) ∧ PRow w' ad (c.bits + 1) (wayL c C c.bits 0 k0) ∧ Below w.heap.size w w':=by
 have hok:=h.ok
 have hb59:=hok.b59
 obtain ⟨A,hA⟩ : ∃ A,L[c.bits]? = some A:=⟨L[c.bits]'(by rw [h.len]; omega),List.getElem?_eq_getElem _⟩
 obtain ⟨zs,hz⟩ : ∃ zs,C[c.bits]? = some zs:=⟨C[c.bits]'(by rw [h.lenC]; omega),List.getElem?_eq_getElem _⟩
 have hx : c.exact c.bits = true:=by unfold Cfg.exact; have:=hok.w1; simp; omega
 have htot : zs.getD 0 0 = partV c C (c.bits,0):=by
   unfold partV levPoint
   rw [if_pos hx,List.getD_eq_getElem?_getD (l:=C),hz]; rfl
 have KT:=total_ok h A zs hA hz
 rw [htot] at KT
 have KC:=Lib.hid (fun w' hb => stconfig_any (h.below (w':=w') hb))
 unfold cfgV at KC
 have HH:=Lib.hid h
 have HFIT:=Lib.hid hfit
 have hf0:=hfit c.bits 0 (Nat.le_refl _) (Nat.pow_pos (by decide))
 generalize partV c C (c.bits,0) = tot at *
 have hz':=zero318
 clear hA hz hx htot h hfit
 go_enter Tryz.func139,Tryz.ntmps139
 go_wp2_with fail
 go_step3
 go_wp2_with fail
 refine KT.mono ?_
 rintro e w1 ⟨rfl,hb1⟩
 have HB1:=Lib.hid hb1
 clear hb1
 go_wp2_with fail
 refine (KC.out _ HB1.out).mono ?_
 rintro e w2 ⟨rfl,hb2⟩
 have HB2:=Lib.hid ((HB1.out.then hb2).alloc (HB1.out.then hb2).size (.cells wz 318))
 have HLE:=Lib.hid (HB1.out.then hb2).size
 have hwa : WAt (w2.alloc (.cells wz 318)) w2.heap.size (List.replicate 60 (0,0)):=by unfold WAt; rw [wz_eq]; exact heap_alloc_new w2 _
 have q0 : (w2.alloc (.cells wz 318)).cell? ⟨w2.heap.size,0,none⟩ = some (.int .i64 0):=hwa.c0 (j:=0) rfl
 have q1 : (w2.alloc (.cells wz 318)).cell? ⟨w2.heap.size,1,none⟩ = some (.int .u64 0):=hwa.c1 (j:=0) rfl
 have f0:=hwa.fr 0
 have f1:=hwa.fr 1
 have wz0 : wz[0]? = some (.int .i64 0):=by rw [wz_eq]; exact S14.pblk_get (l:=List.replicate 60 (0,0)) (k:=0) rfl []
 have wz1 : wz[1]? = some (.int .u64 0):=by rw [wz_eq]; exact S14.pblk_get1 (l:=List.replicate 60 (0,0)) (k:=0) rfl []
 have hwb : WAt (w2.alloc (.cells ((wz.setIfInBounds 0 (.int .i64 c.bits)).setIfInBounds 1 (.int .u64 0)) 318)) w2.heap.size ((List.replicate 60 (0,0)).set 0 (c.bits,0)):=by
   unfold WAt
   have e:=S14.pblk_set (l:=List.replicate 60 (0,0)) (k:=0) (by simp) (c.bits,0) []
   rw [Nat.zero_mul] at e
   rw [← e,← wz_eq]
   exact heap_alloc_new w2 _
 have HB3:=Lib.hid ((HB1.out.then hb2).alloc (HB1.out.then hb2).size (.cells ((wz.setIfInBounds 0 (.int .i64 c.bits)).setIfInBounds 1 (.int .u64 0)) 318))
 have HWB:=Lib.hid hwb
 clear hb2 hwb hwa HB2
 go_wp2_with fail
 generalize w2.alloc (.cells ((wz.setIfInBounds 0 (.int .i64 c.bits)).setIfInBounds 1 (.int .u64 0)) 318) = w3 at *
 generalize w2.heap.size = B at *
 clear q0 q1 f0 f1 hz' KT KC wz0 wz1
 have HB59:=Lib.hid hb59
 go_step3
 go_wp2_with fail
 go_loopw [1,8] (fun u1 u8 wr => ∃ (j l i : Nat) (k : Int) (Wl : List (Nat × Nat)),u1 = .int .i64 k ∧ u8 = .int .i64 j ∧ j + l = c.bits ∧ i < 2 ^ j ∧ Wl.length = 60 ∧ Wl[j]? = some (l,i) ∧ 1 ≤ k ∧ k ≤ 1125899906842624 * ((j : Int) + 1) ∧ Wl.take j ++ wayL c C l i k = wayL c C c.bits 0 k0 ∧ Hid (WAt wr B Wl ∧ Below w.heap.size w wr)) (fun _ u8 _ => c.bits + 1 - (intOf u8).toNat)
 case atStart => exact ⟨0,c.bits,0,k0,_,rfl,rfl,by omega,by decide,by simp,by simp,h1,by omega,by simp,Lib.hid ⟨HWB.out,HB3.out⟩⟩
 case round =>
   obtain ⟨j,l,i,k,Wl,rfl,rfl,hjl,hi,hwl,hwj,hk1,hk2,hway,HKK⟩:=hrel
   obtain ⟨hW,hB⟩:=HKK.out
   clear HKK HWB HB3
   have c0:=hW.c0 hwj
   have c1:=hW.c1 hwj
   have HW:=Lib.hid hW
   have HB:=Lib.hid hB
   have hj60 : (j : Int) < 60:=by omega
   have hwj1 : IntKind.i64.wrap ((j : Int) + 1) = (j : Int) + 1:=IntWalk.i64_in _ (by omega)
   cases l with
   | zero =>
     have c0 : wr.cell? ⟨B,j * 2,none⟩ = some (.int .i64 0):=c0
     have hj61 : (j : Int) + 1 ≤ 60:=by omega
     have hj62 : j + 1 ≤ 60:=by omega
     have hj0 : (0 : Int) ≤ (j : Int) + 1:=by omega
     have hjn : ((j : Int) + 1).toNat = j + 1:=by omega
     have htk : Wl.take (j + 1) = wayL c C c.bits 0 k0:=by rw [← hway,List.take_add_one,hwj]; rfl
     have hlen : (Wl.take (j + 1)).length = j + 1:=by rw [List.length_take,hwl]; omega
     have hblk : wr.heap[B]? = some (.cells (pblk (Wl.take (j + 1)) (pcells (Wl.drop (j + 1)))) 318 (0,0)):=by
       have e : pblk Wl [] = pblk (Wl.take (j + 1)) (pcells (Wl.drop (j + 1))):=by
         unfold pblk
         rw [List.append_nil,← S14.pcells_append,List.take_append_drop]
       rw [← e]; exact HW.out
     have KP:=pclone (cap:=60) hblk (by omega) (by omega)
     rw [hlen,htk] at KP
     have KP:=Lib.hid KP
     have HJ:=Lib.hid (show j = c.bits by omega)
     have HLW:=Lib.hid (wayL_len c C c.bits 0 k0)
     clear c1 hW hB htk hlen hblk hway hwj
     go_wp2_with fail
     refine (KP.out).mono ?_
     rintro e w5 ⟨ad,cap,rfl,hrow,hb5⟩
     rw [HLW.out] at hrow ⊢
     have HB5:=Lib.hid (HB.out.then hb5)
     have HR5:=Lib.hid hrow
     clear hb5 hrow
     go_wp2_with fail
     rw [Exit.noGoto_ret]
     go_ret2
     exact ⟨ad,cap,rfl,HR5.out,HB5.out⟩
   | succ l =>
     have c0 : wr.cell? ⟨B,j * 2,none⟩ = some (.int .i64 ((l : Int) + 1)):=by rw [c0]; push_cast; rfl
     have c1 : wr.cell? ⟨B,j * 2 + 1,none⟩ = some (.int .u64 i):=c1
     have hl0 : (0 : Int) < (l : Int) + 1:=by omega
     have hP : S14.isP c.bits ((l : Int) + 1) i = true:=by
       unfold S14.isP
       have e : ((c.bits : Int) - ((l : Int) + 1)).toNat = j:=by omega
       rw [e]
       have:=hok.b1
       simp only [Bool.and_eq_true,decide_eq_true_eq]
       refine ⟨⟨⟨⟨by omega,by omega⟩,by omega⟩,by omega⟩,by omega⟩
     have KH:=fun w => S14.halves_any (c.bits : Int) ((l : Int) + 1) i w (by omega)
     unfold S14.halfV at KH
     rw [hP] at KH
     rw [show (true && decide (0 < (l : Int) + 1)) = true by rw [Bool.true_and,decide_eq_true_eq]; exact hl0] at KH
     rw [if_pos rfl,show (l : Int) + 1 - 1 = l by omega] at KH
     have KH:=Lib.hid KH
     clear hW hB hP
     go_wp2_with fail
     refine (KH.out _).mono ?_
     rintro e w4 ⟨rfl,hb4⟩
     have hb5:=(hb4.alloc hb4.size (.cells #[.int .i64 l,.int .u64 (2 * (i : Int))] 46)).alloc (by have:=hb4.size; simp; omega) (.cells #[.int .i64 l,.int .u64 (2 * (i : Int) + 1)] 46)
     have hx9:=(Below.heap_alloc (w4.alloc (.cells #[.int .i64 l,.int .u64 (2 * (i : Int))] 46)) (.cells #[.int .i64 l,.int .u64 (2 * (i : Int) + 1)] 46) _ (by simp)).trans (heap_alloc_new w4 (.cells #[.int .i64 l,.int .u64 (2 * (i : Int))] 46))
     have hx10:=heap_alloc_new (w4.alloc (.cells #[.int .i64 l,.int .u64 (2 * (i : Int))] 46)) (.cells #[.int .i64 l,.int .u64 (2 * (i : Int) + 1)] 46)
     rw [World.size_alloc] at hx10
     have HLT:=Lib.hid (Nat.lt_of_lt_of_le (lt_of_block HW.out) hb4.size)
     generalize hw5 : (w4.alloc (.cells #[.int .i64 l,.int .u64 (2 * (i : Int))] 46)).alloc (.cells #[.int .i64 l,.int .u64 (2 * (i : Int) + 1)] 46) = w5 at *
     have q90 : w5.cell? ⟨w4.heap.size,0,none⟩ = some (.int .i64 l):=(cell_of_row _ _ _ _ _ _ hx9).trans rfl
     have q91 : w5.cell? ⟨w4.heap.size,1,none⟩ = some (.int .u64 (2 * (i : Int))):=(cell_of_row _ _ _ _ _ _ hx9).trans rfl
     obtain ⟨A2,hA2⟩ : ∃ A,L[l]? = some A:=⟨L[l]'(by rw [HH.out.len]; omega),List.getElem?_eq_getElem _⟩
     obtain ⟨ys,hys⟩ : ∃ ys,C[l]? = some ys:=⟨C[l]'(by rw [HH.out.lenC]; omega),List.getElem?_eq_getElem _⟩
     have hi2 : 2 * i < 2 ^ (c.bits - l):=by
       have e : c.bits - l = j + 1:=by omega
       rw [e,Nat.pow_succ]; omega
     have KP:=stpoint_ok (HH.out.below (HB.out.then hb5)) l A2 ys hA2 hys (2 * i) hi2
     have hpv : levPoint c l ys (2 * i) = partV c C (l,2 * i):=by unfold partV; rw [List.getD_eq_getElem?_getD,hys]; rfl
     rw [hpv,show ((2 * i : Nat) : Int) = 2 * (i : Int) by push_cast; rfl] at KP
     have hft:=HFIT.out l (2 * i) (by omega) hi2
     have hwl : wayL c C (l + 1) i k = (l + 1,i) :: if k ≤ partV c C (l,2 * i) then wayL c C l (2 * i) k else wayL c C l (2 * i + 1) (k - partV c C (l,2 * i)):=rfl
     rw [hwl] at hway
     generalize partV c C (l,2 * i) = n at *
     have HX9:=Lib.hid hx9
     have HX10:=Lib.hid hx10
     have HB5:=Lib.hid hb5
     have KP:=Lib.hid KP
     clear hb4 hb5 hx9 hx10 hpv hA2 hys hwl KH
     go_wp2_with fail
     clear hw5 q90 q91
     refine (KP.out).mono ?_
     rintro e w6 ⟨rfl,hb6⟩
     have hW6 : WAt w6 B Wl:=HW.out.below (HB5.out.then hb6)
     have HB6:=Lib.hid (HB.out.then (HB5.out.then hb6))
     have y9:=(hb6.block _ (lt_of_block HX9.out)).trans HX9.out
     have y10:=(hb6.block _ (lt_of_block HX10.out)).trans HX10.out
     obtain ⟨o2,ho2⟩ : ∃ o2,Wl[j + 1]? = some o2:=⟨Wl[j + 1]'(by omega),List.getElem?_eq_getElem _⟩
     have v9 : w6.cell? ⟨w4.heap.size,0,none⟩ = some (.int .i64 l):=(cell_of_row _ _ _ _ _ _ y9).trans rfl
     have v91 : w6.cell? ⟨w4.heap.size,1,none⟩ = some (.int .u64 (2 * (i : Int))):=(cell_of_row _ _ _ _ _ _ y9).trans rfl
     have b0:=hW6.c0 ho2
     have b1:=hW6.c1 ho2
     have f0:=hW6.fr ((j + 1) * 2)
     have f1:=hW6.fr ((j + 1) * 2 + 1)
     have hjx : (j : Int) + 1 < 60:=by omega
     have hjn : ((j : Int) + 1).toNat = j + 1:=by omega
     have hj0 : (0 : Int) ≤ (j : Int) + 1:=by omega
     have hjl2 : j + 1 < 60:=by omega
     have HY9:=Lib.hid y9
     have HY10:=Lib.hid y10
     have HW6:=Lib.hid hW6
     have hsetL:=hW6.set (j:=j + 1) (by omega) (l,2 * i)
     have hsetR:=hW6.set (j:=j + 1) (by omega) (l,2 * i + 1)
     have hbS:=fun (u u' : Value) => ((HB6.out.setCell (p:=⟨B,(j + 1) * 2,none⟩) HLE.out u).setCell (p:=⟨B,(j + 1) * 2 + 1,none⟩) HLE.out u')
     have HSL:=Lib.hid hsetL
     have HSR:=Lib.hid hsetR
     have HBS:=Lib.hid hbS
     clear hb6 hW6 y9 y10 c0 c1 hsetL hsetR hbS
     by_cases hkn : k ≤ n
     · rw [if_pos hkn] at hway
       go_wp2_with fail
       have hcast : ((2 * i : Nat) : Int) = 2 * (i : Int):=by push_cast; rfl
       exact ⟨⟨j + 1,l,2 * i,k,Wl.set (j + 1) (l,2 * i),rfl,by push_cast; rfl,by omega,by rw [Nat.pow_succ]; omega,by rw [List.length_set]; exact hwl,by rw [List.getElem?_set_self (by omega)],hk1,by push_cast; omega,by rw [take_set_at,List.take_add_one,hwj]; simpa using hway,Lib.hid ⟨by rw [← hcast]; exact HSL.out,HBS.out _ _⟩⟩,by simp [intOf]; omega⟩
     · rw [if_neg hkn] at hway
       have hkg : n < k:=by omega
       clear v9 v91 b0 b1 f0 f1
       go_wp2_with fail
       refine (minus_in k n _ ⟨by omega,by omega⟩ ⟨by omega,by omega⟩).mono ?_
       rintro e w7 ⟨rfl,hb7⟩
       have z10:=(hb7.block _ (lt_of_block HY10.out)).trans HY10.out
       have hW7:=HW6.out.below hb7
       have HB7:=Lib.hid (HB6.out.then hb7)
       have v9 : w7.cell? ⟨w4.heap.size + 1,0,none⟩ = some (.int .i64 l):=(cell_of_row _ _ _ _ _ _ z10).trans rfl
       have v91 : w7.cell? ⟨w4.heap.size + 1,1,none⟩ = some (.int .u64 (2 * (i : Int) + 1)):=(cell_of_row _ _ _ _ _ _ z10).trans rfl
       have b0:=hW7.c0 ho2
       have b1:=hW7.c1 ho2
       have f0:=hW7.fr ((j + 1) * 2)
       have f1:=hW7.fr ((j + 1) * 2 + 1)
       have hsetR:=hW7.set (j:=j + 1) (by omega) (l,2 * i + 1)
       have hbS:=fun (u u' : Value) => ((HB7.out.setCell (p:=⟨B,(j + 1) * 2,none⟩) HLE.out u).setCell (p:=⟨B,(j + 1) * 2 + 1,none⟩) HLE.out u')
       have HSR:=Lib.hid hsetR
       have HBS:=Lib.hid hbS
       clear hb7 hW7 z10 hsetR hbS
       go_wp2_with fail
       have hcast : ((2 * i + 1 : Nat) : Int) = 2 * (i : Int) + 1:=by push_cast; rfl
       exact ⟨⟨j + 1,l,2 * i + 1,k - n,Wl.set (j + 1) (l,2 * i + 1),rfl,by push_cast; rfl,by omega,by rw [Nat.pow_succ]; omega,by rw [List.length_set]; exact hwl,by rw [List.getElem?_set_self (by omega)],by omega,by push_cast; omega,by rw [take_set_at,List.take_add_one,hwj]; simpa using hway,Lib.hid ⟨by rw [← hcast]; exact HSR.out,HBS.out _ _⟩⟩,by simp [intOf]; omega⟩
end Go.Proofs.YtejaocnhekjfiaaGreatDoor
namespace Go.Proofs.YtejaocnhekjfiaaGreatDoor
set_option linter.unusedVariables false
noncomputable def outP (c : Cfg) (C : List (List Int)) (least : Int) (p : Nat × Nat) : List ((Nat × Nat) × Int):=if partV c C p < least then [] else [(p,partV c C p)]
noncomputable def nextP (c : Cfg) (C : List (List Int)) (least : Int) (p : Nat × Nat) : List (Nat × Nat):=if partV c C p < least ∨ p.1 = 0 then [] else [(p.1 - 1,2 * p.2),(p.1 - 1,2 * p.2 + 1)]
noncomputable def rowsH (c : Cfg) (C : List (List Int)) (least : Int) : Nat → List (Nat × Nat)
 | 0 => [(c.bits,0)]
 | t + 1 => (rowsH c C least t).flatMap (nextP c C least)
noncomputable def outsH (c : Cfg) (C : List (List Int)) (least : Int) : Nat → List ((Nat × Nat) × Int)
 | 0 => []
 | t + 1 => outsH c C least t ++ (rowsH c C least t).flatMap (outP c C least)
noncomputable def askedH (c : Cfg) (C : List (List Int)) (least : Int) : Nat → Nat
 | 0 => 0
 | t + 1 => askedH c C least t + (rowsH c C least t).length
theorem rowsH_mem (c : Cfg) (C : List (List Int)) (least : Int) : ∀ (t : Nat),t ≤ c.bits → ∀ p ∈ rowsH c C least t,p.1 + t = c.bits ∧ p.2 < 2 ^ t
 | 0,_,p,hp => by
   simp only [rowsH,List.mem_singleton] at hp
   subst hp; exact ⟨rfl,by simp⟩
 | t + 1,ht,p,hp => by
   simp only [rowsH,List.mem_flatMap] at hp
   obtain ⟨q,hq,hp⟩:=hp
   have ih:=rowsH_mem c C least t (by omega) q hq
   unfold nextP at hp
   split at hp
   · cases hp
   · rename_i hn
     have h0 : q.1 ≠ 0:=fun e => hn (.inr e)
     rw [Nat.pow_succ]
     rcases List.mem_cons.1 hp with rfl | hp
     · exact ⟨by simp only; omega,by simp only; omega⟩
     · rcases List.mem_cons.1 hp with rfl | hp
       · exact ⟨by simp only; omega,by simp only; omega⟩
       · cases hp
theorem askedH_mono (c : Cfg) (C : List (List Int)) (least : Int) {t u : Nat} (h : t ≤ u) : askedH c C least t ≤ askedH c C least u:=by
 induction h with
 | refl => exact Nat.le_refl _
 | step _ ih => exact Nat.le_trans ih (by simp [askedH])
theorem outP_len (c : Cfg) (C : List (List Int)) (least : Int) (p : Nat × Nat) : (outP c C least p).length ≤ 1:=by unfold outP; split <;> simp
theorem flat_len {A B : Type} (f : A → List B) (m : Nat) (h : ∀ a,(f a).length ≤ m) : ∀ l : List A,(l.flatMap f).length ≤ m * l.length
 | [] => by simp
 | a :: l => by
   have:=flat_len f m h l
   have:=h a
   rw [List.flatMap_cons,List.length_append,List.length_cons,Nat.mul_add]; omega
theorem outsH_len (c : Cfg) (C : List (List Int)) (least : Int) : ∀ t,(outsH c C least t).length ≤ askedH c C least t
 | 0 => Nat.le_refl _
 | t + 1 => by
   have h1:=outsH_len c C least t
   have h2:=flat_len (outP c C least) 1 (outP_len c C least) (rowsH c C least t)
   simp only [outsH,askedH,List.length_append]; omega
theorem nextP_len (c : Cfg) (C : List (List Int)) (least : Int) (p : Nat × Nat) : (nextP c C least p).length ≤ 2:=by unfold nextP; split <;> simp
def fcells (l : List ((Nat × Nat) × Int)) : List Value:=l.flatMap fun f => [.int .i64 f.1.1,.int .u64 f.1.2,.int .i64 f.2]
theorem fcells_append (l m : List ((Nat × Nat) × Int)) : fcells (l ++ m) = fcells l ++ fcells m:=by simp [fcells]
theorem info160 : (Tryz.prog.info? 160).map (fun i => (i.zero,i.size,i.bytes)) = some (some (.agg #[.int .i64 0,.int .u64 0,.int .i64 0]),3,24):=by kernel_rfl
theorem flat_take {A B : Type} (f : A → List B) {l : List A} {k : Nat} {a : A} (h : l[k]? = some a) : (l.take (k + 1)).flatMap f = (l.take k).flatMap f ++ f a:=by
 rw [List.take_add_one,h]; simp
end Go.Proofs.YtejaocnhekjfiaaGreatDoor
namespace Go.Proofs.YtejaocnhekjfiaaGreatDoor
open Go.RowKit
set_option linter.unusedVariables false
open S14 (PRow pcells pblk pcells_len)
theorem prow_kept {w w' : World} {row : Option Nat} {a : Option Addr} {n : Nat} {l : List (Nat × Nat)} (h : PRow w a n l) (hg : w.grownBy w' row) (hne : ∀ g cs,a = some ⟨g,0,none⟩ → w.heap[g]? = some (.cells cs 46 (0,0)) → some g ≠ row) : PRow w' a n l:=by
 refine ⟨h.1,h.2.imp id ?_⟩
 rintro ⟨g,rest,e,hh⟩
 exact ⟨g,rest,e,(hg.block g (lt_of_block hh) (hne g _ e hh)).trans hh⟩
theorem row_first (w : World) (n : Int) : PRow (w.alloc (.cells #[.int .i64 n,.int .u64 0] 46)) (some ⟨w.heap.size,0,none⟩) 1 [(n.toNat,0)] ∨ n < 0:=by
 by_cases h : n < 0
 · exact .inr h
 · refine .inl ⟨rfl,.inr ⟨_,[],rfl,?_⟩⟩
   have e : (n.toNat : Int) = n:=Int.toNat_of_nonneg (by omega)
   have:=heap_alloc_new w (.cells #[.int .i64 n,.int .u64 0] 46)
   rw [this]
   unfold pblk pcells
   simp [e]
theorem news_f (W : World) (f : (Nat × Nat) × Int) : ∀ j u,(fcells [f])[j]? = some u → (W.alloc (.cells #[.int .i64 f.1.1,.int .u64 f.1.2,.int .i64 f.2] 160)).cell? ((⟨W.heap.size,0,none⟩ : Addr).add j) = some u:=by
 intro j u hj
 have hn:=heap_alloc_new W (.cells #[.int .i64 f.1.1,.int .u64 f.1.2,.int .i64 f.2] 160)
 rw [Addr.add_mid,cell_of_row _ _ _ _ _ _ hn,Nat.zero_add]
 match j,hj with
 | 0,hj => simp [fcells] at hj; subst hj; rfl
 | 1,hj => simp [fcells] at hj; subst hj; rfl
 | 2,hj => simp [fcells] at hj; subst hj; rfl
theorem news_p2 (W : World) (d e f : Nat) : ∀ j u,(pcells [(d,e),(d,f)])[j]? = some u → (W.alloc (.cells #[.int .i64 d,.int .u64 e,.int .i64 d,.int .u64 f] 46)).cell? ((⟨W.heap.size,0,none⟩ : Addr).add j) = some u:=by
 intro j u hj
 have hn:=heap_alloc_new W (.cells #[.int .i64 d,.int .u64 e,.int .i64 d,.int .u64 f] 46)
 rw [Addr.add_mid,cell_of_row _ _ _ _ _ _ hn,Nat.zero_add]
 match j,hj with
 | 0,hj => simp [pcells] at hj; subst hj; rfl
 | 1,hj => simp [pcells] at hj; subst hj; rfl
 | 2,hj => simp [pcells] at hj; subst hj; rfl
 | 3,hj => simp [pcells] at hj; subst hj; rfl
theorem fcells_one (l : List ((Nat × Nat) × Int)) : ∀ u ∈ fcells l,u.oneCell' = true:=fun u hu => by
 simp only [fcells,List.mem_flatMap] at hu
 obtain ⟨p,_,hp⟩:=hu
 simp only [List.mem_cons,List.not_mem_nil,or_false] at hp
 rcases hp with rfl | rfl | rfl <;> rfl
set_option maxRecDepth 100000 in
set_option maxHeartbeats 4000000 in
theorem heavy_ok {w : World} {p q : Nat} {c : Cfg} {L : List LA} {C : List (List Int)} (h : StackIs w p q c L C) (least : Int) (budget : Nat) (h1 : 1 ≤ least) (hbud : budget ≤ 4096) (hask : askedH c C least (c.bits + 1) ≤ budget) :
   Calls Tryz.prog 92 #[.pointer (some ⟨p,0,none⟩),.int .i64 least,.int .i64 budget] w fun e w' => ∃ v,e = .returned (.tuple #[v,.int .i64 0]) ∧ w'.ownsRow w.heap.size 160 3 v (outsH c C least (c.bits + 1)).length (fcells (outsH c C least (c.bits + 1))) ∧ Below w.heap.size w w':=by
 have hb59:=h.ok.b59
 have KC:=Lib.hid (stconfig_any h)
 unfold cfgV at KC
 have HH:=Lib.hid h
 have HASK:=Lib.hid hask
 have hg1 : decide (least < 1) = false:=by simpa using h1
 have hbI : (budget : Int) ≤ 4096:=by omega
 have hw1 : IntKind.i64.wrap ((c.bits : Int) + 1) = (c.bits : Int) + 1:=IntWalk.i64_in _ (by omega)
 clear h hask
 go_enter Tryz.func92,Tryz.ntmps92
 go_wp2_with fail
 refine KC.out.mono ?_
 rintro e w1 ⟨rfl,hb1⟩
 have hr1:=(row_first w1 c.bits).resolve_right (by omega)
 rw [Int.toNat_natCast] at hr1
 have HR1:=Lib.hid hr1
 have HB1:=Lib.hid (hb1.alloc hb1.size (.cells #[.int .i64 c.bits,.int .u64 0] 46))
 clear hb1 hr1
 go_wp2_with fail
 generalize w1.alloc (.cells #[.int .i64 c.bits,.int .u64 0] 46) = w2 at *
 go_loopw [9,10,11,34] (fun u9 u10 u11 u34 wr => ∃ (t : Nat) (ad : Option Addr) (cap : Nat),t ≤ c.bits + 1 ∧ u34 = .int .i64 t ∧ u9 = .int .i64 (askedH c C least t : Nat) ∧ u11 = .slice ad (rowsH c C least t).length cap ∧
   Hid (PRow wr ad (rowsH c C least t).length (rowsH c C least t) ∧ wr.ownsRow w.heap.size 160 3 u10 (outsH c C least t).length (fcells (outsH c C least t)) ∧ Below w.heap.size w wr)) (fun _ _ _ u34 _ => c.bits + 2 - (intOf u34).toNat)
 case atStart => exact ⟨0,_,_,by omega,rfl,rfl,rfl,Lib.hid ⟨HR1.out,World.ownsRow_nil _ _ _ _,HB1.out⟩⟩
 case round =>
   obtain ⟨t,ad,cap,ht,rfl,rfl,rfl,HKK⟩:=hrel
   obtain ⟨hrow,hown,hB⟩:=HKK.out
   have HROW:=Lib.hid hrow
   have HOWN:=Lib.hid hown
   have HB:=Lib.hid hB
   clear HKK hrow hown hB HB1 HR1 KC
   by_cases hlt : t < c.bits + 1
   · have hltI : (t : Int) < (c.bits : Int) + 1:=by omega
     have ha1 : askedH c C least (t + 1) ≤ budget:=Nat.le_trans (askedH_mono c C least (show t + 1 ≤ c.bits + 1 by omega)) HASK.out
     have hae : askedH c C least (t + 1) = askedH c C least t + (rowsH c C least t).length:=rfl
     have hwa : IntKind.i64.wrap ((askedH c C least t : Nat) + (rowsH c C least t).length : Int) = ((askedH c C least t : Nat) : Int) + ((rowsH c C least t).length : Nat):=IntWalk.i64_in _ (by omega)
     have hgt : ¬ (budget : Int) < ((askedH c C least t : Nat) : Int) + ((rowsH c C least t).length : Nat):=by omega
     have hmem:=rowsH_mem c C least t (by omega)
     have hnext : rowsH c C least (t + 1) = (rowsH c C least t).flatMap (nextP c C least):=rfl
     have houts : outsH c C least (t + 1) = outsH c C least t ++ (rowsH c C least t).flatMap (outP c C least):=rfl
     have hol:=outsH_len c C least t
     have HME:=Lib.hid hmem
     have HNX:=Lib.hid hnext
     have HOU:=Lib.hid houts
     have HAE:=Lib.hid hae
     generalize rowsH c C least t = rows at *
     generalize outsH c C least t = outs at *
     generalize askedH c C least t = asked at *
     generalize hm : rows.length = m at *
     have HM:=Lib.hid hm
     clear hmem hnext houts hae hm
     go_wp2_with fail
     obtain ⟨w4,hw4⟩ : ∃ z : World,z = wr:=⟨_,rfl⟩
     subst hw4
     have HBW4:=Lib.hid HB.out.size
     go_loopw [10,12,45] (fun u10 u12 u45 wq => ∃ k : Nat,k ≤ m ∧ u45 = .int .i64 k ∧ Hid (PRow wq ad m rows ∧ wq.ownsRow w.heap.size 160 3 u10 (outs ++ (rows.take k).flatMap (outP c C least)).length (fcells (outs ++ (rows.take k).flatMap (outP c C least))) ∧ wq.ownsRow w4.heap.size 46 2 u12 ((rows.take k).flatMap (nextP c C least)).length (pcells ((rows.take k).flatMap (nextP c C least))) ∧ Below w.heap.size w wq ∧ w4.heap.size ≤ wq.heap.size)) (fun _ _ u45 _ => m - (intOf u45).toNat)
     case atStart => exact ⟨0,by omega,rfl,Lib.hid ⟨HROW.out,by simpa using HOWN.out,World.ownsRow_nil _ _ _ _,HB.out,Nat.le_refl _⟩⟩
     case round =>
       obtain ⟨k,hk,rfl,HKK⟩:=hrel
       obtain ⟨hrow,hown,hnx,hB,hsz⟩:=HKK.out
       have HR:=Lib.hid hrow
       have HO:=Lib.hid hown
       have HN:=Lib.hid hnx
       have HB:=Lib.hid hB
       have HSZ:=Lib.hid hsz
       clear HKK hrow hown hnx hB hsz
       by_cases hkl : k < m
       · have hkI : (k : Int) < m:=by omega
         obtain ⟨x,hx⟩ : ∃ x,rows[k]? = some x:=⟨rows[k]'(by rw [HM.out]; exact hkl),List.getElem?_eq_getElem _⟩
         obtain ⟨g,rfl,c0,c1⟩:=HR.out.cells hx
         have hxm:=HME.out x (List.mem_of_getElem? hx)
         obtain ⟨A,hA⟩ : ∃ A,L[x.1]? = some A:=⟨L[x.1]'(by rw [HH.out.len]; omega),List.getElem?_eq_getElem _⟩
         obtain ⟨zs,hz⟩ : ∃ zs,C[x.1]? = some zs:=⟨C[x.1]'(by rw [HH.out.lenC]; omega),List.getElem?_eq_getElem _⟩
         have hk2 : x.2 < 2 ^ (c.bits - x.1):=by rw [show c.bits - x.1 = t by omega]; exact hxm.2
         have hba:=(Below.refl wr.heap.size wr).alloc (Nat.le_refl _) (.cells #[.int .i64 x.1,.int .u64 x.2] 46)
         have KP:=stpoint_ok (HH.out.below (HB.out.then hba)) x.1 A zs hA hz x.2 hk2
         have hpv : levPoint c x.1 zs x.2 = partV c C x:=by unfold partV; rw [List.getD_eq_getElem?_getD,hz]; rfl
         rw [hpv] at KP
         have ho2:=flat_take (outP c C least) hx
         have hn2:=flat_take (nextP c C least) hx
         have hx14:=heap_alloc_new wr (.cells #[.int .i64 x.1,.int .u64 x.2] 46)
         have HO2:=Lib.hid ho2
         have HN2:=Lib.hid hn2
         have HX:=Lib.hid hx
         have HX14:=Lib.hid hx14
         have HBA:=Lib.hid hba
         have KP:=Lib.hid KP
         clear ho2 hn2 hx hA hz hpv hx14 hba
         go_wp2_with fail
         clear c0 c1
         refine KP.out.mono ?_
         rintro e w6 ⟨rfl,hb6⟩
         have hbw:=HBA.out.then hb6
         have HB6:=Lib.hid (HB.out.then hbw)
         have HSZ6:=Lib.hid (Nat.le_trans HSZ.out hbw.size)
         have HR6:=Lib.hid (HR.out.below hbw)
         have HO6:=Lib.hid (ownsRow_upd HO.out (Upd.of_below (S:=fun _ => False) hbw) (fun _ _ _ _ h => h))
         have HN6:=Lib.hid (ownsRow_upd HN.out (Upd.of_below (S:=fun _ => False) hbw) (fun _ _ _ _ h => h))
         have hx6:=(hb6.block _ (lt_of_block HX14.out)).trans HX14.out
         have v0 : w6.cell? ⟨wr.heap.size,0,none⟩ = some (.int .i64 x.1):=(cell_of_row _ _ _ _ _ _ hx6).trans rfl
         have v1 : w6.cell? ⟨wr.heap.size,1,none⟩ = some (.int .u64 x.2):=(cell_of_row _ _ _ _ _ _ hx6).trans rfl
         have HX6:=Lib.hid hx6
         clear hbw hb6 hx6 HR HO HN HB HSZ HX14 HBA KP
         obtain ⟨nv,hnv⟩ : ∃ q,partV c C x = q:=⟨_,rfl⟩
         rw [hnv]
         have HNV:=Lib.hid hnv
         by_cases hlt2 : nv < least
         · have hoa : outP c C least x = []:=by unfold outP; rw [hnv,if_pos hlt2]
           have hna : nextP c C least x = []:=by unfold nextP; rw [hnv,if_pos (.inl hlt2)]
           have HO7:=Lib.hid HO2.out
           rw [hoa,List.append_nil] at HO2
           rw [hna,List.append_nil] at HN2
           clear hnv hoa hna HO7
           go_wp2_with fail
           go_roundw
           case rel => exact ⟨k + 1,by omega,by go_num,Lib.hid ⟨HR6.out,by rw [HO2.out]; exact HO6.out,by rw [HN2.out]; exact HN6.out,HB6.out,HSZ6.out⟩⟩
           case measure => simp [intOf]; omega
         · have hoa : outP c C least x = [(x,nv)]:=by unfold outP; rw [hnv,if_neg hlt2]
           rw [hoa] at HO2
           clear hnv hoa
           obtain ⟨i1,hi1,hy0,hy1,hy2⟩:=info_parts info160
           have hlo : (outs ++ (rows.take k).flatMap (outP c C least)).length ≤ 100000:=by
             have h1:=flat_len (outP c C least) 1 (outP_len c C least) (rows.take k)
             rw [List.length_append,List.length_take,HM.out] at *
             omega
           have hwb : w.heap.size ≤ (w6.alloc (.cells #[.int .i64 x.1,.int .u64 x.2,.int .i64 nv] 160)).heap.size:=by have:=HB6.out.size; simp; omega
           go_wp2_with (at_builtin; refine wpList_append_own_at _ rfl (.tmp 58) (.tmp 62) 152 rfl w.heap.size 160 i1 _ 3 24 Tryz.underlying152 hi1 hy0 hy1 hy2 rfl (by decide) _ _ _ rfl (HO6.out.alloc _) ⟨w6.heap.size,0,none⟩ 1 1 (fcells [(x,nv)]) rfl rfl (news_f w6 (x,nv)) (fcells_one _) (by unfold maxLen; omega) (by omega) hwb ?_; intro v7 w7 hown7 hg7 _ _; have hg7 : (w6.alloc (.cells #[.int .i64 x.1,.int .u64 x.2,.int .i64 nv] 160)).grownBy w7 u10.ownBlock:=hg7; have hxa:=(Below.heap_alloc w6 (.cells #[.int .i64 x.1,.int .u64 x.2,.int .i64 nv] 160) _ (lt_of_block HX6.out)).trans HX6.out; have hx7 : w7.heap[wr.heap.size]? = some (.cells #[.int .i64 x.1,.int .u64 x.2] 46 (0,0)):=(hg7.block _ (lt_of_block hxa) (fun e => by obtain ⟨_,l',fr',hc'⟩:=ownsRow_g (HO6.out.alloc _) e.symm; rw [hxa] at hc'; cases hc')).trans hxa; have v0 : w7.cell? ⟨wr.heap.size,0,none⟩ = some (.int .i64 x.1):=(cell_of_row _ _ _ _ _ _ hx7).trans rfl; have v1 : w7.cell? ⟨wr.heap.size,1,none⟩ = some (.int .u64 x.2):=(cell_of_row _ _ _ _ _ _ hx7).trans rfl)
           have HR7:=Lib.hid (prow_kept (HR6.out.below ((Below.refl _ w6).alloc (Nat.le_refl _) (.cells #[.int .i64 x.1,.int .u64 x.2,.int .i64 nv] 160))) hg7 (fun g' cs e1 e2 e3 => by obtain ⟨_,l',fr',hc'⟩:=ownsRow_g (HO6.out.alloc _) e3.symm; rw [e2] at hc'; cases hc'))
           have HN7:=Lib.hid ((HN6.out.alloc (.cells #[.int .i64 x.1,.int .u64 x.2,.int .i64 nv] 160)).kept hg7 (by
             cases hown : u12.ownBlock with
             | none => exact .inl rfl
             | some r =>
               refine .inr fun e => ?_
               obtain ⟨_,l1,f1,q1⟩:=ownsRow_g (HN6.out.alloc (.cells #[.int .i64 x.1,.int .u64 x.2,.int .i64 nv] 160)) hown
               obtain ⟨_,l2,f2,q2⟩:=ownsRow_g (HO6.out.alloc (.cells #[.int .i64 x.1,.int .u64 x.2,.int .i64 nv] 160)) e.symm
               rw [q1] at q2; cases q2))
           have HB7:=Lib.hid ((HB6.out.alloc HB6.out.size (.cells #[.int .i64 x.1,.int .u64 x.2,.int .i64 nv] 160)).grown hg7 hwb (fun r e => (ownsRow_g HO6.out e).1))
           have HSZ7:=Lib.hid (Nat.le_trans HSZ6.out (Nat.le_trans (by simp) hg7.size))
           have HO7:=Lib.hid hown7
           have HX7:=Lib.hid hx7
           clear hown7 hg7 hxa hx7 hwb HR6 HN6 HB6 HSZ6 HO6 HX6
           have hP : S14.isP c.bits (x.1 : Int) (x.2 : Int) = true:=by
             unfold S14.isP
             have e : ((c.bits : Int) - (x.1 : Int)).toNat = c.bits - x.1:=by omega
             rw [e]
             have:=HH.out.ok.b1
             simp only [Bool.and_eq_true,decide_eq_true_eq]
             exact ⟨⟨⟨⟨by omega,by omega⟩,by omega⟩,by omega⟩,by omega⟩
           have KH:=S14.halves_any (c.bits : Int) (x.1 : Int) (x.2 : Int) w7 (by omega)
           unfold S14.halfV at KH
           rw [hP,Bool.true_and] at KH
           by_cases hz0 : x.1 = 0
           · rw [if_neg (by rw [decide_eq_true_eq]; omega)] at KH
             have hna : nextP c C least x = []:=by unfold nextP; rw [if_pos (.inr hz0)]
             rw [hna,List.append_nil] at HN2
             have KH:=Lib.hid KH
             clear hP hna
             refine KH.out.mono ?_
             rintro e w8 ⟨rfl,hb8⟩
             have hb9:=(hb8.alloc hb8.size (.cells #[.int .i64 0,.int .u64 0] 46)).alloc (by have:=hb8.size; simp; omega) (.cells #[.int .i64 0,.int .u64 0] 46)
             have HB9:=Lib.hid hb9
             clear hb8 hb9 v0 v1 KH
             go_wp2_with fail
             generalize (w8.alloc (.cells #[.int .i64 0,.int .u64 0] 46)).alloc (.cells #[.int .i64 0,.int .u64 0] 46) = w9 at *
             go_roundw
             case rel => exact ⟨k + 1,by omega,by go_num,Lib.hid ⟨HR7.out.below HB9.out,by rw [HO2.out,← List.append_assoc,fcells_append,List.length_append]; exact ownsRow_upd HO7.out (Upd.of_below (S:=fun _ => False) HB9.out) (fun _ _ _ _ h => h),by rw [HN2.out]; exact ownsRow_upd HN7.out (Upd.of_below (S:=fun _ => False) HB9.out) (fun _ _ _ _ h => h),HB7.out.then HB9.out,Nat.le_trans HSZ7.out HB9.out.size⟩⟩
             case measure => simp [intOf]; omega
           · rw [if_pos (by rw [decide_eq_true_eq]; omega)] at KH
             have hna : nextP c C least x = [(x.1 - 1,2 * x.2),(x.1 - 1,2 * x.2 + 1)]:=by
               unfold nextP; rw [if_neg]; rintro (h | h)
               · rw [HNV.out] at h; omega
               · exact hz0 h
             rw [hna] at HN2
             have hnl : ((rows.take k).flatMap (nextP c C least)).length ≤ 100000:=by
               have h1:=flat_len (nextP c C least) 2 (nextP_len c C least) (rows.take k)
               rw [List.length_take,HM.out] at h1
               omega
             rw [show (x.1 : Int) - 1 = ((x.1 - 1 : Nat) : Int) by omega,show 2 * (x.2 : Int) = ((2 * x.2 : Nat) : Int) by push_cast; rfl,show ((2 * x.2 : Nat) : Int) + 1 = ((2 * x.2 + 1 : Nat) : Int) by push_cast; rfl] at KH
             generalize x.1 - 1 = d at *
             generalize 2 * x.2 + 1 = y2 at *
             generalize 2 * x.2 = y1 at *
             have KH:=Lib.hid KH
             clear hP hna
             refine KH.out.mono ?_
             rintro e w8 ⟨rfl,hb8⟩
             have hb9:=(hb8.alloc hb8.size (.cells #[.int .i64 d,.int .u64 y1] 46)).alloc (by have:=hb8.size; simp; omega) (.cells #[.int .i64 d,.int .u64 y2] 46)
             have ha9:=(Below.heap_alloc (w8.alloc (.cells #[.int .i64 d,.int .u64 y1] 46)) (.cells #[.int .i64 d,.int .u64 y2] 46) _ (by simp)).trans (heap_alloc_new w8 (.cells #[.int .i64 d,.int .u64 y1] 46))
             have hc9:=heap_alloc_new (w8.alloc (.cells #[.int .i64 d,.int .u64 y1] 46)) (.cells #[.int .i64 d,.int .u64 y2] 46)
             rw [World.size_alloc] at hc9
             generalize hw9 : (w8.alloc (.cells #[.int .i64 d,.int .u64 y1] 46)).alloc (.cells #[.int .i64 d,.int .u64 y2] 46) = w9 at *
             have r0 : w9.cell? ⟨w8.heap.size,0,none⟩ = some (.int .i64 d):=(cell_of_row _ _ _ _ _ _ ha9).trans rfl
             have r1 : w9.cell? ⟨w8.heap.size,1,none⟩ = some (.int .u64 y1):=(cell_of_row _ _ _ _ _ _ ha9).trans rfl
             have s0 : w9.cell? ⟨w8.heap.size + 1,0,none⟩ = some (.int .i64 d):=(cell_of_row _ _ _ _ _ _ hc9).trans rfl
             have s1 : w9.cell? ⟨w8.heap.size + 1,1,none⟩ = some (.int .u64 y2):=(cell_of_row _ _ _ _ _ _ hc9).trans rfl
             have HN9:=Lib.hid (ownsRow_upd HN7.out (Upd.of_below (S:=fun _ => False) hb9) (fun _ _ _ _ h => h))
             have HB9:=Lib.hid hb9
             have hs9 : w4.heap.size ≤ (w9.alloc (.cells #[.int .i64 d,.int .u64 y1,.int .i64 d,.int .u64 y2] 46)).heap.size:=by have:=HSZ7.out; have:=hb9.size; simp; omega
             obtain ⟨i2,hj2,hk0,hk1,hk2'⟩:=info_parts S14.info30
             clear hb8 hb9 ha9 hc9 v0 v1 KH
             go_wp2_with (at_builtin; refine wpList_append_own_at _ rfl (.tmp 72) (.tmp 75) 256 rfl w4.heap.size 46 i2 _ 2 16 Tryz.underlying256 hj2 hk0 hk1 hk2' rfl (by decide) _ _ _ rfl (HN9.out.alloc _) ⟨w9.heap.size,0,none⟩ 2 2 (pcells [(d,y1),(d,y2)]) rfl rfl (news_p2 w9 d y1 y2) (cells_one _) (by unfold maxLen; omega) (by omega) hs9 ?_; intro v10 w10 hown10 hg10 _ _; have hg10 : (w9.alloc (.cells #[.int .i64 d,.int .u64 y1,.int .i64 d,.int .u64 y2] 46)).grownBy w10 u12.ownBlock:=hg10)
             have hgl : g < w4.heap.size:=by
               rcases HROW.out.2 with e | ⟨g',rest,e,hh⟩
               · rw [e] at HX; exact absurd HX.out (by simp)
               · cases e; exact lt_of_block hh
             have oa:=HN9.out.alloc (.cells #[.int .i64 d,.int .u64 y1,.int .i64 d,.int .u64 y2] 46)
             have ob:=(ownsRow_upd HO7.out (Upd.of_below (S:=fun _ => False) HB9.out) (fun _ _ _ _ h => h)).alloc (.cells #[.int .i64 d,.int .u64 y1,.int .i64 d,.int .u64 y2] 46)
             have R10:=prow_kept ((HR7.out.below HB9.out).below ((Below.refl _ w9).alloc (Nat.le_refl _) (.cells #[.int .i64 d,.int .u64 y1,.int .i64 d,.int .u64 y2] 46))) hg10 (fun g' cs e1 e2 e3 => by
               have:=(ownsRow_g oa e3.symm).1
               cases e1; omega)
             have O10:=ob.kept hg10 (by
               cases hown : v7.ownBlock with
               | none => exact .inl rfl
               | some r =>
                 refine .inr fun e => ?_
                 obtain ⟨_,l1,f1,q1⟩:=ownsRow_g ob hown
                 obtain ⟨_,l2,f2,q2⟩:=ownsRow_g oa e.symm
                 rw [q1] at q2; cases q2)
             have hbw4:=HBW4.out
             have B10:=(((HB7.out.then HB9.out).alloc (HB7.out.then HB9.out).size (.cells #[.int .i64 d,.int .u64 y1,.int .i64 d,.int .u64 y2] 46))).grown hg10 (by omega) (fun r e => by have:=(ownsRow_g oa e).1; omega)
             have S10 : w4.heap.size ≤ w10.heap.size:=Nat.le_trans hs9 hg10.size
             go_roundw
             case rel => exact ⟨k + 1,by omega,by go_num,Lib.hid ⟨R10,by rw [HO2.out,← List.append_assoc,fcells_append,List.length_append]; exact O10,by rw [HN2.out,S14.pcells_append,List.length_append]; exact hown10,B10,S10⟩⟩
             case measure => simp [intOf]; omega
       · obtain rfl : k = m:=by omega
         have hkI : ¬ ((k : Int) < k):=by omega
         have htl : rows.take k = rows:=List.take_of_length_le (by rw [HM.out]; exact Nat.le_refl _)
         rw [htl] at HO HN
         obtain ⟨ad',cap',rfl,hrow',_⟩:=PRow.own HN.out
         have HR':=Lib.hid hrow'
         clear hrow' htl
         go_wp2_with fail
         go_roundw
         case rel => exact ⟨t + 1,ad',cap',by omega,by go_num,by rw [HAE.out]; push_cast; rfl,by rw [HNX.out],Lib.hid ⟨by rw [HNX.out]; exact HR'.out,by rw [HOU.out]; exact HO.out,HB.out⟩⟩
         case measure => simp [intOf]; omega
   · obtain rfl : t = c.bits + 1:=by omega
     have hltI : ¬ (((c.bits + 1 : Nat) : Int) < (c.bits : Int) + 1):=by omega
     go_wp2_with fail
     go_ret2
     exact ⟨_,rfl,HOWN.out,HB.out⟩
end Go.Proofs.YtejaocnhekjfiaaGreatDoor
namespace Go.Proofs.YtejaocnhekjfiaaGreatDoor
open Go.RowKit
set_option linter.unusedVariables false
def FoundV (w : World) (fs : List ((Nat × Nat) × Int)) (e : Ending) (w' : World) : Prop:=∃ v,e = .returned (.tuple #[.iface 154 (.agg #[v]),.int .i64 0]) ∧ w'.ownsRow w.heap.size 160 3 v fs.length (fcells fs)
set_option maxRecDepth 100000 in
set_option maxHeartbeats 1000000 in
theorem query_heavy {w : World} {base a m : Nat} {c : Cfg} {S : List SI} (h : AggIs w base a m c S) {i : Nat} {s : SI} (hs : S[i]? = some s) (al : Option Addr) (cl : Nat) (least : Int) (budget : Nat) (fs : List ((Nat × Nat) × Int)) (hr : Row w al 2 [.int .i64 least,.int .i64 budget]) (KR : ∀ w',Below w.heap.size w w' → Calls Tryz.prog 92 #[.pointer (some ⟨s.p,0,none⟩),.int .i64 least,.int .i64 budget] w' fun e w2 => ∃ v,e = .returned (.tuple #[v,.int .i64 0]) ∧ w2.ownsRow w'.heap.size 160 3 v fs.length (fcells fs) ∧ Below w'.heap.size w' w2) :
   Calls Tryz.prog 54 #[.pointer (some ⟨a,0,none⟩),.agg #[.string ⟨#[104,101,97,118,121]⟩,.int .i64 ((i : Int) + 1),.slice al 2 cl]] w fun e w' => FoundV w fs e w' ∧ AggIs w' base a m c S ∧ Below w.heap.size w w':=by
 have hb1:=(Below.refl w.heap.size w).alloc (Nat.le_refl _) (.cells #[.string ⟨#[104,101,97,118,121]⟩,.int .i64 ((i : Int) + 1),.slice al 2 cl] 127)
 have hbx:=heap_alloc_new w (.cells #[.string ⟨#[104,101,97,118,121]⟩,.int .i64 ((i : Int) + 1),.slice al 2 cl] 127)
 have hA:=h.keep hb1
 generalize hW : w.alloc (.cells #[.string ⟨#[104,101,97,118,121]⟩,.int .i64 ((i : Int) + 1),.slice al 2 cl] 127) = W1 at hb1 hbx hA
 have HW:=Lib.hid hW
 have hc0:=hA.c0
 have d0 : W1.cell? ⟨w.heap.size,0,none⟩ = some (.string ⟨#[104,101,97,118,121]⟩):=(cell_of_row _ _ _ _ _ _ hbx).trans rfl
 have d1 : W1.cell? ⟨w.heap.size,1,none⟩ = some (.int .i64 ((i : Int) + 1)):=(cell_of_row _ _ _ _ _ _ hbx).trans rfl
 have hsp : (S.map SI.p)[i]? = some s.p:=by rw [List.getElem?_map,hs]; rfl
 have hlook:=fun (w' : World) (hw : w'.heap[m]? = some (.map (ents (S.map SI.p)) S.length)) => look_yes hw hsp
 have hkt:=fun w => tstack_any s.p w
 unfold thingV at hlook hkt
 have KT:=Lib.hid hkt
 have hmm:=hA.map
 have hm1 : ((W1.alloc (.cells #[.pointer none,.pointer none] 114)).drew).heap[m]? = some (.map (ents (S.map SI.p)) S.length):=(Below.heap_alloc _ _ _ (lt_of_block hmm)).trans hmm
 have l1:=hlook W1.drew hmm
 have l2:=hlook (W1.alloc (.cells #[.pointer none,.pointer none] 114)).drew hm1
 have hb2:=((Below.refl W1.heap.size W1).alloc (Nat.le_refl _) (.cells #[.pointer (some ⟨s.p,0,none⟩),.pointer none] 114)).drew
 have hbm : ((W1.alloc (.cells #[.pointer (some ⟨s.p,0,none⟩),.pointer none] 114)).drew).heap[W1.heap.size]? = some (.cells #[.pointer (some ⟨s.p,0,none⟩),.pointer none] 114 (0,0)):=heap_alloc_new W1 (.cells #[.pointer (some ⟨s.p,0,none⟩),.pointer none] 114)
 have hc0':=fun o => cell_make hc0 o
 have d1':=fun o => cell_make d1 o
 have KP:=Lib.hid (fun (w' : World) (hbw : Below W1.heap.size W1 w') => KR w' (hb1.then hbw))
 obtain ⟨b0,o0,ha0,hr0,hl0⟩:=hr.2 0 (.int .i64 least) rfl
 obtain ⟨b1,o1,ha1,hr1,hl1⟩:=hr.2 1 (.int .i64 budget) rfl
 rw [ha0] at ha1
 simp only [Option.some.injEq,Addr.mk.injEq,and_true] at ha1
 obtain ⟨rfl,rfl⟩:=ha1
 subst ha0
 have R0:=Lib.hid ((hb1.cell (p:=⟨b0,o0 + 0,none⟩) hl0).trans hr0)
 have R1:=Lib.hid ((hb1.cell (p:=⟨b0,o0 + 1,none⟩) hl1).trans hr1)
 have RL:=Lib.hid (Nat.lt_of_lt_of_le hl0 hb1.size)
 clear hr hr0 hr1 hl0 hl1 KR
 have HA:=Lib.hid hA
 have HS:=Lib.hid hs
 have HB1:=Lib.hid hb1
 have HX:=Lib.hid hbx
 have HB2:=Lib.hid hb2
 have HBM:=Lib.hid hbm
 clear hkt hlook hmm hm1 h hs hb1 hbx hA hsp hb2 hbm d0
 go_enter Tryz.func54,Tryz.ntmps54
 go_wp2_with fail
 clear hW
 go_cut [6,7] (fun s6 s7 wx => s6 = .pointer (some ⟨W1.heap.size,0,none⟩) ∧ s7 = .bool true ∧ wx = (W1.alloc (.cells #[.pointer (some ⟨s.p,0,none⟩),.pointer none] 114)).drew)
 case first =>
   go_region
   all_goals go_wp2_with fail
   all_goals go_meet
   all_goals exact ⟨rfl,rfl,rfl⟩
 case rest =>
   obtain ⟨rfl,rfl,hwc⟩:=hcut
   clear l1 l2 hc0 hc0' d1 d1'
   have d0:=((HB2.out).cell (p:=⟨w.heap.size,0,none⟩) (lt_of_block HX.out)).trans ((cell_of_row _ _ _ _ _ _ HX.out).trans rfl)
   have d2:=((HB2.out).cell (p:=⟨w.heap.size,2,none⟩) (lt_of_block HX.out)).trans ((cell_of_row _ _ _ _ _ _ HX.out).trans rfl)
   have e0 : ((W1.alloc (.cells #[.pointer (some ⟨s.p,0,none⟩),.pointer none] 114)).drew).cell? ⟨W1.heap.size,0,none⟩ = some (.pointer (some ⟨s.p,0,none⟩)):=(cell_of_row _ _ _ _ _ _ HBM.out).trans rfl
   have e1 : ((W1.alloc (.cells #[.pointer (some ⟨s.p,0,none⟩),.pointer none] 114)).drew).cell? ⟨W1.heap.size,1,none⟩ = some (.pointer none):=(cell_of_row _ _ _ _ _ _ HBM.out).trans rfl
   rw [← hwc] at d0 d2 e0 e1 HBM HB2
   clear hwc
   obtain ⟨X,hX⟩ : ∃ x : World,x = wc:=⟨_,rfl⟩
   subst hX
   go_wp2_with fail
   ((with_reducible refine (KT.out X).mono ?_); rintro e w2 ⟨rfl,rfl⟩)
   have hb3:=HB2.out.alloc HB2.out.size (.cells #[.pointer (some ⟨s.p,0,none⟩),.pointer none] 114)
   have c0:=cell_make d0 (.cells #[.pointer (some ⟨s.p,0,none⟩),.pointer none] 114)
   have c2:=cell_make d2 (.cells #[.pointer (some ⟨s.p,0,none⟩),.pointer none] 114)
   clear d0 d2 e0 e1
   generalize hY : X.alloc (.cells #[.pointer (some ⟨s.p,0,none⟩),.pointer none] 114) = Y at *
   have HB3:=Lib.hid hb3
   clear hY hb3
   go_upto_region 22 with fail
   have hc2:=c2
   have f2 : ∀ w',Below Y.heap.size Y w' → w'.cell? ⟨w.heap.size,2,none⟩ = some (.slice (some ⟨b0,o0,none⟩) 2 cl):=fun w' hb => (hb.cell (p:=⟨w.heap.size,2,none⟩) (block_lt_of_cell c2)).trans c2
   have g0 : ∀ w',Below Y.heap.size Y w' → w'.cell? ⟨b0,o0,none⟩ = some (.int .i64 least):=fun w' hb => ((HB3.out.then hb).cell (p:=⟨b0,o0,none⟩) RL.out).trans R0.out
   have g1 : ∀ w',Below Y.heap.size Y w' → w'.cell? ⟨b0,o0 + 1,none⟩ = some (.int .i64 budget):=fun w' hb => ((HB3.out.then hb).cell (p:=⟨b0,o0 + 1,none⟩) RL.out).trans R1.out
   have F2:=Lib.hid f2; have G0:=Lib.hid g0; have G1:=Lib.hid g1
   clear f2 g0 g1 hc2 c2
   have T:=Lib.hid (Below.refl Y.heap.size Y).drew
   refine wp_region_phase (by kernel_rfl) ?_
   refine wpAnyH_take (i:=0) (oi:=⟨_,_,_,_,_,_⟩) (v:=?vv0) rfl (by kernel_rfl) (by kernel_rfl) (by kernel_rfl) (fun _ _ _ h => h) (Or.inl ⟨by rfl,?yy0⟩) T.out ?_
   case yy0 => (intro w' hw'; go_simp; try with_reducible rfl)
   try simp only [Act.put,List.setIfInBounds_toArray,List.set_cons_zero,List.set_cons_succ]
   refine wpAnyH_take (i:=1) (oi:=⟨_,_,_,_,_,_⟩) (v:=?vv1) rfl (by kernel_rfl) (by kernel_rfl) (by kernel_rfl) (fun _ _ _ h => h) (Or.inl ⟨by rfl,?yy1⟩) T.out ?_
   case yy1 => (intro w' hw'; go_simp; try with_reducible rfl)
   try simp only [Act.put,List.setIfInBounds_toArray,List.set_cons_zero,List.set_cons_succ]
   refine wpAnyH_take (i:=2) (oi:=⟨_,_,_,_,_,_⟩) (v:=?vv2) rfl (by kernel_rfl) (by kernel_rfl) (by kernel_rfl) (fun _ _ _ h => h) (Or.inl ⟨by rfl,?yy2⟩) T.out ?_
   case yy2 => (intro w' hw'; have c2:=F2.out w' hw'; have g0:=G0.out w' hw'; have g1:=G1.out w' hw'; go_simp; try with_reducible rfl)
   try simp only [Act.put,List.setIfInBounds_toArray,List.set_cons_zero,List.set_cons_succ]
   refine wpAnyH_take (i:=3) (oi:=⟨_,_,_,_,_,_⟩) (v:=?vv3) rfl (by kernel_rfl) (by kernel_rfl) (by kernel_rfl) (fun _ _ _ h => h) (Or.inl ⟨by rfl,?yy3⟩) T.out ?_
   case yy3 => (intro w' hw'; go_simp; try with_reducible rfl)
   try simp only [Act.put,List.setIfInBounds_toArray,List.set_cons_zero,List.set_cons_succ]
   refine wpAnyH_take (i:=4) (oi:=⟨_,_,_,_,_,_⟩) (v:=?vv4) rfl (by kernel_rfl) (by kernel_rfl) (by kernel_rfl) (fun _ _ _ h => h) (Or.inl ⟨by rfl,?yy4⟩) T.out ?_
   case yy4 => (intro w' hw'; have c2:=F2.out w' hw'; have g0:=G0.out w' hw'; have g1:=G1.out w' hw'; go_simp; try with_reducible rfl)
   try simp only [Act.put,List.setIfInBounds_toArray,List.set_cons_zero,List.set_cons_succ]
   refine wpAnyH_take (i:=5) (oi:=⟨_,_,_,_,_,_⟩) (v:=?vv5) rfl (by kernel_rfl) (by kernel_rfl) (by kernel_rfl) (fun _ _ _ h => h) (Or.inl ⟨by rfl,?yy5⟩) T.out ?_
   case yy5 => (intro w' hw'; go_simp; try with_reducible rfl)
   try simp only [Act.put,List.setIfInBounds_toArray,List.set_cons_zero,List.set_cons_succ]
   refine wpAnyH_take (i:=6) (oi:=⟨_,_,_,_,_,_⟩) (v:=?vv6) rfl (by kernel_rfl) (by kernel_rfl) (by kernel_rfl) (fun _ _ _ h => h) (Or.inl ⟨by rfl,?yy6⟩) T.out ?_
   case yy6 => (intro w' hw'; have c2:=F2.out w' hw'; have g0:=G0.out w' hw'; have g1:=G1.out w' hw'; go_simp; try with_reducible rfl)
   try simp only [Act.put,List.setIfInBounds_toArray,List.set_cons_zero,List.set_cons_succ]
   refine wpAnyH_take (i:=7) (oi:=⟨_,_,_,_,_,_⟩) (v:=?vv7) rfl (by kernel_rfl) (by kernel_rfl) (by kernel_rfl) (fun _ _ _ h => h) (Or.inl ⟨by rfl,?yy7⟩) T.out ?_
   case yy7 => (intro w' hw'; go_simp; try with_reducible rfl)
   try simp only [Act.put,List.setIfInBounds_toArray,List.set_cons_zero,List.set_cons_succ]
   refine wpAnyH_take (i:=8) (oi:=⟨_,_,_,_,_,_⟩) (v:=?vv8) rfl (by kernel_rfl) (by kernel_rfl) (by kernel_rfl) (fun _ _ _ h => h) (Or.inl ⟨by rfl,?yy8⟩) T.out ?_
   case yy8 => (intro w' hw'; have c2:=F2.out w' hw'; have g0:=G0.out w' hw'; have g1:=G1.out w' hw'; go_simp; try with_reducible rfl)
   try simp only [Act.put,List.setIfInBounds_toArray,List.set_cons_zero,List.set_cons_succ]
   refine wpAnyH_ready (rs:=[9]) (by kernel_rfl) (by simp) ?_
   refine AllReadyH.cons (o:=⟨_,_,_,_,_,_⟩) rfl (fun K hK => ?_) AllReadyH.nil
   go_simp
   with_reducible refine (KP.out _ (HB3.out.then T.out)).mono ?_
   rintro e w3 ⟨v,rfl,hown,hb⟩
   have HO:=Lib.hid hown
   have HLY:=Lib.hid T.out.size
   obtain ⟨ao,co,hao⟩ : ∃ ao co,v = .slice ao fs.length co:=(by rcases hown.2 with ⟨rfl,e0⟩ | ⟨gg,cc,_,rfl,_⟩; exact ⟨none,0,by rw [e0]⟩; exact ⟨_,_,rfl⟩)
   subst hao
   have T:=Lib.hid (T.out.then hb)
   clear hb hown
   refine hK.out _ _ T.out (fun hHeld => ?_)
   clear hK K hHeld
   try simp only [Act.put,List.setIfInBounds_toArray,List.set_cons_zero,List.set_cons_succ]
   refine wpAnyH_take (i:=10) (oi:=⟨_,_,_,_,_,_⟩) (v:=?vv10) rfl (by kernel_rfl) (by kernel_rfl) (by kernel_rfl) (fun _ _ _ h => h) (Or.inl ⟨by rfl,?yy10⟩) T.out ?_
   case yy10 => (intro w' hw'; go_simp; try with_reducible rfl)
   try simp only [Act.put,List.setIfInBounds_toArray,List.set_cons_zero,List.set_cons_succ]
   refine wpAnyH_take (i:=11) (oi:=⟨_,_,_,_,_,_⟩) (v:=?vv11) rfl (by kernel_rfl) (by kernel_rfl) (by kernel_rfl) (fun _ _ _ h => h) (Or.inl ⟨by rfl,?yy11⟩) T.out ?_
   case yy11 => (intro w' hw'; go_simp; try with_reducible rfl)
   try simp only [Act.put,List.setIfInBounds_toArray,List.set_cons_zero,List.set_cons_succ]
   refine wpAnyH_take (i:=12) (oi:=⟨_,_,_,_,_,_⟩) (v:=?vv12) rfl (by kernel_rfl) (by kernel_rfl) (by kernel_rfl) (fun _ _ _ h => h) (Or.inl ⟨by rfl,?yy12⟩) T.out ?_
   case yy12 => (intro w' hw'; go_simp; try with_reducible rfl)
   try simp only [Act.put,List.setIfInBounds_toArray,List.set_cons_zero,List.set_cons_succ]
   refine wpAnyH_take (i:=13) (oi:=⟨_,_,_,_,_,_⟩) (v:=?vv13) rfl (by kernel_rfl) (by kernel_rfl) (by kernel_rfl) (fun _ _ _ h => h) (Or.inl ⟨by rfl,?yy13⟩) T.out ?_
   case yy13 => (intro w' hw'; go_simp; try with_reducible rfl)
   try simp only [Act.put,List.setIfInBounds_toArray,List.set_cons_zero,List.set_cons_succ]
   refine wpAnyH_take (i:=14) (oi:=⟨_,_,_,_,_,_⟩) (v:=?vv14) rfl (by kernel_rfl) (by kernel_rfl) (by kernel_rfl) (fun _ _ _ h => h) (Or.inl ⟨by rfl,?yy14⟩) T.out ?_
   case yy14 => (intro w' hw'; go_simp; try with_reducible rfl)
   try simp only [Act.put,List.setIfInBounds_toArray,List.set_cons_zero,List.set_cons_succ]
   refine wpAnyH_done (by kernel_rfl) ?_ _
   go_wp2_with fail
   go_ret2
   exact ⟨⟨_,rfl,ownsRow_base HO.out (Nat.le_trans HB1.out.size (Nat.le_trans HB3.out.size HLY.out))⟩,HA.out.keep (HB3.out.then T.out),HB1.out.then (HB3.out.then T.out)⟩
end Go.Proofs.YtejaocnhekjfiaaGreatDoor
namespace Go.Proofs.YtejaocnhekjfiaaGreatDoor
open Go.RowKit
set_option linter.unusedVariables false
set_option maxRecDepth 100000 in
set_option maxHeartbeats 1000000 in
theorem range_ok {w : World} {p q : Nat} {c : Cfg} {L : List LA} {C : List (List Int)} (h : StackIs w p q c L C) (lo hi : Nat) (hlo : lo < 18446744073709551616) (hhi : hi < 18446744073709551616) (hok : S14.okC c.bits lo hi = true)
   (hP : ∀ x ∈ S14.covL c.bits lo hi,x.1 ≤ c.bits ∧ x.2 < 2 ^ (c.bits - x.1)) (hlen : (S14.covL c.bits lo hi).length ≤ 1000) (vs : List Int) (hvs : (S14.covL c.bits lo hi).map (partV c C) = vs) (hin : S02.In64 vs) (r : Int) (hr : S02.smallV (S02.sm vs) = .tuple #[.int .i64 r,.bool true]) :
   Calls Tryz.prog 90 #[.pointer (some ⟨p,0,none⟩),.int .u64 lo,.int .u64 hi] w fun e w' => e = .returned (.tuple #[.int .i64 r,.int .i64 0]) ∧ Below w.heap.size w w':=by
 have K1:=parts_ok h lo hi hlo hhi hok hP hlen
 have hl : vs.length ≤ 1000:=by rw [← hvs,List.length_map]; exact hlen
 rw [hvs] at K1
 have K1:=Lib.hid K1
 have K2:=Lib.hid (fun ad cap w1 (hrow : Row w1 ad vs.length (vs.map (Value.int .i64))) => S02.sum_any vs ad vs.length cap w1 hrow hin (by omega))
 rw [hr] at K2
 clear hP hlen hok h hvs hin hr
 go_enter Tryz.func90,Tryz.ntmps90
 go_wp2_with fail
 refine K1.out.mono ?_
 rintro e w1 ⟨ad,cap,rfl,hrow,hb⟩
 have HB:=Lib.hid hb
 have HR:=Lib.hid hrow
 clear hb hrow
 go_wp2_with fail
 refine (K2.out _ _ _ HR.out).mono ?_
 rintro e w2 ⟨rfl,hb⟩
 have HB2:=Lib.hid (HB.out.then hb)
 clear hb
 go_wp2_with fail
 go_ret2
 exact ⟨rfl,HB2.out⟩
end Go.Proofs.YtejaocnhekjfiaaGreatDoor
namespace Go.Proofs.YtejaocnhekjfiaaGreatDoor
open Go.RowKit
set_option linter.unusedVariables false
open S14 (PRow)
set_option maxRecDepth 100000 in
set_option maxHeartbeats 1000000 in
theorem quantile_ok {w : World} {p q : Nat} {c : Cfg} {L : List LA} {C : List (List Int)} (h : StackIs w p q c L C) (k0 : Int) (V : Int) (hV : V ≤ 1125899906842624) (hfit : ∀ l i,l ≤ c.bits → i < 2 ^ (c.bits - l) → -V ≤ partV c C (l,i) ∧ partV c C (l,i) ≤ V) (h1 : 1 ≤ k0) (h2 : k0 ≤ partV c C (c.bits,0))
   (x : Nat × Nat) (hx : (wayL c C c.bits 0 k0)[c.bits]? = some x) :
   Calls Tryz.prog 91 #[.pointer (some ⟨p,0,none⟩),.int .i64 k0] w fun e w' => e = .returned (.tuple #[.int .u64 x.2,.int .i64 0]) ∧ Below w.heap.size w w':=by
 have K:=Lib.hid (way_ok h k0 V hV hfit h1 h2)
 have hb59:=h.ok.b59
 have hw1 : IntKind.i64.wrap (((c.bits + 1 : Nat) : Int) - 1) = (c.bits : Int):=by rw [IntWalk.i64_in _ (by omega)]; omega
 have hw2 : IntKind.i64.wrap ((c.bits : Int) + 1 - 1) = (c.bits : Int):=by rw [IntWalk.i64_in _ (by omega)]; omega
 have hbI : (c.bits : Int) < (c.bits : Int) + 1:=by omega
 have HX:=Lib.hid hx
 clear h hfit hx
 go_enter Tryz.func91,Tryz.ntmps91
 go_wp2_with fail
 refine K.out.mono ?_
 rintro e w1 ⟨ad,cap,rfl,hrow,hb⟩
 obtain ⟨g,rfl,c0,c1⟩:=hrow.cells HX.out
 have HB:=Lib.hid hb
 clear hb hrow
 go_wp2_with fail
 go_ret2
 exact ⟨rfl,HB.out⟩
end Go.Proofs.YtejaocnhekjfiaaGreatDoor
namespace Go.Proofs.YtejaocnhekjfiaaGreatDoor
open Go.RowKit
set_option linter.unusedVariables false
open S25 (I64 numLine LineOk Tabs PlainW)
theorem line_range {w : World} {base a m : Nat} {c : Cfg} {S : List SI} (h : AggIs w base a m c S) (hT : Tabs w) {i : Nat} (hi : i < 20) {s : SI} (hs : S[i]? = some s) (lo hi2 : Nat) (hl1 : lo ≤ 9223372036854775807) (hl2 : hi2 ≤ 9223372036854775807) (r : Int)
   (hrI : -9223372036854775808 ≤ r ∧ r ≤ 9223372036854775807)
   (hok : S14.okC c.bits lo hi2 = true) (hP : ∀ x ∈ S14.covL c.bits lo hi2,x.1 ≤ c.bits ∧ x.2 < 2 ^ (c.bits - x.1)) (hlen : (S14.covL c.bits lo hi2).length ≤ 1000) (vs : List Int) (hvs : (S14.covL c.bits lo hi2).map (partV c s.C) = vs) (hin : S02.In64 vs) (hr : S02.smallV (S02.sm vs) = .tuple #[.int .i64 r,.bool true]) :
   Calls Tryz.prog 11 #[.pointer (some ⟨a,0,none⟩),.string (numLine vRange [(i : Int) + 1,lo,hi2])] w (ReadPost w base a m c S (bNumber ++ numT r)):=by
 have hst:=h.st i s hs
 have h1:=i64_handle hi
 have h2:=i64_nat hl1
 have h3:=i64_nat hl2
 refine (line_ok (t:=bNumber ++ numT r) (R:=fun v w2 => v = .iface 142 (.agg #[.int .i64 r]) ∧ AggIs w2 base a m c S ∧ Below w.heap.size w w2) a _ hT (line_fits (ok3 vRange_plain (by decide) h1 h2 h3)) (parse_range h1 h2 h3) (fun w1 v hb1 hv => ?_) (fun v w2 hR => ?_)).mono ?_
 · obtain ⟨al,cl,rfl,hr2⟩:=hv
   refine do_query a vRange ((i : Int) + 1) al 2 cl (fun w' hbw => ?_)
   refine (query_range (h.keep (hb1.then hbw)) hs al cl lo hi2 r (hr2.below hbw) hl1 hl2 (fun w3 hb3 => range_ok (hst.below ((hb1.then hbw).then hb3)) lo hi2 (by omega) (by omega) hok hP hlen vs hvs hin r hr)).mono ?_
   rintro e w2 ⟨rfl,hA',hu⟩
   exact ⟨_,rfl,rfl,hA',(hb1.then hbw).then hu⟩
 · obtain ⟨rfl,_,hu⟩:=hR
   exact text_number _ hrI w2 (hT.below hu)
 · rintro e w' ⟨rfl,v,w2,⟨_,hA',hu⟩,hb2⟩
   exact ⟨rfl,hA'.keep hb2,hu.then hb2⟩
theorem line_quantile {w : World} {base a m : Nat} {c : Cfg} {S : List SI} (h : AggIs w base a m c S) (hT : Tabs w) {i : Nat} (hi : i < 20) {s : SI} (hs : S[i]? = some s) (k0 : Int) (V : Int) (hV : V ≤ 1125899906842624)
   (hfit : ∀ l i,l ≤ c.bits → i < 2 ^ (c.bits - l) → -V ≤ partV c s.C (l,i) ∧ partV c s.C (l,i) ≤ V) (h1 : 1 ≤ k0) (h2 : k0 ≤ partV c s.C (c.bits,0)) (x : Nat × Nat) (hx : (wayL c s.C c.bits 0 k0)[c.bits]? = some x) (hx2 : x.2 < 100) :
   Calls Tryz.prog 11 #[.pointer (some ⟨a,0,none⟩),.string (numLine vQuantile [(i : Int) + 1,k0])] w (ReadPost w base a m c S (bKey ++ numT (x.2 : Int))):=by
 have hst:=h.st i s hs
 have g1:=i64_handle hi
 have hb:=(hfit c.bits 0 (Nat.le_refl _) (Nat.pow_pos (by decide))).2
 have g2 : I64 k0:=⟨by omega,by omega⟩
 refine (line_ok (t:=bKey ++ numT (x.2 : Int)) (R:=fun v w2 => v = .iface 145 (.agg #[.int .u64 x.2]) ∧ AggIs w2 base a m c S ∧ Below w.heap.size w w2) a _ hT (line_fits (ok2 vQuantile_plain (by decide) g1 g2)) (parse_quantile g1 g2) (fun w1 v hb1 hv => ?_) (fun v w2 hR => ?_)).mono ?_
 · obtain ⟨al,cl,rfl,hr2⟩:=hv
   refine do_query a vQuantile ((i : Int) + 1) al 1 cl (fun w' hbw => ?_)
   refine (query_quantile (h.keep (hb1.then hbw)) hs al cl k0 x.2 (hr2.below hbw) (fun w3 hb3 => quantile_ok (hst.below ((hb1.then hbw).then hb3)) k0 V hV hfit h1 h2 x hx)).mono ?_
   rintro e w2 ⟨rfl,hA',hu⟩
   exact ⟨_,rfl,rfl,hA',(hb1.then hbw).then hu⟩
 · obtain ⟨rfl,_,hu⟩:=hR
   exact text_key _ hx2 w2
 · rintro e w' ⟨rfl,v,w2,⟨_,hA',hu⟩,hb2⟩
   exact ⟨rfl,hA'.keep hb2,hu.then hb2⟩
end Go.Proofs.YtejaocnhekjfiaaGreatDoor
