/- Walks and plain laws, part 15: Txt4 Ag15 Wk Wk2 Sf1 Sf3 Md1 Nm Sf2. -/
import Derived.Test.YtejaocnhekjfiaaGreatDoorK03
import Derived.Test.YtejaocnhekjfiaaGreatDoorK06
import Derived.Test.YtejaocnhekjfiaaGreatDoorK09
import Derived.Test.YtejaocnhekjfiaaGreatDoorK11
import Derived.Test.YtejaocnhekjfiaaGreatDoorK12
import Derived.Test.YtejaocnhekjfiaaGreatDoorK13
import Derived.Test.YtejaocnhekjfiaaGreatDoorK14
import Derived.Deep.DeepCutAuto
namespace Go.Proofs.YtejaocnhekjfiaaGreatDoor
open Go.RowKit
set_option linter.unusedVariables false
def foundT (f : (Nat × Nat) × Int) : ByteArray:=((((⟨#[32]⟩ : ByteArray) ++ numT f.1.1) ++ ⟨#[58]⟩ ++ numT f.1.2) ++ ⟨#[58]⟩) ++ numT f.2
theorem strCells_app (a b : ByteArray) : Lib.strCells (a ++ b) = Lib.strCells a ++ Lib.strCells b:=by
 unfold Lib.strCells; rw [ByteArray.data_append,Array.toList_append,List.map_append]
def FoundOk (f : (Nat × Nat) × Int) : Prop:=f.1.1 < 100 ∧ f.1.2 < 100 ∧ -9223372036854775808 ≤ f.2 ∧ f.2 ≤ 9223372036854775807
theorem foundT_size {f : (Nat × Nat) × Int} (h : FoundOk f) : (foundT f).size ≤ 66:=by
 have z1:=numT_size (f.1.1 : Int) ⟨by have:=h.1; omega,by have:=h.1; omega⟩
 have z2:=numT_size (f.1.2 : Int) ⟨by have:=h.2.1; omega,by have:=h.2.1; omega⟩
 have z3:=numT_size f.2 h.2.2
 unfold foundT
 simp only [ByteArray.size_append]
 show 1 + _ + 1 + _ + 1 + _ ≤ 66
 omega
theorem founds_size : ∀ (l : List ((Nat × Nat) × Int)) (t : ByteArray),(∀ f ∈ l,FoundOk f) → (l.foldl (fun t f => t ++ foundT f) t).size ≤ t.size + 66 * l.length
 | [],t,_ => by simp
 | f :: l,t,h => by
   have h1:=founds_size l (t ++ foundT f) (fun g hg => h g (List.mem_cons_of_mem _ hg))
   have h2:=foundT_size (h f List.mem_cons_self)
   rw [ByteArray.size_append] at h1
   rw [List.foldl_cons,List.length_cons]
   omega
theorem fcells_get : ∀ (l : List ((Nat × Nat) × Int)) (k : Nat) (f : (Nat × Nat) × Int),l[k]? = some f →
   (fcells l)[k * 3]? = some (.int .i64 f.1.1) ∧ (fcells l)[k * 3 + 1]? = some (.int .u64 f.1.2) ∧ (fcells l)[k * 3 + 2]? = some (.int .i64 f.2)
 | [],k,f,h => by simp at h
 | g :: l,0,f,h => by
   obtain rfl : g = f:=by simpa using h
   exact ⟨rfl,rfl,rfl⟩
 | g :: l,k + 1,f,h => by
   have e : fcells (g :: l) = [.int .i64 g.1.1,.int .u64 g.1.2,.int .i64 g.2] ++ fcells l:=rfl
   obtain ⟨h1,h2,h3⟩:=fcells_get l k f (by simpa using h)
   have sk : ∀ j,(fcells (g :: l))[(k + 1) * 3 + j]? = (fcells l)[k * 3 + j]?:=fun j => by
     rw [e,List.getElem?_append_right (by simp; omega)]
     congr 1
     simp; omega
   exact ⟨(sk 0).trans h1,(sk 1).trans h2,(sk 2).trans h3⟩
theorem owns_cell {w : World} {base : Nat} {e : TypeId} {size : Nat} {ao : Option Addr} {n co : Nat} {xs : List Value} (h : w.ownsRow base e size (.slice ao n co) n xs) (hn : 0 < n) :
   ∃ g,ao = some ⟨g,0,none⟩ ∧ n ≤ co ∧ ∀ j u,xs[j]? = some u → g < w.heap.size ∧ w.cell? ⟨g,j,none⟩ = some u:=by
 rcases h.2 with ⟨_,h0⟩ | ⟨g,cap,cur,e1,hb,hg,hnc,hcm,hcs,ht⟩
 · omega
 · cases e1
   refine ⟨g,rfl,hnc,fun j u hu => ⟨lt_of_block hg,?_⟩⟩
   rw [cell_of_row _ _ _ _ _ _ hg]
   rw [← ht,List.getElem?_take] at hu
   split at hu
   · rw [← hu]; simp
   · cases hu
set_option maxRecDepth 100000 in
set_option maxHeartbeats 2000000 in
theorem text_list (fs : List ((Nat × Nat) × Int)) (v : Value) (w : World) (hT : S25.Tabs w) (base : Nat) (hv : w.ownsRow base 160 3 v fs.length (fcells fs)) (hn : fs.length ≤ 100) (hs : ∀ f ∈ fs,f.1.1 < 100 ∧ f.1.2 < 100 ∧ -9223372036854775808 ≤ f.2 ∧ f.2 ≤ 9223372036854775807) :
   Calls Tryz.prog 35 #[.iface 154 (.agg #[v])] w fun e w' => e = .returned (.string (fs.foldl (fun t f => t ++ foundT f) ⟨#[108,105,115,116]⟩)) ∧ Below w.heap.size w w':=by
 have KW:=Lib.hid (fun (b : Nat) (w' : World) (h : Lib.IsBuilder 137 5 w.heap.size b [] w') (hs : w.heap.size ≤ w'.heap.size) => wstring_any w.heap.size b [] ⟨#[108,105,115,116]⟩ w' h (by decide) hs)
 obtain ⟨ao,co,rfl⟩ : ∃ ao co,v = .slice ao fs.length co:=by
   rcases hv.2 with ⟨rfl,e0⟩ | ⟨gg,cc,_,rfl,_⟩
   · exact ⟨none,0,by rw [e0]⟩
   · exact ⟨_,_,rfl⟩
 have HV:=Lib.hid hv
 have HS:=Lib.hid hs
 have HT:=Lib.hid hT
 have HN:=Lib.hid hn
 clear hv hs hT
 go_enter Tryz.func35,Tryz.ntmps35
 go_wp2_with fail
 refine (KW.out _ _ (IsBuilder.keep (Lib.fresh_isBuilder 137 5 w) ((Below.refl _ _).alloc (Nat.le_refl _) _)) (by simp; omega)).mono ?_
 rintro e w1 ⟨rfl,hB,hb,hk⟩
 rw [List.nil_append] at hB
 have hx0 : ((w.alloc (.cells #[.pointer none,.slice none 0 0] 137)).alloc (.cells #[.slice ao fs.length co] 154)).heap[w.heap.size + 1]? = some (.cells #[.slice ao fs.length co] 154 (0,0)):=by
   have:=heap_alloc_new (w.alloc (.cells #[.pointer none,.slice none 0 0] 137)) (.cells #[.slice ao fs.length co] 154)
   rwa [World.size_alloc] at this
 have hx1:=hk _ _ hx0 (by simp) (by intro c fz e; simp at e)
 have c0 : w1.cell? ⟨w.heap.size + 1,0,none⟩ = some (.slice ao fs.length co):=(cell_of_row _ _ _ _ _ _ hx1).trans rfl
 have hb1 : Below w.heap.size w w1:=(((Below.refl _ _).alloc (Nat.le_refl _) _).alloc (by simp) _).trans hb
 have HB:=Lib.hid hB
 have HB1:=Lib.hid hb1
 clear hB hb hk hx0 hx1 hb1
 generalize hn0 : fs.length = n at *
 have HL:=Lib.hid hn0
 clear hn0
 go_wp2_with fail
 go_loopw [11,54] (fun x i wr => ∃ k : Nat,k ≤ n ∧ i = .int .i64 k ∧ Hid (Lib.IsBuilder 137 5 w.heap.size w.heap.size (Lib.strCells ((fs.take k).foldl (fun t f => t ++ foundT f) ⟨#[108,105,115,116]⟩)) wr) ∧ Hid (Below w.heap.size w wr)) (fun x i _ => n - (intOf i).toNat)
 case atStart => exact ⟨0,Nat.zero_le _,rfl,Lib.hid (by rw [List.take_zero]; exact HB.out),HB1⟩
 case round =>
   obtain ⟨k,hk,rfl,hB,hbw⟩:=hrel
   by_cases hlt : k < n
   · have hgo : decide ((k : Int) < (n : Int)) = true:=by simpa using hlt
     obtain ⟨f,hfk⟩ : ∃ f,fs[k]? = some f:=⟨_,List.getElem?_eq_getElem (by rw [HL.out]; exact hlt)⟩
     obtain ⟨g,rfl,hnc,hcel⟩:=owns_cell HV.out (by omega)
     obtain ⟨q0,q1,q2⟩:=fcells_get fs k f hfk
     have hfo:=HS.out f (List.mem_of_getElem? hfk)
     have d0 : wr.cell? ⟨g,k * 3,none⟩ = some (.int .i64 f.1.1):=(hbw.out.cell (p:=⟨g,k * 3,none⟩) (hcel _ _ q0).1).trans (hcel _ _ q0).2
     have d1 : wr.cell? ⟨g,k * 3 + 1,none⟩ = some (.int .u64 f.1.2):=(hbw.out.cell (p:=⟨g,k * 3 + 1,none⟩) (hcel _ _ q1).1).trans (hcel _ _ q1).2
     have d2 : wr.cell? ⟨g,k * 3 + 2,none⟩ = some (.int .i64 f.2):=(hbw.out.cell (p:=⟨g,k * 3 + 2,none⟩) (hcel _ _ q2).1).trans (hcel _ _ q2).2
     have HSN:=Lib.hid (show (fs.take (k + 1)).foldl (fun t f => t ++ foundT f) ⟨#[108,105,115,116]⟩ = (fs.take k).foldl (fun t f => t ++ foundT f) ⟨#[108,105,115,116]⟩ ++ foundT f by
       rw [List.take_add_one,hfk]; exact List.foldl_append ..)
     have hsz:=founds_size (fs.take k) ⟨#[108,105,115,116]⟩ (fun f hf => HS.out f (List.mem_of_mem_take hf))
     have hsz2 : ((fs.take k).foldl (fun t f => t ++ foundT f) ⟨#[108,105,115,116]⟩).size ≤ 10000:=by
       have h1 : (fs.take k).length ≤ k:=List.length_take_le _ _
       have h2 : (⟨#[108,105,115,116]⟩ : ByteArray).size = 4:=rfl
       omega
     have HSZ:=Lib.hid hsz2
     have K1:=Tryz.strconv_Itoa_small f.1.1 hfo.1
     rw [numT_small] at K1
     have K2:=fuint_small f.1.2 hfo.2.1
     have K3:=fun w' (hb : Below w.heap.size w w') => Tryz.strconv_FormatInt_10 f.2 hfo.2.2.1 hfo.2.2.2 w' (HT.out.below hb).pow
     rw [show (⟨(Lib.itoa f.2).toArray⟩ : ByteArray) = numT f.2 from rfl] at K3
     have z1:=numT_size (f.1.1 : Int) ⟨by have:=hfo.1; omega,by have:=hfo.1; omega⟩
     have z2:=numT_size (f.1.2 : Int) ⟨by have:=hfo.2.1; omega,by have:=hfo.2.1; omega⟩
     have z3:=numT_size f.2 hfo.2.2
     have K1:=Lib.hid K1
     have K2:=Lib.hid K2
     have K3:=Lib.hid K3
     have HF:=Lib.hid (show foundT f = ((((⟨#[32]⟩ : ByteArray) ++ numT f.1.1) ++ ⟨#[58]⟩ ++ numT f.1.2) ++ ⟨#[58]⟩) ++ numT f.2 from rfl)
     generalize numT (f.1.1 : Int) = s1 at *
     generalize numT (f.1.2 : Int) = s2 at *
     generalize numT f.2 = s3 at *
     have n1 : ¬ 9223372036854775807 < 1 + s1.size:=by omega
     have n2 : ¬ 9223372036854775807 < 1 + s1.size + 1:=by omega
     have n3 : ¬ 9223372036854775807 < 1 + s1.size + 1 + s2.size:=by omega
     have n4 : ¬ 9223372036854775807 < 1 + s1.size + 1 + s2.size + 1:=by omega
     have n5 : ¬ 9223372036854775807 < 1 + s1.size + 1 + s2.size + 1 + s3.size:=by omega
     have n6 : 1 + s1.size + 1 + s2.size + 1 + s3.size ≤ 70:=by omega
     have HNE:=Lib.hid (show wr.heap.size ≠ w.heap.size from fun e => by
       rcases hB.out with ⟨_,v,h2,_⟩ | ⟨_,v,h2,_⟩
       · have:=lt_of_block h2; omega
       · have:=lt_of_block h2; omega)
     have HLEN:=Lib.hid (show (Lib.strCells ((fs.take k).foldl (fun t f => t ++ foundT f) ⟨#[108,105,115,116]⟩)).length + (((((⟨#[32]⟩ : ByteArray) ++ s1) ++ ⟨#[58]⟩ ++ s2) ++ ⟨#[58]⟩) ++ s3).size ≤ 140737488355328 by
       rw [Lib.strCells_length]
       simp only [ByteArray.size_append]
       have h1 : (⟨#[32]⟩ : ByteArray).size = 1:=rfl
       have h2 : (⟨#[58]⟩ : ByteArray).size = 1:=rfl
       omega)
     have HHLT:=Lib.hid hlt
     have hltI : (k : Int) < (n : Int):=by omega
     have hkn : (k : Int) ≤ 9223372036854775806:=by have:=HN.out; omega
     clear hfk hcel q0 q1 q2 hfo hsz hsz2 z1 z2 z3 n6 hlt
     go_upto_region 24 with fail
     have hxb:=heap_alloc_new wr (.cells #[.int .i64 f.1.1,.int .u64 f.1.2,.int .i64 f.2] 160)
     have hB2:=IsBuilder.keep hB.out ((Below.refl wr.heap.size wr).alloc (Nat.le_refl _) (.cells #[.int .i64 f.1.1,.int .u64 f.1.2,.int .i64 f.2] 160))
     have hbw2:=hbw.out.alloc hbw.out.size (.cells #[.int .i64 f.1.1,.int .u64 f.1.2,.int .i64 f.2] 160)
     generalize hX : wr.alloc (.cells #[.int .i64 f.1.1,.int .u64 f.1.2,.int .i64 f.2] 160) = X at *
     have HXB:=Lib.hid hxb
     have HB2:=Lib.hid hB2
     have HBW2:=Lib.hid hbw2
     clear hX hxb hB2 hbw2 d0 d1 d2
     have A0:=Lib.hid (show ∀ w' : World,w'.heap[wr.heap.size]? = some (.cells #[.int .i64 f.1.1,.int .u64 f.1.2,.int .i64 f.2] 160 (0,0)) →
         w'.cell? ⟨wr.heap.size,0,none⟩ = some (.int .i64 f.1.1) ∧ w'.cell? ⟨wr.heap.size,1,none⟩ = some (.int .u64 f.1.2) ∧ w'.cell? ⟨wr.heap.size,2,none⟩ = some (.int .i64 f.2) from
       fun w' h => ⟨(cell_of_row _ _ _ _ _ _ h).trans rfl,(cell_of_row _ _ _ _ _ _ h).trans rfl,(cell_of_row _ _ _ _ _ _ h).trans rfl⟩)
     have T:=Lib.hid (Below.refl X.heap.size X).drew
     have A1:=Lib.hid (fun (w' : World) (hb : Below X.heap.size X w') => A0.out w' ((hb.block _ (lt_of_block HXB.out)).trans HXB.out))
     refine wp_region_held (S:=fun w' => w'.cell? ⟨wr.heap.size,0,none⟩ = some (.int .i64 f.1.1) ∧ w'.cell? ⟨wr.heap.size,1,none⟩ = some (.int .u64 f.1.2) ∧ w'.cell? ⟨wr.heap.size,2,none⟩ = some (.int .i64 f.2)) (by kernel_rfl) ?_
     refine wpAnyH_take (i:=0) (oi:=⟨_,_,_,_,_,_⟩) (v:=?vvb0) rfl (by kernel_rfl) (by kernel_rfl) (by kernel_rfl) (fun _ _ _ h => h) (Or.inl ⟨by rfl,?yyb0⟩) (A1.out _ T.out) ?_
     case yyb0 => (intro w' hw'; go_simp; try with_reducible rfl)
     try simp only [Act.put,List.setIfInBounds_toArray,List.set_cons_zero,List.set_cons_succ]
     refine wpAnyH_take (i:=1) (oi:=⟨_,_,_,_,_,_⟩) (v:=?vvb1) rfl (by kernel_rfl) (by kernel_rfl) (by kernel_rfl) (fun _ _ _ h => h) (Or.inl ⟨by rfl,?yyb1⟩) (A1.out _ T.out) ?_
     case yyb1 => (intro w' hw'; go_simp; try with_reducible rfl)
     try simp only [Act.put,List.setIfInBounds_toArray,List.set_cons_zero,List.set_cons_succ]
     refine wpAnyH_take (i:=2) (oi:=⟨_,_,_,_,_,_⟩) (v:=?vvb2) rfl (by kernel_rfl) (by kernel_rfl) (by kernel_rfl) (fun _ _ _ h => h) (Or.inl ⟨by rfl,?yyb2⟩) (A1.out _ T.out) ?_
     case yyb2 => (intro w' hw'; obtain ⟨c0,c1,c2⟩:=hw'; go_simp; try with_reducible rfl)
     try simp only [Act.put,List.setIfInBounds_toArray,List.set_cons_zero,List.set_cons_succ]
     refine wpAnyH_take (i:=6) (oi:=⟨_,_,_,_,_,_⟩) (v:=?vvb6) rfl (by kernel_rfl) (by kernel_rfl) (by kernel_rfl) (fun _ _ _ h => h) (Or.inl ⟨by rfl,?yyb6⟩) (A1.out _ T.out) ?_
     case yyb6 => (intro w' hw'; go_simp; try with_reducible rfl)
     try simp only [Act.put,List.setIfInBounds_toArray,List.set_cons_zero,List.set_cons_succ]
     refine wpAnyH_take (i:=7) (oi:=⟨_,_,_,_,_,_⟩) (v:=?vvb7) rfl (by kernel_rfl) (by kernel_rfl) (by kernel_rfl) (fun _ _ _ h => h) (Or.inl ⟨by rfl,?yyb7⟩) (A1.out _ T.out) ?_
     case yyb7 => (intro w' hw'; go_simp; try with_reducible rfl)
     try simp only [Act.put,List.setIfInBounds_toArray,List.set_cons_zero,List.set_cons_succ]
     refine wpAnyH_take (i:=8) (oi:=⟨_,_,_,_,_,_⟩) (v:=?vvb8) rfl (by kernel_rfl) (by kernel_rfl) (by kernel_rfl) (fun _ _ _ h => h) (Or.inl ⟨by rfl,?yyb8⟩) (A1.out _ T.out) ?_
     case yyb8 => (intro w' hw'; obtain ⟨c0,c1,c2⟩:=hw'; go_simp; try with_reducible rfl)
     try simp only [Act.put,List.setIfInBounds_toArray,List.set_cons_zero,List.set_cons_succ]
     refine wpAnyH_take (i:=12) (oi:=⟨_,_,_,_,_,_⟩) (v:=?vvb12) rfl (by kernel_rfl) (by kernel_rfl) (by kernel_rfl) (fun _ _ _ h => h) (Or.inl ⟨by rfl,?yyb12⟩) (A1.out _ T.out) ?_
     case yyb12 => (intro w' hw'; go_simp; try with_reducible rfl)
     try simp only [Act.put,List.setIfInBounds_toArray,List.set_cons_zero,List.set_cons_succ]
     refine wpAnyH_take (i:=13) (oi:=⟨_,_,_,_,_,_⟩) (v:=?vvb13) rfl (by kernel_rfl) (by kernel_rfl) (by kernel_rfl) (fun _ _ _ h => h) (Or.inl ⟨by rfl,?yyb13⟩) (A1.out _ T.out) ?_
     case yyb13 => (intro w' hw'; obtain ⟨c0,c1,c2⟩:=hw'; go_simp; try with_reducible rfl)
     try simp only [Act.put,List.setIfInBounds_toArray,List.set_cons_zero,List.set_cons_succ]
     refine wpAnyH_ready (rs:=[3]) (by kernel_rfl) (by simp) ?_
     refine AllReadyH.cons (o:=⟨_,_,_,_,_,_⟩) rfl (fun K hK => ?_) AllReadyH.nil
     go_simp
     with_reducible refine (K1.out _).mono ?_
     rintro e w3 ⟨rfl,rfl⟩
     refine hK.out _ _ (A1.out _ T.out) (fun hHeld => ?_)
     clear hK K hHeld
     try simp only [Act.put,List.setIfInBounds_toArray,List.set_cons_zero,List.set_cons_succ]
     refine wpAnyH_take (i:=4) (oi:=⟨_,_,_,_,_,_⟩) (v:=?vvb4) rfl (by kernel_rfl) (by kernel_rfl) (by kernel_rfl) (fun _ _ _ h => h) (Or.inl ⟨by rfl,?yyb4⟩) (A1.out _ T.out) ?_
     case yyb4 => (intro w' hw'; go_simp; try with_reducible rfl)
     try simp only [Act.put,List.setIfInBounds_toArray,List.set_cons_zero,List.set_cons_succ]
     refine wpAnyH_take (i:=5) (oi:=⟨_,_,_,_,_,_⟩) (v:=?vvb5) rfl (by kernel_rfl) (by kernel_rfl) (by kernel_rfl) (fun _ _ _ h => h) (Or.inl ⟨by rfl,?yyb5⟩) (A1.out _ T.out) ?_
     case yyb5 => (intro w' hw'; go_simp; try with_reducible rfl)
     try simp only [Act.put,List.setIfInBounds_toArray,List.set_cons_zero,List.set_cons_succ]
     refine wpAnyH_ready (rs:=[9]) (by kernel_rfl) (by simp) ?_
     refine AllReadyH.cons (o:=⟨_,_,_,_,_,_⟩) rfl (fun K hK => ?_) AllReadyH.nil
     go_simp
     with_reducible refine (K2.out _).mono ?_
     rintro e w3 ⟨rfl,rfl⟩
     refine hK.out _ _ (A1.out _ T.out) (fun hHeld => ?_)
     clear hK K hHeld
     try simp only [Act.put,List.setIfInBounds_toArray,List.set_cons_zero,List.set_cons_succ]
     refine wpAnyH_take (i:=10) (oi:=⟨_,_,_,_,_,_⟩) (v:=?vvb10) rfl (by kernel_rfl) (by kernel_rfl) (by kernel_rfl) (fun _ _ _ h => h) (Or.inl ⟨by rfl,?yyb10⟩) (A1.out _ T.out) ?_
     case yyb10 => (intro w' hw'; go_simp; try with_reducible rfl)
     try simp only [Act.put,List.setIfInBounds_toArray,List.set_cons_zero,List.set_cons_succ]
     refine wpAnyH_take (i:=11) (oi:=⟨_,_,_,_,_,_⟩) (v:=?vvb11) rfl (by kernel_rfl) (by kernel_rfl) (by kernel_rfl) (fun _ _ _ h => h) (Or.inl ⟨by rfl,?yyb11⟩) (A1.out _ T.out) ?_
     case yyb11 => (intro w' hw'; go_simp; try with_reducible rfl)
     try simp only [Act.put,List.setIfInBounds_toArray,List.set_cons_zero,List.set_cons_succ]
     refine wpAnyH_ready (rs:=[14]) (by kernel_rfl) (by simp) ?_
     refine AllReadyH.cons (o:=⟨_,_,_,_,_,_⟩) rfl (fun K hK => ?_) AllReadyH.nil
     go_simp
     with_reducible refine (K3.out _ (HBW2.out.then T.out)).mono ?_
     rintro e w3 ⟨rfl,kk,os,hw3⟩
     have T:=Lib.hid (show Below X.heap.size X w3 by rw [hw3]; exact T.out.then (S25.below_grow _ kk os))
     clear hw3
     refine hK.out _ _ (A1.out _ T.out) (fun hHeld => ?_)
     clear hK K hHeld
     try simp only [Act.put,List.setIfInBounds_toArray,List.set_cons_zero,List.set_cons_succ]
     refine wpAnyH_take (i:=15) (oi:=⟨_,_,_,_,_,_⟩) (v:=?vvb15) rfl (by kernel_rfl) (by kernel_rfl) (by kernel_rfl) (fun _ _ _ h => h) (Or.inl ⟨by rfl,?yyb15⟩) (A1.out _ T.out) ?_
     case yyb15 => (intro w' hw'; go_simp; try with_reducible rfl)
     try simp only [Act.put,List.setIfInBounds_toArray,List.set_cons_zero,List.set_cons_succ]
     refine wpAnyH_ready (rs:=[16]) (by kernel_rfl) (by simp) ?_
     refine AllReadyH.cons (o:=⟨_,_,_,_,_,_⟩) rfl (fun K hK => ?_) AllReadyH.nil
     go_simp
     with_reducible refine (wstring_any w.heap.size w.heap.size (Lib.strCells ((fs.take k).foldl (fun t f => t ++ foundT f) ⟨#[108,105,115,116]⟩)) (((((⟨#[32]⟩ : ByteArray) ++ s1) ++ ⟨#[58]⟩ ++ s2) ++ ⟨#[58]⟩) ++ s3) _ (IsBuilder.keep HB2.out T.out) HLEN.out (HBW2.out.then T.out).size).mono ?_
     rintro e w4 ⟨rfl,hB4,hb4,hk4⟩
     have T4:=Lib.hid ((HBW2.out.then T.out).trans hb4)
     have HB4:=Lib.hid hB4
     have HX4:=Lib.hid (hk4 _ _ ((T.out.block _ (lt_of_block HXB.out)).trans HXB.out) (fun e => HNE.out (Option.some.inj e)) (by intro c fz e; simp at e))
     clear hB4 hb4 hk4
     refine hK.out _ _ (A0.out _ HX4.out) (fun hHeld => ?_)
     clear hK K hHeld
     try simp only [Act.put,List.setIfInBounds_toArray,List.set_cons_zero,List.set_cons_succ]
     refine wpAnyH_done (by kernel_rfl) ?_ _
     clear A1 K1 K2 K3 n1 n2 n3 n4 n5
     go_wp2_with fail
     go_roundw
     case rel =>
       refine ⟨k + 1,HHLT.out,by go_num,Lib.hid ?_,T4⟩
       have:=HB4.out
       rw [← strCells_app,← HF.out,← HSN.out] at this
       exact this
     case measure => have:=HHLT.out; simp [intOf]; omega
   · have hgo : decide ((k : Int) < (n : Int)) = false:=by simpa using hlt
     have hfin:=hB.out
     rw [List.take_of_length_le (by rw [HL.out]; omega)] at hfin
     obtain ⟨TT,hTT⟩ : ∃ q,fs.foldl (fun t f => t ++ foundT f) ⟨#[108,105,115,116]⟩ = q:=⟨_,rfl⟩
     rw [hTT] at hfin
     have KS:=Lib.hid (fun h => Tryz.Builder_String_any w.heap.size w.heap.size TT.data.toList wr hfin h)
     clear hfin
     go_wp2_with fail
     refine (KS.out hbw.out.size).mono ?_
     rintro e w3 ⟨rfl,hb3⟩
     have HB3:=Lib.hid (hbw.out.trans hb3)
     clear hb3
     go_wp2_with fail
     go_ret
     exact ⟨by rw [hTT]; rfl,HB3.out⟩
end Go.Proofs.YtejaocnhekjfiaaGreatDoor
namespace Go.Proofs.YtejaocnhekjfiaaGreatDoor
open Go.RowKit
set_option linter.unusedVariables false
open S25 (I64 numLine LineOk Tabs PlainW)
def listT (fs : List ((Nat × Nat) × Int)) : ByteArray:=fs.foldl (fun t f => t ++ foundT f) ⟨#[108,105,115,116]⟩
theorem line_heavy {w : World} {base a m : Nat} {c : Cfg} {S : List SI} (h : AggIs w base a m c S) (hT : Tabs w) {i : Nat} (hi : i < 20) {s : SI} (hs : S[i]? = some s) (least : Int) (budget : Nat) (h1 : 1 ≤ least) (hl : least ≤ 1125899906842624) (hbud : budget ≤ 4096)
   (hask : askedH c s.C least (c.bits + 1) ≤ budget) (fs : List ((Nat × Nat) × Int)) (hfs : outsH c s.C least (c.bits + 1) = fs) (hn : fs.length ≤ 100) (hsm : ∀ f ∈ fs,f.1.1 < 100 ∧ f.1.2 < 100 ∧ -9223372036854775808 ≤ f.2 ∧ f.2 ≤ 9223372036854775807) :
   Calls Tryz.prog 11 #[.pointer (some ⟨a,0,none⟩),.string (numLine vHeavy [(i : Int) + 1,least,budget])] w (ReadPost w base a m c S (listT fs)):=by
 have hst:=h.st i s hs
 have g1:=i64_handle hi
 have g2 : I64 least:=⟨by omega,by omega⟩
 have g3 : I64 (budget : Int):=⟨by omega,by omega⟩
 refine (line_ok (t:=listT fs) (R:=fun v w2 => (∃ v' b0,v = .iface 154 (.agg #[v']) ∧ w2.ownsRow b0 160 3 v' fs.length (fcells fs)) ∧ AggIs w2 base a m c S ∧ Below w.heap.size w w2) a _ hT (line_fits (ok3 vHeavy_plain (by decide) g1 g2 g3)) (parse_heavy g1 g2 g3) (fun w1 v hb1 hv => ?_) (fun v w2 hR => ?_)).mono ?_
 · obtain ⟨al,cl,rfl,hr2⟩:=hv
   refine do_query a vHeavy ((i : Int) + 1) al 2 cl (fun w' hbw => ?_)
   refine (query_heavy (h.keep (hb1.then hbw)) hs al cl least budget fs (hr2.below hbw) (fun w3 hb3 => ?_)).mono ?_
   · have K:=heavy_ok (hst.below ((hb1.then hbw).then hb3)) least budget h1 hbud hask
     rw [hfs] at K
     exact K
   · rintro e w2 ⟨⟨v,rfl,hown⟩,hA',hu⟩
     exact ⟨_,rfl,⟨v,_,rfl,hown⟩,hA',(hb1.then hbw).then hu⟩
 · obtain ⟨⟨v',b0,rfl,hown⟩,_,hu⟩:=hR
   exact text_list fs v' w2 (hT.below hu) b0 hown hn hsm
 · rintro e w' ⟨rfl,v,w2,⟨_,hA',hu⟩,hb2⟩
   exact ⟨rfl,hA'.keep hb2,hu.then hb2⟩
end Go.Proofs.YtejaocnhekjfiaaGreatDoor
namespace Go.Proofs.YtejaocnhekjfiaaGreatDoor
open Go.RowKit
set_option linter.unusedVariables false
open S25 (I64 numLine LineOk Tabs PlainW)
def cW : Cfg:=⟨2,1,4,1,0⟩
theorem cW_ok : cW.ok:=⟨by decide,by decide,by decide,by decide,by decide,by decide,by decide,by decide,by decide⟩
def c0W : List (List Int):=[[0,0,0,0],[0,0],[0]]
def c1W : List (List Int):=[[0,0,0,5],[0,5],[5]]
def c2W : List (List Int):=[[0,2,0,5],[2,5],[7]]
def outsW : List ((Nat × Nat) × Int):=[((2,0),7),((1,1),5),((0,3),5)]
theorem zero_w : zeroC cW = c0W:=by kernel_rfl
theorem upd_w1 : updS cW 3 5 c0W (List.range 3) = c1W:=by kernel_rfl
theorem upd_w2 : updS cW 1 2 c1W (List.range 3) = c2W:=by kernel_rfl
theorem outs_w : outsH cW c2W 5 3 = outsW:=by kernel_rfl
theorem asked_w : askedH cW c2W 5 3 = 5:=by kernel_rfl
theorem way_w : (wayL cW c2W 2 0 3)[2]? = some (0,3):=by kernel_rfl
theorem cov_w : S14.covL 2 1 2 = [(0,1),(0,2)]:=by kernel_rfl
theorem part_w : ∀ l,l < 3 → ∀ i,i < 2 ^ (2 - l) → -100 ≤ partV cW c2W (l,i) ∧ partV cW c2W (l,i) ≤ 100:=by decide +kernel
theorem inn_w : innL cW 0 [0,2,0,5] [0,2,0,5] = 29:=by kernel_rfl
theorem fit_w : ∀ k,k < 5 → S02.Fits (dotK [0,2,0,5] [0,2,0,5] k):=by decide +kernel
def xsW : List ByteArray:=[numLine vCreate [2,1,4,1,0],numLine vAdd [1,3,5],numLine vAdd [1,1,2],numLine vRange [1,1,2],numLine vQuantile [1,3],numLine vHeavy [1,5,9],numLine vInner [1,1]]
def tsW : List ByteArray:=[bHandle ++ numT 1,bDone,bDone,bNumber ++ numT 2,bKey ++ numT 3,listT outsW,bWide ++ numT 29]
def SsW : Nat → List (List (List Int))
 | 0 => []
 | 1 => [c0W]
 | 2 => [c1W]
 | _ => [c2W]
theorem one_of {S : List SI} {C : List (List Int)} (h : S.map (·.C) = [C]) : ∃ s,S = [s] ∧ s.C = C:=by
 match S,h with
 | [s],h => exact ⟨s,rfl,by simpa using h⟩
theorem fitl (b : Int) (C : List (List Int)) (h : C.all (fun zs => zs.all fun x => decide (-b ≤ x) && decide (x ≤ b)) = true) : ∀ zs ∈ C,FitL b zs:=fun zs hz x hx => by
 have:=List.all_eq_true.1 (List.all_eq_true.1 h zs hz) x hx
 simpa using this
theorem script_w : Script cW xsW tsW SsW:=by
 intro base a m S w k x hx hA hS hT hb
 match k,hx with
 | 0,hx =>
   obtain rfl : numLine vCreate [2,1,4,1,0] = x:=by simpa [xsW] using hx
   obtain rfl : S = []:=by simpa [SsW] using hS
   have K:=line_create cW_ok hA hT (by decide) 0 ⟨by decide,by decide⟩ (by decide) hb
   refine ⟨bHandle ++ numT 1,rfl,K.mono ?_⟩
   rintro e w' ⟨rfl,s,hs,hA',hu⟩
   exact ⟨rfl,[] ++ [s],hA',by rw [List.nil_append,List.map_cons,List.map_nil,hs,zero_w]; rfl,hu⟩
 | 1,hx =>
   obtain rfl : numLine vAdd [1,3,5] = x:=by simpa [xsW] using hx
   obtain ⟨s,rfl,hs⟩:=one_of (C:=c0W) hS
   have K:=line_add hA hT (i:=0) (by decide) (s:=s) rfl 3 (by decide) 5 100 10 (by rw [hs]; exact fitl 100 c0W (by decide)) (by decide) ⟨by decide,by decide⟩ (by decide) (by decide) (by decide) (by decide)
   refine ⟨bDone,rfl,K.mono ?_⟩
   rintro e w' ⟨rfl,hA',hu⟩
   refine ⟨rfl,_,hA',?_,hu⟩
   show [updS cW 3 5 s.C (List.range 3)] = [c1W]
   rw [hs,upd_w1]
 | 2,hx =>
   obtain rfl : numLine vAdd [1,1,2] = x:=by simpa [xsW] using hx
   obtain ⟨s,rfl,hs⟩:=one_of (C:=c1W) hS
   have K:=line_add hA hT (i:=0) (by decide) (s:=s) rfl 1 (by decide) 2 100 10 (by rw [hs]; exact fitl 100 c1W (by decide)) (by decide) ⟨by decide,by decide⟩ (by decide) (by decide) (by decide) (by decide)
   refine ⟨bDone,rfl,K.mono ?_⟩
   rintro e w' ⟨rfl,hA',hu⟩
   refine ⟨rfl,_,hA',?_,hu⟩
   show [updS cW 1 2 s.C (List.range 3)] = [c2W]
   rw [hs,upd_w2]
 | 3,hx =>
   obtain rfl : numLine vRange [1,1,2] = x:=by simpa [xsW] using hx
   obtain ⟨s,rfl,hs⟩:=one_of (C:=c2W) hS
   have K:=line_range hA hT (i:=0) (by decide) (s:=s) rfl 1 2 (by decide) (by decide) 2 ⟨by decide,by decide⟩ (by decide) (by show ∀ x ∈ S14.covL 2 1 2,_; rw [cov_w]; decide) (by show (S14.covL 2 1 2).length ≤ _; rw [cov_w]; decide) [2,0] (by show (S14.covL 2 1 2).map _ = _; rw [cov_w,hs]; kernel_rfl) (by unfold S02.In64; decide) (by kernel_rfl)
   refine ⟨bNumber ++ numT 2,rfl,K.mono ?_⟩
   rintro e w' ⟨rfl,hA',hu⟩
   exact ⟨rfl,_,hA',hS,Upd.of_below hu⟩
 | 4,hx =>
   obtain rfl : numLine vQuantile [1,3] = x:=by simpa [xsW] using hx
   obtain ⟨s,rfl,hs⟩:=one_of (C:=c2W) hS
   have K:=line_quantile hA hT (i:=0) (by decide) (s:=s) rfl 3 100 (by decide) (fun l i hl hi => by rw [hs]; exact part_w l (Nat.lt_succ_of_le hl) i hi) (by decide) (by rw [hs]; decide +kernel) (0,3) (by rw [hs]; exact way_w) (by decide)
   refine ⟨bKey ++ numT 3,rfl,K.mono ?_⟩
   rintro e w' ⟨rfl,hA',hu⟩
   exact ⟨rfl,_,hA',hS,Upd.of_below hu⟩
 | 5,hx =>
   obtain rfl : numLine vHeavy [1,5,9] = x:=by simpa [xsW] using hx
   obtain ⟨s,rfl,hs⟩:=one_of (C:=c2W) hS
   have K:=line_heavy hA hT (i:=0) (by decide) (s:=s) rfl 5 9 (by decide) (by decide) (by decide) (by rw [hs]; exact Nat.le_trans (Nat.le_of_eq asked_w) (by decide)) outsW (by rw [hs]; exact outs_w) (by decide) (by decide)
   refine ⟨listT outsW,rfl,K.mono ?_⟩
   rintro e w' ⟨rfl,hA',hu⟩
   exact ⟨rfl,_,hA',hS,Upd.of_below hu⟩
 | 6,hx =>
   obtain rfl : numLine vInner [1,1] = x:=by simpa [xsW] using hx
   obtain ⟨s,rfl,hs⟩:=one_of (C:=c2W) hS
   have K:=line_inner hA hT (i:=0) (j:=0) (by decide) (by decide) (s:=s) (t:=s) rfl rfl rfl (xs:=[0,2,0,5]) (ys:=[0,2,0,5]) (by rw [hs]; rfl) (by rw [hs]; rfl) (by unfold S02.In64; decide) (by unfold S02.In64; decide) (by unfold InnFits; rw [if_pos (by decide)]; exact fun k hk => fit_w k (Nat.lt_succ_of_le hk)) (by rw [inn_w]; decide)
   rw [inn_w] at K
   refine ⟨bWide ++ numT 29,rfl,K.mono ?_⟩
   rintro e w' ⟨rfl,hA',hu⟩
   exact ⟨rfl,_,hA',hS,Upd.of_below hu⟩
 | k + 7,hx => simp [xsW] at hx
end Go.Proofs.YtejaocnhekjfiaaGreatDoor
namespace Go.Proofs.YtejaocnhekjfiaaGreatDoor
open Go.RowKit
set_option linter.unusedVariables false
open S25 (I64 numLine LineOk Tabs PlainW)
def scrW0 : ByteArray:=⟨#[99,114,101,97,116,101,32,50,32,49,32,52,32,49,32,48,10,97,100,100,32,49,32,51,32,53,10,97,100,100,32,49,32,49,32,50,10,114,97,110,103,101,32,49,32,49,32,50,10,113,117,97,110,116,105,108,101,32,49,32,51,10,104,101,97,118,121,32,49,32,53,32,57,10,105,110,110,101,114,32,49,32,49]⟩
def scrW1 : ByteArray:=⟨#[97,100,100,32,49,32,51,32,53,10,97,100,100,32,49,32,49,32,50,10,114,97,110,103,101,32,49,32,49,32,50,10,113,117,97,110,116,105,108,101,32,49,32,51,10,104,101,97,118,121,32,49,32,53,32,57,10,105,110,110,101,114,32,49,32,49]⟩
def scrW2 : ByteArray:=⟨#[97,100,100,32,49,32,49,32,50,10,114,97,110,103,101,32,49,32,49,32,50,10,113,117,97,110,116,105,108,101,32,49,32,51,10,104,101,97,118,121,32,49,32,53,32,57,10,105,110,110,101,114,32,49,32,49]⟩
def scrW3 : ByteArray:=⟨#[114,97,110,103,101,32,49,32,49,32,50,10,113,117,97,110,116,105,108,101,32,49,32,51,10,104,101,97,118,121,32,49,32,53,32,57,10,105,110,110,101,114,32,49,32,49]⟩
def scrW4 : ByteArray:=⟨#[113,117,97,110,116,105,108,101,32,49,32,51,10,104,101,97,118,121,32,49,32,53,32,57,10,105,110,110,101,114,32,49,32,49]⟩
def scrW5 : ByteArray:=⟨#[104,101,97,118,121,32,49,32,53,32,57,10,105,110,110,101,114,32,49,32,49]⟩
def scrW6 : ByteArray:=⟨#[105,110,110,101,114,32,49,32,49]⟩
theorem splits_w : Splits scrW0 xsW:=by
 unfold xsW
 have e0 : numLine vCreate [2,1,4,1,0] = scrW0.extract 0 16:=by kernel_rfl
 have f0 : scrW0.extract (16 + 1) scrW0.size = scrW1:=by kernel_rfl
 have e1 : numLine vAdd [1,3,5] = scrW1.extract 0 9:=by kernel_rfl
 have f1 : scrW1.extract (9 + 1) scrW1.size = scrW2:=by kernel_rfl
 have e2 : numLine vAdd [1,1,2] = scrW2.extract 0 9:=by kernel_rfl
 have f2 : scrW2.extract (9 + 1) scrW2.size = scrW3:=by kernel_rfl
 have e3 : numLine vRange [1,1,2] = scrW3.extract 0 11:=by kernel_rfl
 have f3 : scrW3.extract (11 + 1) scrW3.size = scrW4:=by kernel_rfl
 have e4 : numLine vQuantile [1,3] = scrW4.extract 0 12:=by kernel_rfl
 have f4 : scrW4.extract (12 + 1) scrW4.size = scrW5:=by kernel_rfl
 have e5 : numLine vHeavy [1,5,9] = scrW5.extract 0 11:=by kernel_rfl
 have f5 : scrW5.extract (11 + 1) scrW5.size = scrW6:=by kernel_rfl
 have e6 : numLine vInner [1,1] = scrW6:=by kernel_rfl
 rw [e0,e1,e2,e3,e4,e5,e6]
 refine .more scrW0 16 _ (by kernel_rfl) (by decide) ?_
 rw [f0]
 refine .more scrW1 9 _ (by kernel_rfl) (by decide) ?_
 rw [f1]
 refine .more scrW2 9 _ (by kernel_rfl) (by decide) ?_
 rw [f2]
 refine .more scrW3 11 _ (by kernel_rfl) (by decide) ?_
 rw [f3]
 refine .more scrW4 12 _ (by kernel_rfl) (by decide) ?_
 rw [f4]
 refine .more scrW5 11 _ (by kernel_rfl) (by decide) ?_
 rw [f5]
 exact .last _ (by kernel_rfl)
theorem reps_w : (bNumber ++ numT 2 = ⟨#[110,117,109,98,101,114,32,50]⟩) ∧ (bKey ++ numT 3 = ⟨#[107,101,121,32,51]⟩) ∧ (listT outsW = ⟨#[108,105,115,116,32,50,58,48,58,55,32,49,58,49,58,53,32,48,58,51,58,53]⟩) ∧ (bWide ++ numT 29 = ⟨#[119,105,100,101,32,50,57]⟩):=⟨by kernel_rfl,by kernel_rfl,by kernel_rfl,by kernel_rfl⟩
theorem eqs_w (s : ByteArray) (l : List UInt8) (h : s = ⟨l.toArray⟩) : (s.toList == l) = true:=by
 rw [h,ByteArray.toList_eq]; simp
set_option maxRecDepth 100000 in
set_option maxHeartbeats 1000000 in
theorem works_any (w : World) (hT : Tabs w) : Calls Tryz.prog 7 #[] w fun e w' => e = .returned (.bool true) ∧ Below w.heap.size w w':=by
 have K:=Lib.hid (run_any cW scrW0 xsW tsW SsW splits_w (by decide) rfl (by decide) rfl script_w w hT)
 unfold scrW0 at K
 have e3:=eqs_w _ [110,117,109,98,101,114,32,50] reps_w.1
 have e4:=eqs_w _ [107,101,121,32,51] reps_w.2.1
 have e5:=eqs_w _ [108,105,115,116,32,50,58,48,58,55,32,49,58,49,58,53,32,48,58,51,58,53] reps_w.2.2.1
 have e6:=eqs_w _ [119,105,100,101,32,50,57] reps_w.2.2.2
 unfold xsW tsW at K
 generalize bNumber ++ numT 2 = s3 at *
 generalize bKey ++ numT 3 = s4 at *
 generalize listT outsW = s5 at *
 generalize bWide ++ numT 29 = s6 at *
 clear hT
 go_enter Tryz.func7,Tryz.ntmps7
 go_wp2_with fail
 refine (K.out).mono ?_
 rintro e w1 ⟨v,n₀,rfl,hown,hb⟩
 obtain ⟨ao,co,rfl⟩ : ∃ ao co,v = .slice ao 7 co:=by
   rcases hown.2 with ⟨_,e0⟩ | ⟨gg,cc,_,rfl,_⟩
   · cases e0
   · exact ⟨_,_,rfl⟩
 obtain ⟨g,rfl,hnc,hc⟩:=owns_cell hown (by decide)
 have c3 : w1.cell? ⟨g,3,none⟩ = some (.string s3):=(hc 3 (.string s3) rfl).2
 have c4 : w1.cell? ⟨g,4,none⟩ = some (.string s4):=(hc 4 (.string s4) rfl).2
 have c5 : w1.cell? ⟨g,5,none⟩ = some (.string s5):=(hc 5 (.string s5) rfl).2
 have c6 : w1.cell? ⟨g,6,none⟩ = some (.string s6):=(hc 6 (.string s6) rfl).2
 have HB:=Lib.hid hb
 clear hc hown hb K
 go_wp2_with fail
 go_ret
 exact ⟨rfl,HB.out⟩
end Go.Proofs.YtejaocnhekjfiaaGreatDoor
namespace Go.Proofs.YtejaocnhekjfiaaGreatDoor
open Go.RowKit
set_option linter.unusedVariables false
def massK (F : List Int) (n i k : Nat) : Int:=sg (fun k => if k / 2 ^ n = i then F.getD k 0 else 0) k
theorem massK_succ (F : List Int) (n i k : Nat) : massK F n i (k + 1) = massK F n i k + if k / 2 ^ n = i then F.getD k 0 else 0:=rfl
def massF (F : List Int) (n i : Nat) : Int:=massK F n i 64
theorem massF_eq (c : Cfg) (h6 : c.bits = 6) (F : List Int) (n i : Nat) : massF F n i = massP c F n i:=by unfold massF massK massP; rw [h6]
theorem massK_fit {F : List Int} {b : Int} (hF : FitL b F) (hb0 : 0 ≤ b) (n i : Nat) {k : Nat} (hk : k ≤ 64) : -(64 * b) ≤ massK F n i k ∧ massK F n i k ≤ 64 * b:=by
 have h1 : -((k : Int) * b) ≤ massK F n i k ∧ massK F n i k ≤ (k : Int) * b:=sg_bound fun j _ => by
   have:=hF.getD hb0 j
   split <;> omega
 have h2 : (k : Int) * b ≤ 64 * b:=Int.mul_le_mul_of_nonneg_right (by omega) hb0
 omega
set_option maxRecDepth 100000 in
set_option maxHeartbeats 1000000 in
theorem mass_any {w : World} {base x a m : Nat} {c : Cfg} {S : List SI} {G : List Int} (h : WIs w base x a m c S G) (i : Nat) (hi : i < 3) (lv ix : Nat) (hlv : lv ≤ 6) (hix : ix < 64) (b : Int) (hG : FitL b G) (hb0 : 0 ≤ b) (hb : b ≤ 72057594037927936) :
   Calls Tryz.prog 17 #[.pointer (some ⟨x,0,none⟩),.int .i64 i,.agg #[.int .i64 lv,.int .u64 ix]] w fun e w' => e = .returned (.int .i64 (massF (rowG G i) lv ix)) ∧ Below w.heap.size w w':=by
 have HB:=Lib.hid ((Below.refl w.heap.size w).alloc (Nat.le_refl _) (.cells #[.int .i64 lv,.int .u64 ix] 46))
 have hx:=heap_alloc_new w (.cells #[.int .i64 lv,.int .u64 ix] 46)
 have HF:=Lib.hid (fun k (hk : k ≤ 64) => massK_fit (hG.rowG hb0 i) hb0 lv ix hk)
 have HGF:=Lib.hid (fun k => (hG.rowG hb0 i).getD hb0 k)
 have HM:=Lib.hid (show massF (rowG G i) lv ix = massK (rowG G i) lv ix 64 from rfl)
 have HS:=Lib.hid (massK_succ (rowG G i) lv ix)
 have H0:=Lib.hid (show massK (rowG G i) lv ix 0 = 0 from rfl)
 have HK:=Lib.hid (fun (w' : World) (hbw : Below w.heap.size w w') k (hk : k < 64) => (h.keep hbw).key (i:=64 * i + k) (by omega))
 have HGK:=Lib.hid (fun k (hk : k < 64) => rowG_getD G i k hk)
 have hiI : (i : Int) < 3:=by omega
 have hlvI : (lv : Int) ≤ 64:=by omega
 generalize hX : w.alloc (.cells #[.int .i64 lv,.int .u64 ix] 46) = X at *
 have c0 : X.cell? ⟨w.heap.size,0,none⟩ = some (.int .i64 lv):=(cell_of_row _ _ _ _ _ _ hx).trans rfl
 have c1 : X.cell? ⟨w.heap.size,1,none⟩ = some (.int .u64 ix):=(cell_of_row _ _ _ _ _ _ hx).trans rfl
 generalize rowG G i = F at *
 have hw1 : IntKind.u64.wrap (lv : Int) = lv:=IntWalk.u64_in _ ⟨by omega,by omega⟩
 have HHB:=Lib.hid hb
 clear hx h hi hG hb hb0 hlv hix
 go_enter Tryz.func17,Tryz.ntmps17
 go_wp2_with fail
 clear hX
 go_loopw [7,8] (fun s i8 wr => ∃ k : Nat,k ≤ 64 ∧ i8 = .int .i64 k ∧ s = .int .i64 (massK F lv ix k) ∧ wr = X) (fun _ i8 _ => 64 - (intOf i8).toNat)
 case atStart => exact ⟨0,by decide,rfl,by rw [H0.out],rfl⟩
 case round =>
   obtain ⟨k,hk,rfl,rfl,rfl⟩:=hrel
   by_cases hlt : k < 64
   · have hltI : (k : Int) < 64:=by omega
     have hkw : IntKind.u64.wrap (k : Int) = k:=IntWalk.u64_in _ ⟨by omega,by omega⟩
     have hkey:=HK.out _ HB.out k hlt
     rw [← HGK.out k hlt,show 6 + (64 * i + k) = 6 + i * 64 + k by omega] at hkey
     have hs:=HF.out k hk
     have hg:=HGF.out k
     have hn:=HS.out k
     have hhb:=HHB.out
     by_cases hp : k / 2 ^ lv = ix
     · rw [if_pos hp] at hn
       have g0 : ((k : Int) / 2 ^ lv == (ix : Int)) = true:=by
         rw [← hp]; simp
       generalize F.getD k 0 = g at *
       have hwr2 : wrap64 (massK F lv ix k + g) = massK F lv ix k + g:=by unfold wrap64; omega
       have HN:=Lib.hid (hwr2.trans hn.symm)
       generalize massK F lv ix k = s at *
       clear hs hg hp hn hhb hwr2
       go_wp2_with fail
       rw [HN.out]
       go_roundw
       case rel => exact ⟨k + 1,by omega,by go_num,rfl,by trivial⟩
       case measure => simp [intOf]; omega
     · rw [if_neg hp,Int.add_zero] at hn
       have g0 : ((k : Int) / 2 ^ lv == (ix : Int)) = false:=by
         have : ((k : Int) / 2 ^ lv) = ((k / 2 ^ lv : Nat) : Int):=by push_cast; rfl
         rw [this]; simp; omega
       have HN:=Lib.hid hn
       generalize massK F lv ix k = s at *
       clear hs hg hp hkey hn hhb
       go_wp2_with fail
       go_roundw
       case rel => exact ⟨k + 1,by omega,by go_num,by rw [HN.out],by trivial⟩
       case measure => simp [intOf]; omega
   · have hk64 : k = 64:=by omega
     subst hk64
     have hf : ¬ (((64 : Nat) : Int) < 64):=by omega
     clear hlt hk
     go_wp2_with fail
     go_ret
     exact ⟨by rw [HM.out]; rfl,HB.out⟩
def pfL (l : Int) : Nat:=(l % 65536).toNat % 7
def pfI (l : Int) (i : Nat) : Nat:=i % 64 / 2 ^ pfL l
theorem pf_ok (l : Int) (i : Nat) : pfL l ≤ 6 ∧ pfI l i < 2 ^ (6 - pfL l):=by
 have h1 : pfL l < 7:=Nat.mod_lt _ (by decide)
 refine ⟨by omega,?_⟩
 unfold pfI
 rw [Nat.div_lt_iff_lt_mul (Nat.pow_pos (by decide)),← Nat.pow_add,Nat.sub_add_cancel (by omega)]
 exact Nat.mod_lt _ (by decide)
set_option maxRecDepth 100000 in
set_option maxHeartbeats 1000000 in
theorem prefix_any (l : Int) (i : Nat) (hi : i < 18446744073709551616) (w : World) : Calls Tryz.prog 15 #[.int .i64 l,.int .u64 i] w fun e w' => e = .returned (.agg #[.int .i64 (pfL l),.int .u64 (pfI l i)]) ∧ Below w.heap.size w w':=by
 have hand:=and_65535 l
 have hp : (((l % 65536).toNat : Nat) : Int).tmod 7 = ((pfL l : Nat) : Int):=by unfold pfL; rw [Int.tmod_eq_emod_of_nonneg (by omega)]; omega
 have hp2 : (((l % 65536).toNat : Nat) : Int) % 7 = ((pfL l : Nat) : Int):=by unfold pfL; omega
 have hlo : (0 : Int) ≤ ((l % 65536).toNat : Int):=by omega
 have hlv : pfL l ≤ 6:=(pf_ok l i).1
 have hix : (((i : Int) % 64) / 2 ^ pfL l) = ((pfI l i : Nat) : Int):=by unfold pfI; push_cast; rfl
 have hm : (i : Int).tmod 64 = (i : Int) % 64:=Int.tmod_eq_emod_of_nonneg (by omega)
 have hi0 : (0 : Int) ≤ (i : Int):=by omega
 have hsm : ((pfI l i : Nat) : Int) < 64:=by
   have : pfI l i < 64:=Nat.lt_of_le_of_lt (Nat.div_le_self _ _) (Nat.mod_lt _ (by decide))
   omega
 have hlvI : ((pfL l : Nat) : Int) ≤ 64:=by omega
 have hlv0 : (0 : Int) ≤ ((pfL l : Nat) : Int):=by omega
 have hwl : IntKind.u64.wrap ((pfL l : Nat) : Int) = ((pfL l : Nat) : Int):=IntWalk.u64_in _ ⟨by omega,by omega⟩
 generalize (l % 65536).toNat = u at *
 generalize pfI l i = ix at *
 generalize pfL l = lv at *
 have hx:=heap_alloc_new w (.cells #[.int .i64 0,.int .u64 0] 46)
 have HX:=Lib.hid hx
 have HB:=Lib.hid ((Below.refl w.heap.size w).alloc (Nat.le_refl _) (.cells #[.int .i64 0,.int .u64 0] 46))
 clear hx
 go_enter Tryz.func15,Tryz.ntmps15
 go_wp2_with fail
 have hx2:=heap_alloc_new w (.cells #[.int .i64 lv,.int .u64 ix] 46)
 have r0 : (w.alloc (.cells #[.int .i64 lv,.int .u64 ix] 46)).cell? ⟨w.heap.size,0,none⟩ = some (.int .i64 lv):=(cell_of_row _ _ _ _ _ _ hx2).trans rfl
 have r1 : (w.alloc (.cells #[.int .i64 lv,.int .u64 ix] 46)).cell? ⟨w.heap.size,1,none⟩ = some (.int .u64 ix):=(cell_of_row _ _ _ _ _ _ hx2).trans rfl
 exact bodyPost_ret (v:=.agg #[.int .i64 lv,.int .u64 ix]) (by simp [results,Tryz.results15,go_sem,r0,r1]) rfl ⟨rfl,(Below.refl _ _).alloc (Nat.le_refl _) _⟩
end Go.Proofs.YtejaocnhekjfiaaGreatDoor
namespace Go.Proofs.YtejaocnhekjfiaaGreatDoor
open Go.RowKit
set_option linter.unusedVariables false
def othF (c : Cfg) (F : List Int) (lv ix row n : Nat) : Int:=sg (fun j => if j ≠ ix ∧ c.col lv row j = c.col lv row ix then massF F lv j else 0) n
theorem massF_fit {F : List Int} {b : Int} (hF : FitL b F) (hb0 : 0 ≤ b) (lv j : Nat) : -(64 * b) ≤ massF F lv j ∧ massF F lv j ≤ 64 * b:=massK_fit hF hb0 lv j (Nat.le_refl 64)
theorem othF_fit {c : Cfg} {F : List Int} {b : Int} (hF : FitL b F) (hb0 : 0 ≤ b) (lv ix row : Nat) {n : Nat} (hn : n ≤ 64) : -(4096 * b) ≤ othF c F lv ix row n ∧ othF c F lv ix row n ≤ 4096 * b:=by
 have h1 : -((n : Int) * (64 * b)) ≤ othF c F lv ix row n ∧ othF c F lv ix row n ≤ (n : Int) * (64 * b):=sg_bound fun j _ => by
   have:=massF_fit hF hb0 lv j
   split <;> omega
 have h2 : (n : Int) * (64 * b) ≤ 64 * (64 * b):=Int.mul_le_mul_of_nonneg_right (by omega) (by omega)
 omega
theorem belowN {B : Nat} {w w' : World} (h : Below B w w') (n : Nat) : Below B w (w'.drewN n):=⟨h.os,h.tape,h.output,h.size,h.block⟩
theorem cI_get {cols : List Nat} {i k : Nat} (h : cols[i]? = some k) : (cI cols)[i]? = some (k : Int):=by unfold cI; rw [List.getElem?_map,h]; rfl
theorem colsN_get (c : Cfg) (n key row : Nat) (h : row < c.rows) : (colsN c n key)[row]? = some (c.col n row key):=by
 unfold colsN; rw [List.getElem?_map,List.getElem?_range h]; rfl
set_option maxRecDepth 100000 in
set_option maxHeartbeats 2000000 in
theorem others_any {w : World} {base x a m : Nat} {c : Cfg} {S : List SI} {G : List Int} (h : WIs w base x a m c S G) (hc : c.ok) (h6 : c.bits = 6) (i : Nat) (hi : i < 3) (lv ix row : Nat) (hlv : lv ≤ 6) (hix : ix < 2 ^ (6 - lv)) (hrow : row < c.rows)
   (b : Int) (hG : FitL b G) (hb0 : 0 ≤ b) (hb : b ≤ 35184372088832) :
   Calls Tryz.prog 19 #[.pointer (some ⟨x,0,none⟩),.int .i64 i,.agg #[.int .i64 lv,.int .u64 ix],.int .i64 row] w fun e w' => e = .returned (.int .i64 (othF c (rowG G i) lv ix row (2 ^ (6 - lv)))) ∧ Below w.heap.size w w':=by
 have hb1:=(Below.refl w.heap.size w).alloc (Nat.le_refl _) (.cells #[.int .i64 lv,.int .u64 ix] 46)
 have hx:=heap_alloc_new w (.cells #[.int .i64 lv,.int .u64 ix] 46)
 have hW:=h.keep hb1
 generalize hX : w.alloc (.cells #[.int .i64 lv,.int .u64 ix] 46) = X at *
 have HB:=Lib.hid hb1
 have P:=Lib.hid (show ∀ w',Below X.heap.size X w' → w'.cell? ⟨w.heap.size,0,none⟩ = some (.int .i64 lv) ∧ w'.cell? ⟨w.heap.size,1,none⟩ = some (.int .u64 ix) from fun w' hb =>
   ⟨(hb.cell (p:=⟨w.heap.size,0,none⟩) (lt_of_block hx)).trans ((cell_of_row _ _ _ _ _ _ hx).trans rfl),(hb.cell (p:=⟨w.heap.size,1,none⟩) (lt_of_block hx)).trans ((cell_of_row _ _ _ _ _ _ hx).trans rfl)⟩)
 have C:=Lib.hid (show ∀ w',Below X.heap.size X w' → w'.cell? ⟨x,1,none⟩ = some (.int .i64 c.bits) ∧ w'.cell? ⟨x,2,none⟩ = some (.int .i64 c.rows) ∧ w'.cell? ⟨x,3,none⟩ = some (.int .i64 c.width) ∧ w'.cell? ⟨x,4,none⟩ = some (.int .i64 c.mode) ∧ w'.cell? ⟨x,5,none⟩ = some (.int .u64 c.seed) from fun w' hb => (hW.keep hb).cells.2)
 have KC:=fun key (hk : key < 2 ^ (6 - lv)) w => columnsN_ok c hc lv key (by rw [h6]; exact hlv) (by rw [h6]; exact hk) w
 unfold cfgV NewColsN at KC
 have KC:=Lib.hid KC
 have HIX:=Lib.hid hix
 have hp6 : 2 ^ (6 - lv) ≤ 2 ^ 6:=Nat.pow_le_pow_right (by decide) (by omega)
 have e6 : (2 : Nat) ^ 6 = 64:=by decide
 rw [e6] at hp6
 have KM:=Lib.hid (fun (w' : World) (hb' : Below X.heap.size X w') j (hj : j < 64) => mass_any (hW.keep hb') i hi lv j hlv hj b hG hb0 (by omega))
 have HMF:=Lib.hid (fun j => massF_fit (hG.rowG hb0 i) hb0 lv j)
 have HOF:=Lib.hid (fun n (hn : n ≤ 64) => othF_fit (c:=c) (hG.rowG hb0 i) hb0 lv ix row hn)
 have hsh : (64 : Int) / 2 ^ lv = ((2 ^ (6 - lv) : Nat) : Int):=by
   have h1 : (64 : Nat) / 2 ^ lv = 2 ^ (6 - lv):=by rw [show (64 : Nat) = 2 ^ 6 from rfl,Nat.pow_div hlv (by decide)]
   rw [← h1]; push_cast; rfl
 have hix64 : ix < 64:=by omega
 have HR:=Lib.hid (fun n => show othF c (rowG G i) lv ix row (n + 1) = othF c (rowG G i) lv ix row n + (if n ≠ ix ∧ c.col lv row n = c.col lv row ix then massF (rowG G i) lv n else 0) from rfl)
 have H0:=Lib.hid (show othF c (rowG G i) lv ix row 0 = 0 from rfl)
 have hrI : (row : Int) < (c.rows : Int):=by omega
 have HCG:=Lib.hid (fun key => cI_get (colsN_get c lv key row hrow))
 have r8:=hc.r8
 have hiI : (i : Int) < 3:=by omega
 have hwl : IntKind.u64.wrap (lv : Int) = lv:=IntWalk.u64_in _ ⟨by omega,by omega⟩
 have hlvI : (lv : Int) ≤ 64:=by omega
 have HHB:=Lib.hid hb
 have HNN:=Lib.hid hp6
 generalize 2 ^ (6 - lv) = nn at *
 generalize rowG G i = F at *
 clear h hx hW hb1 e6 hix hG hc h6 hrow hb hb0
 go_enter Tryz.func19,Tryz.ntmps19
 go_wp2_with fail
 clear hX
 have T:=Lib.hid (Below.refl X.heap.size X).drew
 refine wp_region_phase (by kernel_rfl) ?_
 refine wpAnyH_take (i:=0) (oi:=⟨_,_,_,_,_,_⟩) (v:=?vva0) rfl (by kernel_rfl) (by kernel_rfl) (by kernel_rfl) (fun _ _ _ h => h) (Or.inl ⟨by rfl,?yya0⟩) T.out ?_
 case yya0 => (intro w' hw'; go_simp; try with_reducible rfl)
 try simp only [Act.put,List.setIfInBounds_toArray,List.set_cons_zero,List.set_cons_succ]
 refine wpAnyH_take (i:=1) (oi:=⟨_,_,_,_,_,_⟩) (v:=?vva1) rfl (by kernel_rfl) (by kernel_rfl) (by kernel_rfl) (fun _ _ _ h => h) (Or.inl ⟨by rfl,?yya1⟩) T.out ?_
 case yya1 => (intro w' hw'; go_simp; try with_reducible rfl)
 try simp only [Act.put,List.setIfInBounds_toArray,List.set_cons_zero,List.set_cons_succ]
 refine wpAnyH_take (i:=2) (oi:=⟨_,_,_,_,_,_⟩) (v:=?vva2) rfl (by kernel_rfl) (by kernel_rfl) (by kernel_rfl) (fun _ _ _ h => h) (Or.inl ⟨by rfl,?yya2⟩) T.out ?_
 case yya2 => (intro w' hw'; go_simp; try with_reducible rfl)
 try simp only [Act.put,List.setIfInBounds_toArray,List.set_cons_zero,List.set_cons_succ]
 refine wpAnyH_take (i:=3) (oi:=⟨_,_,_,_,_,_⟩) (v:=?vva3) rfl (by kernel_rfl) (by kernel_rfl) (by kernel_rfl) (fun _ _ _ h => h) (Or.inl ⟨by rfl,?yya3⟩) T.out ?_
 case yya3 => (intro w' hw'; have c1:=(C.out w' hw').1; have c2:=(C.out w' hw').2.1; have c3:=(C.out w' hw').2.2.1; have c4:=(C.out w' hw').2.2.2.1; have c5:=(C.out w' hw').2.2.2.2; go_simp; try with_reducible rfl)
 try simp only [Act.put,List.setIfInBounds_toArray,List.set_cons_zero,List.set_cons_succ]
 refine wpAnyH_take (i:=4) (oi:=⟨_,_,_,_,_,_⟩) (v:=?vva4) rfl (by kernel_rfl) (by kernel_rfl) (by kernel_rfl) (fun _ _ _ h => h) (Or.inl ⟨by rfl,?yya4⟩) T.out ?_
 case yya4 => (intro w' hw'; go_simp; try with_reducible rfl)
 try simp only [Act.put,List.setIfInBounds_toArray,List.set_cons_zero,List.set_cons_succ]
 refine wpAnyH_take (i:=5) (oi:=⟨_,_,_,_,_,_⟩) (v:=?vva5) rfl (by kernel_rfl) (by kernel_rfl) (by kernel_rfl) (fun _ _ _ h => h) (Or.inl ⟨by rfl,?yya5⟩) T.out ?_
 case yya5 => (intro w' hw'; have p0:=(P.out w' hw').1; have p1:=(P.out w' hw').2; go_simp; try with_reducible rfl)
 try simp only [Act.put,List.setIfInBounds_toArray,List.set_cons_zero,List.set_cons_succ]
 refine wpAnyH_take (i:=6) (oi:=⟨_,_,_,_,_,_⟩) (v:=?vva6) rfl (by kernel_rfl) (by kernel_rfl) (by kernel_rfl) (fun _ _ _ h => h) (Or.inl ⟨by rfl,?yya6⟩) T.out ?_
 case yya6 => (intro w' hw'; go_simp; try with_reducible rfl)
 try simp only [Act.put,List.setIfInBounds_toArray,List.set_cons_zero,List.set_cons_succ]
 refine wpAnyH_take (i:=7) (oi:=⟨_,_,_,_,_,_⟩) (v:=?vva7) rfl (by kernel_rfl) (by kernel_rfl) (by kernel_rfl) (fun _ _ _ h => h) (Or.inl ⟨by rfl,?yya7⟩) T.out ?_
 case yya7 => (intro w' hw'; have p0:=(P.out w' hw').1; have p1:=(P.out w' hw').2; go_simp; try with_reducible rfl)
 try simp only [Act.put,List.setIfInBounds_toArray,List.set_cons_zero,List.set_cons_succ]
 refine wpAnyH_ready (rs:=[8]) (by kernel_rfl) (by simp) ?_
 refine AllReadyH.cons (o:=⟨_,_,_,_,_,_⟩) rfl (fun K hK => ?_) AllReadyH.nil
 go_simp
 with_reducible refine (KC.out ix HIX.out _).mono ?_
 rintro e w2 ⟨g,rfl,hco,hgl,hb⟩
 have HCO:=Lib.hid hco
 have T:=Lib.hid (T.out.then hb)
 clear hb hco hgl
 refine hK.out _ _ T.out (fun hHeld => ?_)
 clear hK K hHeld
 try simp only [Act.put,List.setIfInBounds_toArray,List.set_cons_zero,List.set_cons_succ]
 refine wpAnyH_take (i:=9) (oi:=⟨_,_,_,_,_,_⟩) (v:=?vva9) rfl (by kernel_rfl) (by kernel_rfl) (by kernel_rfl) (fun _ _ _ h => h) (Or.inl ⟨by rfl,?yya9⟩) T.out ?_
 case yya9 => (intro w' hw'; go_simp; try with_reducible rfl)
 try simp only [Act.put,List.setIfInBounds_toArray,List.set_cons_zero,List.set_cons_succ]
 refine wpAnyH_done (by kernel_rfl) ?_ _
 have TW:=Lib.hid T.out
 obtain ⟨W2,hW2⟩ : ∃ z : World,z = w2:=⟨_,rfl⟩
 subst hW2
 have HO:=Lib.hid (show ∀ w',Below W2.heap.size W2 w' → w'.cell? ⟨g,row,none⟩ = some (.int .i64 (c.col lv row ix)) from fun w' hb => (hb.cell (p:=⟨g,row,none⟩) HCO.out.lt).trans (HCO.out.cell (HCG.out ix)))
 clear HCO
 go_wp2_with fail
 go_loopw [10,11,12] (fun s i8 _ wr => ∃ k : Nat,k ≤ nn ∧ i8 = .int .i64 k ∧ s = .int .i64 (othF c F lv ix row k) ∧ Hid (Below W2.heap.size W2 wr)) (fun _ i8 _ _ => nn - (intOf i8).toNat)
 case atStart => exact ⟨0,Nat.zero_le _,rfl,by rw [H0.out],Lib.hid (by first | exact Below.refl _ _ | exact (Below.refl _ _).drew)⟩
 case round =>
   obtain ⟨k,hk,rfl,rfl,hbw⟩:=hrel
   have TR:=Lib.hid (TW.out.then hbw.out)
   have p0:=(P.out _ TR.out).1
   have p1:=(P.out _ TR.out).2
   by_cases hlt : k < nn
   · have hltI : (k : Int) < (nn : Int):=by omega
     have hkw : IntKind.u64.wrap (k : Int) = k:=IntWalk.u64_in _ ⟨by omega,by omega⟩
     have HLT:=Lib.hid hlt
     go_upto_region 6 with fail
     clear p0 p1
     have P6:=Lib.hid (fun w' (hb : Below wr.heap.size wr w') => P.out w' (TR.out.then hb))
     have C6:=Lib.hid (fun w' (hb : Below wr.heap.size wr w') => C.out w' (TR.out.then hb))
     have T:=Lib.hid (Below.refl wr.heap.size wr).drew
     refine wp_region_phase (by kernel_rfl) ?_
     refine wpAnyH_take (i:=0) (oi:=⟨_,_,_,_,_,_⟩) (v:=?vvb0) rfl (by kernel_rfl) (by kernel_rfl) (by kernel_rfl) (fun _ _ _ h => h) (Or.inl ⟨by rfl,?yyb0⟩) T.out ?_
     case yyb0 => (intro w' hw'; go_simp; try with_reducible rfl)
     try simp only [Act.put,List.setIfInBounds_toArray,List.set_cons_zero,List.set_cons_succ]
     refine wpAnyH_take (i:=1) (oi:=⟨_,_,_,_,_,_⟩) (v:=?vvb1) rfl (by kernel_rfl) (by kernel_rfl) (by kernel_rfl) (fun _ _ _ h => h) (Or.inl ⟨by rfl,?yyb1⟩) T.out ?_
     case yyb1 => (intro w' hw'; go_simp; try with_reducible rfl)
     try simp only [Act.put,List.setIfInBounds_toArray,List.set_cons_zero,List.set_cons_succ]
     refine wpAnyH_take (i:=2) (oi:=⟨_,_,_,_,_,_⟩) (v:=?vvb2) rfl (by kernel_rfl) (by kernel_rfl) (by kernel_rfl) (fun _ _ _ h => h) (Or.inl ⟨by rfl,?yyb2⟩) T.out ?_
     case yyb2 => (intro w' hw'; go_simp; try with_reducible rfl)
     try simp only [Act.put,List.setIfInBounds_toArray,List.set_cons_zero,List.set_cons_succ]
     refine wpAnyH_take (i:=3) (oi:=⟨_,_,_,_,_,_⟩) (v:=?vvb3) rfl (by kernel_rfl) (by kernel_rfl) (by kernel_rfl) (fun _ _ _ h => h) (Or.inl ⟨by rfl,?yyb3⟩) T.out ?_
     case yyb3 => (intro w' hw'; have c1:=(C6.out w' hw').1; have c2:=(C6.out w' hw').2.1; have c3:=(C6.out w' hw').2.2.1; have c4:=(C6.out w' hw').2.2.2.1; have c5:=(C6.out w' hw').2.2.2.2; go_simp; try with_reducible rfl)
     try simp only [Act.put,List.setIfInBounds_toArray,List.set_cons_zero,List.set_cons_succ]
     refine wpAnyH_take (i:=4) (oi:=⟨_,_,_,_,_,_⟩) (v:=?vvb4) rfl (by kernel_rfl) (by kernel_rfl) (by kernel_rfl) (fun _ _ _ h => h) (Or.inl ⟨by rfl,?yyb4⟩) T.out ?_
     case yyb4 => (intro w' hw'; go_simp; try with_reducible rfl)
     try simp only [Act.put,List.setIfInBounds_toArray,List.set_cons_zero,List.set_cons_succ]
     refine wpAnyH_take (i:=5) (oi:=⟨_,_,_,_,_,_⟩) (v:=?vvb5) rfl (by kernel_rfl) (by kernel_rfl) (by kernel_rfl) (fun _ _ _ h => h) (Or.inl ⟨by rfl,?yyb5⟩) T.out ?_
     case yyb5 => (intro w' hw'; have p0:=(P6.out w' hw').1; have p1:=(P6.out w' hw').2; go_simp; try with_reducible rfl)
     try simp only [Act.put,List.setIfInBounds_toArray,List.set_cons_zero,List.set_cons_succ]
     refine wpAnyH_take (i:=6) (oi:=⟨_,_,_,_,_,_⟩) (v:=?vvb6) rfl (by kernel_rfl) (by kernel_rfl) (by kernel_rfl) (fun _ _ _ h => h) (Or.inl ⟨by rfl,?yyb6⟩) T.out ?_
     case yyb6 => (intro w' hw'; go_simp; try with_reducible rfl)
     try simp only [Act.put,List.setIfInBounds_toArray,List.set_cons_zero,List.set_cons_succ]
     refine wpAnyH_take (i:=7) (oi:=⟨_,_,_,_,_,_⟩) (v:=?vvb7) rfl (by kernel_rfl) (by kernel_rfl) (by kernel_rfl) (fun _ _ _ h => h) (Or.inl ⟨by rfl,?yyb7⟩) T.out ?_
     case yyb7 => (intro w' hw'; go_simp; try with_reducible rfl)
     try simp only [Act.put,List.setIfInBounds_toArray,List.set_cons_zero,List.set_cons_succ]
     refine wpAnyH_ready (rs:=[8]) (by kernel_rfl) (by simp) ?_
     refine AllReadyH.cons (o:=⟨_,_,_,_,_,_⟩) rfl (fun K hK => ?_) AllReadyH.nil
     go_simp
     with_reducible refine (KC.out k HLT.out _).mono ?_
     rintro e w3 ⟨g3,rfl,hco,hgl,hb⟩
     have HCO:=Lib.hid hco
     have T:=Lib.hid (T.out.then hb)
     clear hb hco hgl
     refine hK.out _ _ T.out (fun hHeld => ?_)
     clear hK K hHeld
     try simp only [Act.put,List.setIfInBounds_toArray,List.set_cons_zero,List.set_cons_succ]
     refine wpAnyH_take (i:=9) (oi:=⟨_,_,_,_,_,_⟩) (v:=?vvb9) rfl (by kernel_rfl) (by kernel_rfl) (by kernel_rfl) (fun _ _ _ h => h) (Or.inl ⟨by rfl,?yyb9⟩) T.out ?_
     case yyb9 => (intro w' hw'; go_simp; try with_reducible rfl)
     try simp only [Act.put,List.setIfInBounds_toArray,List.set_cons_zero,List.set_cons_succ]
     refine wpAnyH_done (by kernel_rfl) ?_ _
     obtain ⟨W3,hW3⟩ : ∃ z : World,z = w3:=⟨_,rfl⟩
     subst hW3
     have T3:=Lib.hid T.out
     have TR3:=Lib.hid (TR.out.then T3.out)
     have TW3:=Lib.hid (hbw.out.then T3.out)
     go_upto_region 7 with fail
     have e1 : W3.cell? ⟨g3,row,none⟩ = some (.int .i64 (c.col lv row k)):=HCO.out.cell (HCG.out k)
     have e2 : W3.cell? ⟨g,row,none⟩ = some (.int .i64 (c.col lv row ix)):=HO.out _ TW3.out
     have p1:=(P.out _ TR3.out).2
     have q0 : ∀ n,(W3.drewN n).cell? ⟨w.heap.size,0,none⟩ = some (.int .i64 lv):=fun n => (P.out _ TR3.out).1
     have hof:=HOF.out k (by have:=HNN.out; omega)
     have hmf:=HMF.out k
     have hr:=HR.out k
     have hhb:=HHB.out
     have hkI : (k : Int) ≤ 64:=by have:=HNN.out; omega
     clear HCO
     by_cases e : k = ix
     · subst e
       rw [if_neg (fun h => h.1 rfl),Int.add_zero] at hr
       have HN:=Lib.hid hr
       generalize othF c F lv k row k = s0 at *
       clear hr hof hmf
       go_quiet (fail)
       go_wp2_with fail
       go_roundw
       case rel => exact ⟨k + 1,HLT.out,by go_num,by rw [HN.out],Lib.hid (belowN TW3.out _)⟩
       case measure => simp [intOf]; omega
     · have hne : ((k : Int) == (ix : Int)) = false:=by simp; omega
       have hne2 : ((k : Int) != (ix : Int)) = true:=by simp; omega
       by_cases hc2 : c.col lv row k = c.col lv row ix
       · rw [if_pos ⟨e,hc2⟩] at hr
         rw [hc2] at e1
         have hw2 : wrap64 (othF c F lv ix row k + massF F lv k) = othF c F lv ix row k + massF F lv k:=by unfold wrap64; omega
         have HN:=Lib.hid (hw2.trans hr.symm)
         generalize othF c F lv ix row k = s0 at *
         generalize c.col lv row ix = xx at *
         clear hr hof hmf hhb hw2 hc2
         go_quiet (fail)
         go_wp2_with fail
         refine (KM.out _ (belowN TR3.out _) k (by have:=HLT.out; have:=HNN.out; omega)).mono ?_
         rintro e w5 ⟨rfl,hb5⟩
         have TW5:=Lib.hid ((belowN TW3.out _).then hb5)
         clear hb5
         go_wp2_with fail
         rw [HN.out]
         go_roundw
         case rel => exact ⟨k + 1,HLT.out,by go_num,rfl,TW5⟩
         case measure => simp [intOf]; omega
       · rw [if_neg (fun h => hc2 h.2),Int.add_zero] at hr
         have HN:=Lib.hid hr
         have hne3 : (((c.col lv row k : Nat) : Int) == ((c.col lv row ix : Nat) : Int)) = false:=by simp; omega
         generalize c.col lv row ix = xx at *
         generalize c.col lv row k = yy at *
         generalize othF c F lv ix row k = s0 at *
         clear hr hof hmf hhb hc2
         go_quiet (fail)
         go_wp2_with fail
         go_roundw
         case rel => exact ⟨k + 1,HLT.out,by go_num,by rw [HN.out],Lib.hid (belowN TW3.out _)⟩
         case measure => simp [intOf]; omega
   · have hkn : k = nn:=by omega
     have hltI : ¬ ((k : Int) < (nn : Int)):=by omega
     subst hkn
     clear hlt
     go_wp2_with fail
     go_ret
     exact ⟨rfl,HB.out.then TR.out⟩
end Go.Proofs.YtejaocnhekjfiaaGreatDoor
namespace Go.Proofs.YtejaocnhekjfiaaGreatDoor
open Go.RowKit
set_option linter.unusedVariables false
theorem ite_mul (p : Prop) [Decidable p] (x : Int) : (if p then x else 0) = (if p then 1 else 0) * x:=by split <;> simp
theorem cell_split {c : Cfg} (hc : c.ok) (h6 : c.bits = 6) {lv : Nat} (hlv : lv ≤ 6) (hx : c.exact lv = false) (F : List Int) (ix r : Nat) (hr : r < c.rows) :
   cellOf c lv F (r * c.width + c.col lv r ix) = massF F lv ix + othF c F lv ix r (2 ^ (6 - lv)):=by
 obtain ⟨h1,h2,_⟩:=sk_place (n:=lv) (i:=ix) hc hr
 have e1 : cellOf c lv F (r * c.width + c.col lv r ix) = sg (fun k => if c.col lv r (k / 2 ^ lv) = c.col lv r ix then F.getD k 0 else 0) 64:=by
   unfold cellOf
   rw [h6]
   refine sg_congr fun k _ => ?_
   have hh : hit c lv k (r * c.width + c.col lv r ix) = decide (c.col lv r (k / 2 ^ lv) = c.col lv r ix):=by
     unfold hit
     rw [hx,if_neg Bool.false_ne_true,h1,h2]
   rw [hh]
   by_cases e : c.col lv r (k / 2 ^ lv) = c.col lv r ix
   · rw [if_pos (by simpa using e),if_pos e]
   · rw [if_neg (by simpa using e),if_neg e]
 have e2 : othF c F lv ix r (2 ^ (6 - lv)) = sg (fun k => (if k / 2 ^ lv ≠ ix ∧ c.col lv r (k / 2 ^ lv) = c.col lv r ix then 1 else 0) * F.getD k 0) 64:=by
   have hq : ∀ k,k < 64 → k / 2 ^ lv < 2 ^ (6 - lv):=fun k hk => by
     rw [Nat.div_lt_iff_lt_mul (Nat.pow_pos (by decide)),← Nat.pow_add,Nat.sub_add_cancel hlv]; exact hk
   rw [← sg_group (fun k => F.getD k 0) (fun k => k / 2 ^ lv) (fun j => if j ≠ ix ∧ c.col lv r j = c.col lv r ix then 1 else 0) (2 ^ (6 - lv)) 64 hq]
   unfold othF
   refine sg_congr fun j _ => ?_
   rw [ite_mul]; rfl
 rw [e1,e2]
 show _ = sg (fun k => if k / 2 ^ lv = ix then F.getD k 0 else 0) 64 + _
 rw [← sg_add]
 refine sg_congr fun k _ => ?_
 by_cases e : k / 2 ^ lv = ix
 · rw [e,if_pos rfl,if_pos rfl,if_neg (fun h => h.1 rfl)]; simp
 · rw [if_neg e]
   by_cases e3 : c.col lv r (k / 2 ^ lv) = c.col lv r ix
   · rw [if_pos e3,if_pos ⟨e,e3⟩]; simp
   · rw [if_neg e3,if_neg (fun h => e3 h.2)]; simp
theorem exact_cell {c : Cfg} (h6 : c.bits = 6) {lv : Nat} (hx : c.exact lv = true) (F : List Int) (ix : Nat) : cellOf c lv F ix = massF F lv ix:=by
 unfold cellOf
 rw [h6]
 refine sg_congr fun k _ => ?_
 have hh : hit c lv k ix = decide (k / 2 ^ lv = ix):=by unfold hit; rw [if_pos hx]
 rw [hh]
 by_cases e : k / 2 ^ lv = ix
 · rw [if_pos (by simpa using e),if_pos e]
 · rw [if_neg (by simpa using e),if_neg e]
theorem point_exact {c : Cfg} (h6 : c.bits = 6) {lv : Nat} (hlv : lv ≤ 6) (hx : c.exact lv = true) (F : List Int) {ix : Nat} (hix : ix < 2 ^ (6 - lv)) : levPoint c lv (cellsOf c lv F) ix = massF F lv ix:=by
 obtain ⟨e1,e2⟩:=RW_ex hx
 unfold levPoint
 rw [if_pos hx,cellsOf_getD c lv F ix (by rw [e1,e2,h6,Nat.one_mul]; exact hix),exact_cell h6 hx]
theorem read_cells {c : Cfg} (hc : c.ok) (h6 : c.bits = 6) {lv : Nat} (hlv : lv ≤ 6) (hx : c.exact lv = false) (F : List Int) (ix : Nat) :
   skRead c lv (cellsOf c lv F) ix = (List.range c.rows).map fun r => massF F lv ix + othF c F lv ix r (2 ^ (6 - lv)):=by
 obtain ⟨e1,e2⟩:=RW_sk hx
 have hM:=colsN_meet c hc lv ix
 unfold skRead
 refine list_is (by rw [readC_len,hM.len]) fun r hr => ?_
 obtain ⟨_,_,h3⟩:=sk_place (n:=lv) (i:=ix) hc hr
 rw [readC_getD (by rw [hM.len]; exact hr),colsN_getD c lv ix r hr,cellsOf_getD c lv F _ (by rw [e1,e2]; exact h3),cell_split hc h6 hlv hx F ix r hr]
def nearK (f : Nat → Int) (far : Int) : Nat → Nat
 | 0 => 0
 | n + 1 => nearK f far n + if -far ≤ f n ∧ f n ≤ far then 1 else 0
theorem nearK_le (f : Nat → Int) (far : Int) : ∀ n,nearK f far n ≤ n
 | 0 => Nat.le_refl _
 | n + 1 => by
   have:=nearK_le f far n
   rw [nearK]; split <;> omega
theorem near_filter (f : Nat → Int) (m far : Int) : ∀ n,(((List.range n).map fun r => m + f r).filter (fun y => decide (m - far ≤ y) && decide (y ≤ m + far))).length = nearK f far n
 | 0 => rfl
 | n + 1 => by
   rw [List.range_succ,List.map_append,List.filter_append,List.length_append,near_filter f m far n,nearK,List.map_cons,List.map_nil,List.filter_cons,List.filter_nil]
   by_cases h : -far ≤ f n ∧ f n ≤ far
   · rw [if_pos h,if_pos (by simp only [Bool.and_eq_true,decide_eq_true_eq]; omega)]; rfl
   · rw [if_neg h,if_neg (by simp only [Bool.and_eq_true,decide_eq_true_eq]; omega)]; rfl
theorem point_near {c : Cfg} (hc : c.ok) (h6 : c.bits = 6) (hm : c.mode = 3) {lv : Nat} (hlv : lv ≤ 6) (hx : c.exact lv = false) (F : List Int) (ix : Nat) (far : Int) (h : c.rows < 2 * nearK (fun r => othF c F lv ix r (2 ^ (6 - lv))) far c.rows) :
   massF F lv ix - far ≤ levPoint c lv (cellsOf c lv F) ix ∧ levPoint c lv (cellsOf c lv F) ix ≤ massF F lv ix + far:=by
 unfold levPoint skPoint
 rw [if_neg (by rw [hx]; decide),if_pos hm,read_cells hc h6 hlv hx]
 exact midV_near (by rw [near_filter,List.length_map,List.length_range]; exact h)
theorem midV_mem {l : List Int} (h : l ≠ []) : midV l ∈ l:=by
 have hl : 0 < l.length:=List.length_pos_iff.2 h
 have hk : (l.length - 1) / 2 < l.length:=by omega
 have e : midV l = Ord.kth l ((l.length - 1) / 2):=by
   unfold midV S05.kthOf
   rw [S05.mid_eq,if_pos ⟨by omega,by omega⟩,Int.toNat_natCast]
 rw [e]
 exact Ord.kth_mem hk
theorem point_fit {c : Cfg} (hc : c.ok) {lv : Nat} (zs : List Int) {b : Int} (hz : FitL b zs) (hb : 0 ≤ b) (ix : Nat) : -b ≤ levPoint c lv zs ix ∧ levPoint c lv zs ix ≤ b:=by
 have hM:=colsN_meet c hc lv ix
 have hr:=hc.r1
 have hlen : (skRead c lv zs ix).length = c.rows:=by unfold skRead; rw [readC_len,hM.len]
 have hne : skRead c lv zs ix ≠ []:=fun e => by rw [e] at hlen; simp at hlen; omega
 have hall : ∀ x ∈ skRead c lv zs ix,-b ≤ x ∧ x ≤ b:=fun x hx => by
   obtain ⟨r,hr2,e⟩:=List.mem_iff_getElem.1 hx
   have h1 : (skRead c lv zs ix).getD r 0 = x:=by rw [List.getD_eq_getElem?_getD,List.getElem?_eq_getElem hr2,e]; rfl
   unfold skRead at h1
   rw [readC_getD (by rw [hM.len]; omega)] at h1
   rw [← h1]
   exact hz.getD hb _
 unfold levPoint
 split
 · exact hz.getD hb _
 · unfold skPoint
   split
   · exact hall _ (midV_mem hne)
   · exact hall _ (minV_mem hne)
end Go.Proofs.YtejaocnhekjfiaaGreatDoor
namespace Go.Proofs.YtejaocnhekjfiaaGreatDoor
open Go.RowKit
set_option linter.unusedVariables false
open S25 (I64 bAt bAt_get bAt_list)
def valN (ds : List UInt8) : Nat:=ds.foldl (fun a d => a * 10 + (d.toNat - 48)) 0
theorem valN_snoc (ds : List UInt8) (d : UInt8) : valN (ds ++ [d]) = valN ds * 10 + (d.toNat - 48):=by simp [valN]
theorem valN_digits (u : Nat) : valN (Lib.decDigits u) = u:=by
 induction u using Lib.decDigits.induct with
 | case1 u h =>
   rw [Lib.decDigits,dif_pos h]
   show 0 * 10 + ((UInt8.ofNat (48 + u)).toNat - 48) = u
   rw [UInt8.toNat_ofNat']; omega
 | case2 u h ih =>
   rw [Lib.decDigits,dif_neg h,valN_snoc,ih,UInt8.toNat_ofNat']; omega
theorem valN_le (xs : List UInt8) : ∀ ys : List UInt8,valN xs ≤ valN (xs ++ ys)
 | [] => by rw [List.append_nil]; exact Nat.le_refl _
 | y :: ys => by
   have:=valN_le (xs ++ [y]) ys
   rw [List.append_assoc,List.singleton_append] at this
   have h2:=valN_snoc xs y
   omega
theorem digits_head (u : Nat) : u ≠ 0 → ∀ d,(Lib.decDigits u)[0]? = some d → d.toNat ≠ 48:=by
 induction u using Lib.decDigits.induct with
 | case1 u h =>
   intro h0 d hd
   rw [Lib.decDigits,dif_pos h] at hd
   obtain rfl : UInt8.ofNat (48 + u) = d:=by simpa using hd
   rw [UInt8.toNat_ofNat']; omega
 | case2 u h ih =>
   intro h0 d hd
   rw [Lib.decDigits,dif_neg h,List.getElem?_append_left (List.length_pos_iff.2 (S25.decDigits_ne _))] at hd
   exact ih (by omega) d hd
structure DecT (s : ByteArray) (n : Int) (a : Nat) (ds : List UInt8) : Prop where
 size : s.size = a + ds.length
 at_ : ∀ i d,ds[i]? = some d → bAt s (a + i) = d.toNat
 dig : ∀ d ∈ ds,48 ≤ d.toNat ∧ d.toNat ≤ 57
 val : valN ds = n.natAbs
 head : ∀ d,ds[0]? = some d → d.toNat = 48 → ds.length = 1 ∧ a = 0
 ne : 1 ≤ ds.length
 le : ds.length ≤ 19
 sign : a = 1 ∧ n < 0 ∧ bAt s 0 = 45 ∨ a = 0 ∧ 0 ≤ n ∧ bAt s 0 ≠ 45
theorem dec_text (n : Int) (h : I64 n) : ∃ a ds,DecT (numT n) n a ds:=by
 unfold I64 at h
 have hlen : ∀ u,u ≤ 9223372036854775808 → (Lib.decDigits u).length ≤ 19:=fun u hu => by
   rw [Lib.decDigits_length]
   exact nDigits_le 18 u (by omega)
 have hb : ∀ (s : ByteArray) (i : Nat) (d : UInt8),s.data.toList[i]? = some d → bAt s i = d.toNat:=fun s i d hd => by
   have hi : i < s.size:=by
     have:=(List.getElem?_eq_some_iff.1 hd).1
     simpa using this
   have:=bAt_list s i hi
   rw [hd] at this
   unfold S25.bAt
   rw [Option.some.inj this]
 have hne : ∀ u,1 ≤ (Lib.decDigits u).length:=fun u => List.length_pos_iff.2 (S25.decDigits_ne u)
 by_cases hn : n < 0
 · refine ⟨1,Lib.decDigits n.natAbs,?_⟩
   have e : (numT n).data.toList = 45 :: Lib.decDigits n.natAbs:=by unfold numT Lib.itoa; rw [if_pos hn]
   have hs : (numT n).size = (numT n).data.toList.length:=by simp
   refine ⟨by rw [hs,e,List.length_cons]; omega,fun i d hd => hb _ _ _ (by rw [e,Nat.add_comm,List.getElem?_cons_succ]; exact hd),S25.decDigits_mem _,valN_digits _,fun d hd h48 => absurd h48 (digits_head _ (by omega) d hd),hne _,hlen _ (by omega),.inl ⟨rfl,hn,?_⟩⟩
   exact hb _ 0 45 (by rw [e]; rfl)
 · refine ⟨0,Lib.decDigits n.natAbs,?_⟩
   have e : (numT n).data.toList = Lib.decDigits n.natAbs:=by
     unfold numT Lib.itoa; rw [if_neg hn]
     show Lib.decDigits n.toNat = _
     congr 1; omega
   have hs : (numT n).size = (numT n).data.toList.length:=by simp
   refine ⟨by rw [hs,e]; omega,fun i d hd => hb _ _ _ (by rw [e,Nat.zero_add]; exact hd),S25.decDigits_mem _,valN_digits _,fun d hd h48 => ⟨?_,rfl⟩,hne _,hlen _ (by omega),.inr ⟨rfl,by omega,?_⟩⟩
   · have h0 : n.natAbs = 0:=Classical.byContradiction fun hc => digits_head _ hc d hd h48
     rw [h0,Lib.decDigits,dif_pos (by decide)]; rfl
   · obtain ⟨d,hd⟩ : ∃ d,(Lib.decDigits n.natAbs)[0]? = some d:=⟨_,List.getElem?_eq_getElem (hne _)⟩
     rw [hb _ 0 d (by rw [e]; exact hd)]
     have:=S25.decDigits_mem _ d (List.mem_of_getElem? hd)
     omega
set_option maxRecDepth 100000 in
set_option maxHeartbeats 2000000 in
theorem number25_dec (n : Int) (h : I64 n) (s : ByteArray) (a : Nat) (ds : List UInt8) (hd : DecT s n a ds) (w : World) : Calls Tryz.prog 37 #[.string s] w fun e w' => e = .returned (.tuple #[.int .i64 n,.bool true]) ∧ w' = w:=by
 have hI:=h
 unfold I64 at hI
 have hsz:=hd.size
 have hne:=hd.ne
 have hle:=hd.le
 have HD:=Lib.hid hd
 have hA : a ≤ 1:=by rcases hd.sign with ⟨e,_⟩ | ⟨e,_⟩ <;> omega
 have h0s : 0 < s.size:=by omega
 have has : a < s.size:=by omega
 have hg0:=bAt_get s 0 h0s
 have hga:=bAt_get s a has
 have HG:=Lib.hid (fun k (hk : a + k < s.size) => bAt_get s (a + k) hk)
 have HSG:=Lib.hid hd.sign
 have HHD:=Lib.hid hd.head
 obtain ⟨d0,hd0⟩ : ∃ d,ds[0]? = some d:=⟨_,List.getElem?_eq_getElem hne⟩
 have hba : bAt s a = d0.toNat:=hd.at_ 0 d0 hd0
 have HD0:=Lib.hid hd0
 have hdd:=hd.dig d0 (List.mem_of_getElem? hd0)
 have HAT:=Lib.hid hd.at_
 have HDG:=Lib.hid hd.dig
 have HV:=Lib.hid hd.val
 rw [hba] at hga
 clear hd hd0 h HD hba
 generalize hb0 : bAt s 0 = b0 at *
 clear hb0
 have hs0 : (0 : Int) < ((s.size : Nat) : Int):=by omega
 have HSZ:=Lib.hid hsz
 clear hsz
 go_enter Tryz.func37,Tryz.ntmps37
 go_upto_if 14 with fail
 go_cut [4] (fun s4 wx => s4 = .int .i64 (a : Int) ∧ wx = w)
 case first =>
   rcases HSG.out with ⟨e1,_,e2⟩ | ⟨e1,_,e2⟩
   · have g : ((b0 : Int) == 45) = true:=by simp; omega
     subst e1
     clear hga HAT HG HHD
     go_wp2_with fail
     go_meet
     exact ⟨rfl,rfl⟩
   · have g : ((b0 : Int) == 45) = false:=by simp; omega
     subst e1
     clear hga HAT HG HHD
     go_wp2_with fail
     go_meet
     exact ⟨rfl,rfl⟩
 case rest =>
   obtain ⟨rfl,hwc⟩:=hcut
   have hwc:=hwc.symm
   subst hwc
   have HG0:=Lib.hid hg0
   clear hg0
   go_upto_region 4 with fail
   have g1 : ((a : Int) == ((s.size : Nat) : Int)) = false:=by have:=HSZ.out; simp; omega
   have hw1 : IntKind.i64.wrap (((s.size : Nat) : Int) - (a : Int)) = ((s.size : Nat) : Int) - a:=IntWalk.i64_in _ ⟨by have:=HSZ.out; omega,by have:=HSZ.out; omega⟩
   have hw2 : wrap64 (((s.size : Nat) : Int) - (a : Int)) = ((s.size : Nat) : Int) - a:=by have:=HSZ.out; unfold wrap64; omega
   have g2 : ¬ (19 < ((s.size : Nat) : Int) - (a : Int)):=by have:=HSZ.out; omega
   have g2' : decide (19 < ((s.size : Nat) : Int) - (a : Int)) = false:=decide_eq_false g2
   have haI : (a : Int) < ((s.size : Nat) : Int):=by omega
   go_cut [36] (fun c wx => c = .bool false ∧ wx = w)
   case first =>
     by_cases h48 : d0.toNat = 48
     · obtain ⟨e1,e2⟩:=HHD.out d0 HD0.out h48
       have g3 : ((d0.toNat : Int) == 48) = true:=by simp; omega
       have g5 : ¬ (1 < ((s.size : Nat) : Int)):=by have:=HSZ.out; omega
       clear e1 e2
       go_wp2_with fail
       go_meet
       exact ⟨rfl,rfl⟩
     · have g3 : ((d0.toNat : Int) == 48) = false:=by simp; omega
       go_wp2_with fail
       go_meet
       exact ⟨rfl,rfl⟩
   case rest =>
     obtain ⟨rfl,hwc⟩:=hcut
     have hwc:=hwc.symm
     subst hwc
     clear g1 hw1 hw2 g2 g2' hga
     go_wp2_with fail
     have HV0:=Lib.hid (show valN (ds.take 0) = 0 from rfl)
     go_loopw [5,6] (fun n5 i6 wr => ∃ k : Nat,k ≤ ds.length ∧ n5 = .int .u64 (valN (ds.take k)) ∧ i6 = .int .i64 ((a + k : Nat) : Int) ∧ wr = w) (fun _ i6 _ => s.size - (intOf i6).toNat)
     case atStart => exact ⟨0,Nat.zero_le _,by rw [HV0.out]; rfl,rfl,rfl⟩
     case round =>
       obtain ⟨k,hk,rfl,rfl,rfl⟩:=hrel
       by_cases hlt : k < ds.length
       · obtain ⟨d,hd⟩ : ∃ d,ds[k]? = some d:=⟨_,List.getElem?_eq_getElem hlt⟩
         have hks : a + k < s.size:=by have:=HSZ.out; omega
         have hb:=HG.out k hks
         rw [HAT.out k d hd] at hb
         have hdg:=HDG.out d (List.mem_of_getElem? hd)
         have hn : valN (ds.take (k + 1)) = valN (ds.take k) * 10 + (d.toNat - 48):=by rw [List.take_add_one,hd]; exact valN_snoc _ _
         have hle2 : valN (ds.take (k + 1)) ≤ n.natAbs:=by
           have h1:=valN_le (ds.take (k + 1)) (ds.drop (k + 1))
           rw [List.take_append_drop,HV.out] at h1
           exact h1
         have HN:=Lib.hid hn
         generalize valN (ds.take k) = v at *
         generalize hx : d.toNat = x at *
         have i1 : ((a + k : Nat) : Int) < ((s.size : Nat) : Int):=by have:=HSZ.out; omega
         have i0 : (0 : Int) ≤ ((a + k : Nat) : Int):=by omega
         have l1 : ¬ ((x : Int) < 48):=by omega
         have l2 : ¬ (57 < (x : Int)):=by omega
         have w1 : IntKind.u64.wrap ((v : Int) * 10) = (v : Int) * 10:=IntWalk.u64_in _ ⟨by omega,by omega⟩
         have w2 : IntKind.u8.wrap ((x : Int) - 48) = (x : Int) - 48:=IntWalk.u8_in _ ⟨by omega,by omega⟩
         have w3 : IntKind.u64.wrap ((x : Int) - 48) = (x : Int) - 48:=IntWalk.u64_in _ ⟨by omega,by omega⟩
         have w4 : IntKind.u64.wrap ((v : Int) * 10 + ((x : Int) - 48)) = (v : Int) * 10 + ((x : Int) - 48):=IntWalk.u64_in _ ⟨by omega,by omega⟩
         have HNC:=Lib.hid (show (v : Int) * 10 + ((x : Int) - 48) = ((v * 10 + (x - 48) : Nat) : Int) by omega)
         have HLT:=Lib.hid hlt
         have hmb : a + k ≤ 30:=by have:=HSZ.out; omega
         generalize hm : a + k = m at *
         have HM:=Lib.hid hm
         clear hn hle2 hlt hm hx hd
         go_wp2_with fail
         rw [HNC.out]
         go_roundw
         case rel =>
           have hmw : ((m : Int) + 1) = ((a + (k + 1) : Nat) : Int):=by have:=HM.out; omega
           exact ⟨k + 1,HLT.out,by rw [HN.out],by rw [hmw],by trivial⟩
         case measure => simp [intOf]; omega
       · have hkl : k = ds.length:=by omega
         have hv : valN (ds.take k) = n.natAbs:=by rw [hkl,List.take_length]; exact HV.out
         rw [hv]
         have i1 : ¬ (((a + k : Nat) : Int) < ((s.size : Nat) : Int)):=by have:=HSZ.out; omega
         have i2 : ¬ (a + k < s.size):=by have:=HSZ.out; omega
         rcases HSG.out with ⟨e1,e2,_⟩ | ⟨e1,e2,_⟩
         · have hn : n = -((n.natAbs : Nat) : Int):=by omega
           have q1 : IntKind.i64.wrap (IntKind.u64.wrap (-((n.natAbs : Nat) : Int))) = -((n.natAbs : Nat) : Int):=by rw [IntKind.wrap_u64,IntKind.wrap_i64]; omega
           have q2 : ((n.natAbs : Nat) : Int) ≤ 9223372036854775808:=by omega
           have HN:=Lib.hid hn
           subst e1
           generalize n.natAbs = u at *
           generalize 1 + k = m at *
           clear hn hv hkl hlt e2 hI hle hne
           go_wp2_with fail
           go_ret2
           exact ⟨by rw [HN.out]; rfl,by trivial⟩
         · have hn : n = ((n.natAbs : Nat) : Int):=by omega
           have q1 : IntKind.i64.wrap ((n.natAbs : Nat) : Int) = ((n.natAbs : Nat) : Int):=IntWalk.i64_in _ ⟨by omega,by omega⟩
           have q2 : ((n.natAbs : Nat) : Int) ≤ 9223372036854775807:=by omega
           have HN:=Lib.hid hn
           subst e1
           generalize n.natAbs = u at *
           generalize 0 + k = m at *
           clear hn hv hkl hlt e2 hI hle hne
           go_wp2_with fail
           go_ret2
           exact ⟨by rw [HN.out]; rfl,by trivial⟩
theorem number25_any (n : Int) (h : I64 n) (w : World) : Calls Tryz.prog 37 #[.string (numT n)] w fun e w' => e = .returned (.tuple #[.int .i64 n,.bool true]) ∧ w' = w:=by
 obtain ⟨a,ds,hd⟩:=dec_text n h
 exact number25_dec n h _ a ds hd w
set_option maxRecDepth 100000 in
set_option maxHeartbeats 1000000 in
theorem number_any (word : ByteArray) (hw1 : 1 ≤ word.size) (hw : word.size ≤ 1000) (n : Int) (h : I64 n) (w : World) : Calls Tryz.prog 16 #[.string (word ++ numT n),.string word] w fun e w' => e = .returned (.tuple #[.int .i64 n,.bool true]) ∧ w' = w:=by
 have K:=Lib.hid (number25_any n h w)
 have hz:=numT_size n h
 have hz1 : 1 ≤ (numT n).size:=by
   obtain ⟨a,ds,hd⟩:=dec_text n h
   have:=hd.size; have:=hd.ne; omega
 have hsz : (word ++ numT n).size = word.size + (numT n).size:=ByteArray.size_append
 have l1 : word.data.toList.length ≤ word.size:=Nat.le_of_eq (by simp)
 have l2 : (numT n).data.toList.length ≤ (numT n).size:=Nat.le_of_eq (by simp)
 have e1 : (word ++ numT n).extract 0 word.size = word:=by
   apply ByteArray.ext
   simp only [ByteArray.data_extract,ByteArray.data_append]
   apply Array.ext'
   simp
   exact List.take_of_length_le l1
 have e2 : (word ++ numT n).extract word.size (word ++ numT n).size = numT n:=by
   apply ByteArray.ext
   simp only [ByteArray.data_extract,ByteArray.data_append]
   apply Array.ext'
   simp
   rw [List.drop_of_length_le l1,List.take_nil,List.nil_append]
   exact List.take_of_length_le l2
 have h1 : ((word.size : Nat) : Int) < (((word ++ numT n).size : Nat) : Int):=by omega
 have h2 : ¬ ((((word ++ numT n).size : Nat) : Int) ≤ ((word.size : Nat) : Int)):=by omega
 have h3 : (word.size : Nat) ≤ (word ++ numT n).size:=by omega
 have h4 : ((word.toList != word.toList) : Bool) = false:=by simp
 generalize numT n = sn at *
 generalize hc : word ++ sn = s at *
 clear hc hsz hz hz1
 go_enter Tryz.func16,Tryz.ntmps16
 go_wp2_with fail
 refine K.out.mono ?_
 rintro e w1 ⟨rfl,rfl⟩
 go_wp2_with fail
 go_ret2
 exact ⟨rfl,rfl⟩
end Go.Proofs.YtejaocnhekjfiaaGreatDoor
namespace Go.Proofs.YtejaocnhekjfiaaGreatDoor
open Go.RowKit
set_option linter.unusedVariables false
set_option maxRecDepth 100000 in
set_option maxHeartbeats 1000000 in
theorem right63 (c : Cfg) (hc : c.ok) (w : World) : Calls Tryz.prog 63 #[cfgV c] w fun e w' => e = .returned (.bool true) ∧ Below w.heap.size w w':=by
 obtain ⟨b1,b59,r1,r8,w1,w8,m1,m3,s⟩:=hc
 have hx:=heap_alloc_new w (.cells #[.int .i64 c.bits,.int .i64 c.rows,.int .i64 c.width,.int .i64 c.mode,.int .u64 c.seed] 24)
 have HB:=Lib.hid ((Below.refl w.heap.size w).alloc (Nat.le_refl _) (.cells #[.int .i64 c.bits,.int .i64 c.rows,.int .i64 c.width,.int .i64 c.mode,.int .u64 c.seed] 24))
 unfold cfgV
 generalize c.bits = bb at *
 generalize c.rows = rr at *
 generalize c.width = ww at *
 generalize c.mode = md at *
 generalize c.seed = sd at *
 have k1 : (1 : Int) ≤ (bb : Int):=by omega
 have k2 : (bb : Int) ≤ 59:=by omega
 have k3 : (1 : Int) ≤ (rr : Int):=by omega
 have k4 : (rr : Int) ≤ 8:=by omega
 have k5 : (1 : Int) ≤ (ww : Int):=by omega
 have k6 : (ww : Int) ≤ 128:=by omega
 obtain rfl | rfl | rfl : md = 1 ∨ md = 2 ∨ md = 3:=by omega
 all_goals
   generalize hX : w.alloc (.cells #[.int .i64 bb,.int .i64 rr,.int .i64 ww,.int .i64 _,.int .u64 sd] 24) = X at *
   have c0 : X.cell? ⟨w.heap.size,0,none⟩ = some (.int .i64 bb):=(cell_of_row _ _ _ _ _ _ hx).trans rfl
   have c1 : X.cell? ⟨w.heap.size,1,none⟩ = some (.int .i64 rr):=(cell_of_row _ _ _ _ _ _ hx).trans rfl
   have c2 : X.cell? ⟨w.heap.size,2,none⟩ = some (.int .i64 ww):=(cell_of_row _ _ _ _ _ _ hx).trans rfl
   have c3 : X.cell? ⟨w.heap.size,3,none⟩ = some (.int .i64 _):=(cell_of_row _ _ _ _ _ _ hx).trans rfl
   clear hx
   go_enter Tryz.func63,Tryz.ntmps63
   go_wp2_with fail
   go_ret
   exact ⟨rfl,(Below.refl _ _).alloc (Nat.le_refl _) _⟩
set_option maxRecDepth 100000 in
set_option maxHeartbeats 1000000 in
theorem keys38 (c : Cfg) (hc : c.ok) (lv : Nat) (hlv : lv ≤ c.bits) (w : World) : Calls Tryz.prog 38 #[cfgV c,.int .i64 lv] w fun e w' => e = .returned (.int .u64 ((2 ^ (c.bits - lv) : Nat) : Int)) ∧ Below w.heap.size w w':=by
 have K:=Lib.hid (fun w => right63 c hc w)
 have b59:=hc.b59
 have hx:=heap_alloc_new w (.cells #[.int .i64 c.bits,.int .i64 c.rows,.int .i64 c.width,.int .i64 c.mode,.int .u64 c.seed] 24)
 have HB:=Lib.hid ((Below.refl w.heap.size w).alloc (Nat.le_refl _) (.cells #[.int .i64 c.bits,.int .i64 c.rows,.int .i64 c.width,.int .i64 c.mode,.int .u64 c.seed] 24))
 unfold cfgV at *
 generalize c.bits = bb at *
 generalize c.rows = rr at *
 generalize c.width = ww at *
 generalize c.mode = md at *
 generalize c.seed = sd at *
 generalize hX : w.alloc (.cells #[.int .i64 bb,.int .i64 rr,.int .i64 ww,.int .i64 md,.int .u64 sd] 24) = X at *
 have HX:=Lib.hid hx
 have c0 : X.cell? ⟨w.heap.size,0,none⟩ = some (.int .i64 bb):=(cell_of_row _ _ _ _ _ _ hx).trans rfl
 have c1 : X.cell? ⟨w.heap.size,1,none⟩ = some (.int .i64 rr):=(cell_of_row _ _ _ _ _ _ hx).trans rfl
 have c2 : X.cell? ⟨w.heap.size,2,none⟩ = some (.int .i64 ww):=(cell_of_row _ _ _ _ _ _ hx).trans rfl
 have c3 : X.cell? ⟨w.heap.size,3,none⟩ = some (.int .i64 md):=(cell_of_row _ _ _ _ _ _ hx).trans rfl
 have c4 : X.cell? ⟨w.heap.size,4,none⟩ = some (.int .u64 sd):=(cell_of_row _ _ _ _ _ _ hx).trans rfl
 have k1 : ¬ ((bb : Int) < (lv : Int)):=by omega
 have k0 : ¬ ((lv : Int) < 0):=by omega
 clear hx hc
 go_enter Tryz.func38,Tryz.ntmps38
 go_wp2_with fail
 clear hX
 refine (K.out _).mono ?_
 rintro e w1 ⟨rfl,hb⟩
 have HB1:=Lib.hid (HB.out.then hb)
 have hx1:=(hb.block _ (lt_of_block HX.out)).trans HX.out
 clear c0 c1 c2 c3 c4 hb K
 have c0 : w1.cell? ⟨w.heap.size,0,none⟩ = some (.int .i64 bb):=(cell_of_row _ _ _ _ _ _ hx1).trans rfl
 clear hx1
 go_wp2_with fail
 go_loopw [5,6] (fun n i wr => ∃ k : Nat,lv + k ≤ bb ∧ i = .int .i64 ((lv + k : Nat) : Int) ∧ n = .int .u64 ((2 ^ k : Nat) : Int) ∧ wr = w1) (fun _ i _ => bb - (intOf i).toNat)
 case atStart => exact ⟨0,by omega,rfl,rfl,rfl⟩
 case round =>
   obtain ⟨k,hk,rfl,rfl,rfl⟩:=hrel
   have hp : 2 ^ k ≤ 2 ^ 59:=Nat.pow_le_pow_right (by decide) (by omega)
   have e59 : (2 : Nat) ^ 59 = 576460752303423488:=by decide
   rw [e59] at hp
   have HN:=Lib.hid (show (2 ^ k * 2 : Nat) = 2 ^ (k + 1) from (Nat.pow_succ ..).symm)
   have HKB:=Lib.hid (show ¬ lv + k < bb → 2 ^ k = 2 ^ (bb - lv) from fun h => by rw [show bb - lv = k by omega])
   generalize 2 ^ k = q at *
   clear e59
   by_cases hlt : lv + k < bb
   · have hltI : ((lv + k : Nat) : Int) < (bb : Int):=by omega
     have hwq : IntKind.u64.wrap ((q : Int) * 2) = ((q * 2 : Nat) : Int):=by rw [IntWalk.u64_in _ ⟨by omega,by omega⟩]; push_cast; rfl
     generalize hlk : lv + k = m at *
     go_wp2_with fail
     go_roundw
     case rel => exact ⟨k + 1,by omega,by subst hlk; go_num,by rw [← HN.out]; simp,by trivial⟩
     case measure => simp [intOf]; omega
   · have hltI : ¬ (((lv + k : Nat) : Int) < (bb : Int)):=by omega
     have HQ:=Lib.hid (HKB.out hlt)
     generalize lv + k = m at *
     go_wp2_with fail
     go_ret
     exact ⟨by rw [HQ.out]; rfl,HB1.out⟩
set_option maxRecDepth 100000 in
set_option maxHeartbeats 1000000 in
theorem exact18 (c : Cfg) (hc : c.ok) (lv : Nat) (hlv : lv ≤ c.bits) (w : World) : Calls Tryz.prog 18 #[cfgV c,.int .i64 lv] w fun e w' => e = .returned (.bool (c.exact lv)) ∧ Below w.heap.size w w':=by
 have K:=Lib.hid (fun w => keys38 c hc lv hlv w)
 have hp : 2 ^ (c.bits - lv) ≤ 2 ^ 59:=Nat.pow_le_pow_right (by decide) (by have:=hc.b59; omega)
 have e59 : (2 : Nat) ^ 59 = 576460752303423488:=by decide
 rw [e59] at hp
 have hq0 : 1 ≤ 2 ^ (c.bits - lv):=Nat.one_le_two_pow
 have w8:=hc.w8
 have HE:=Lib.hid (show c.exact lv = decide (2 ^ (c.bits - lv) ≤ c.width) from rfl)
 have hx:=heap_alloc_new w (.cells #[.int .i64 c.bits,.int .i64 c.rows,.int .i64 c.width,.int .i64 c.mode,.int .u64 c.seed] 24)
 have HB:=Lib.hid ((Below.refl w.heap.size w).alloc (Nat.le_refl _) (.cells #[.int .i64 c.bits,.int .i64 c.rows,.int .i64 c.width,.int .i64 c.mode,.int .u64 c.seed] 24))
 unfold cfgV at *
 generalize 2 ^ (c.bits - lv) = q at *
 generalize c.exact lv = ex at *
 generalize c.bits = bb at *
 generalize c.rows = rr at *
 generalize c.width = ww at *
 generalize c.mode = md at *
 generalize c.seed = sd at *
 generalize hX : w.alloc (.cells #[.int .i64 bb,.int .i64 rr,.int .i64 ww,.int .i64 md,.int .u64 sd] 24) = X at *
 have HX:=Lib.hid hx
 have c0 : X.cell? ⟨w.heap.size,0,none⟩ = some (.int .i64 bb):=(cell_of_row _ _ _ _ _ _ hx).trans rfl
 have c1 : X.cell? ⟨w.heap.size,1,none⟩ = some (.int .i64 rr):=(cell_of_row _ _ _ _ _ _ hx).trans rfl
 have c2 : X.cell? ⟨w.heap.size,2,none⟩ = some (.int .i64 ww):=(cell_of_row _ _ _ _ _ _ hx).trans rfl
 have c3 : X.cell? ⟨w.heap.size,3,none⟩ = some (.int .i64 md):=(cell_of_row _ _ _ _ _ _ hx).trans rfl
 have c4 : X.cell? ⟨w.heap.size,4,none⟩ = some (.int .u64 sd):=(cell_of_row _ _ _ _ _ _ hx).trans rfl
 clear hx hc e59
 have k0 : (1 : Int) ≤ (q : Int):=by omega
 have hmx : max (ww : Int) 0 = (ww : Int):=by omega
 have hw : IntKind.u64.wrap (ww : Int) = (ww : Int):=IntWalk.u64_in _ ⟨by omega,by omega⟩
 go_enter Tryz.func18,Tryz.ntmps18
 go_wp2_with fail
 clear hX
 refine (K.out _).mono ?_
 rintro e w1 ⟨rfl,hb⟩
 have HB1:=Lib.hid (HB.out.then hb)
 have hx1:=(hb.block _ (lt_of_block HX.out)).trans HX.out
 clear c0 c1 c2 c3 c4 hb K
 have c2 : w1.cell? ⟨w.heap.size,2,none⟩ = some (.int .i64 ww):=(cell_of_row _ _ _ _ _ _ hx1).trans rfl
 clear hx1
 have HD:=Lib.hid (show decide ((q : Int) ≤ (ww : Int)) = ex by rw [HE.out]; exact decide_eq_decide.2 (by omega))
 go_wp2_with fail
 go_ret
 exact ⟨by rw [HE.out]; rfl,HB1.out⟩
end Go.Proofs.YtejaocnhekjfiaaGreatDoor
