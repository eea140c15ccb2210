/- Walks and plain laws, part 12: Wd6 Wd7 Cons Ply Wd10 Wd11 Laid Laid2 Opn Rf Seq. -/
import Derived.Test.YtejaocnhekjfiaaGreatDoorK01
import Derived.Test.YtejaocnhekjfiaaGreatDoorK04
import Derived.Test.YtejaocnhekjfiaaGreatDoorK10
import Derived.Test.YtejaocnhekjfiaaGreatDoorK11
import Derived.Test.YtejaocnhekjfiaaGreatDoorRows
import Derived.LaidMore
import Derived.Lib.LaidU8
import Derived.Lib.LaidTab
import Derived.Stop.LaidErr
import Derived.MakeChecks
import Derived.Lib.SmallJoins
import Derived.Deep.Slices
import Derived.Deep.Fields
import Derived.ChangeSame
import Derived.OpenShut
import Derived.RangeFuncWrites
import Derived.RangeFuncNested
import Derived.RangeFuncBound
namespace Go.Proofs.YtejaocnhekjfiaaGreatDoor
open Go.RowKit
set_option linter.unusedVariables false
open S25 (I64 numLine LineOk Tabs PlainW)
set_option maxRecDepth 100000 in
set_option maxHeartbeats 4000000 in
theorem does_subtract {w : World} {base x a m : Nat} {c : Cfg} {S : List SI} {G : List Int} (h : WIs w base x a m c S G) (hT : Tabs w) (hb10 : 10 ≤ base) (o : OpI) (h3 : o.kind = 4) {s t : SI} (hs : S[hd o.h]? = some s) (ht : S[hd o.o]? = some t) (b : Int)
   (f1 : ∀ zs ∈ s.C,FitL 4611686018427387903 zs) (f2 : ∀ zs ∈ t.C,FitL 4611686018427387903 zs) (hb : 0 ≤ b) (hbD : b ≤ 2305843009213693951) (hG : FitL b G) (hm : c.mode ≠ 2) :
   Calls Tryz.prog 14 #[.pointer (some ⟨x,0,none⟩),opV o] w fun e w' => e = .returned (.bool true) ∧
     WIs w' base x a m c (S.set (hd o.h) { s with C:=List.zipWith (List.zipWith (· - ·)) s.C t.C }) (pairG (· - ·) G (hd o.h) (hd o.o)) ∧ Upd (WB x a m S) w w':=by
 have hb1:=(Below.refl w.heap.size w).alloc (Nat.le_refl _) (.cells #[.int .i64 o.kind,.int .i64 o.h,.int .i64 o.o,.int .u64 o.key,.int .i64 o.d] 42)
 have hbx:=heap_alloc_new w (.cells #[.int .i64 o.kind,.int .i64 o.h,.int .i64 o.o,.int .u64 o.key,.int .i64 o.d] 42)
 have hW1:=h.keep hb1
 have hT1:=hT.below hb1
 unfold opV
 rw [h3] at *
 generalize hW : w.alloc (.cells #[.int .i64 4,.int .i64 o.h,.int .i64 o.o,.int .u64 o.key,.int .i64 o.d] 42) = W1 at hb1 hbx hW1 hT1
 have HW:=Lib.hid hW
 have HX:=Lib.hid (show ∀ w',Below W1.heap.size W1 w' → w'.cell? ⟨w.heap.size,0,none⟩ = some (.int .i64 4) from fun w' hb => (hb.cell (p:=⟨w.heap.size,0,none⟩) (lt_of_block hbx)).trans ((cell_of_row _ _ _ _ _ _ hbx).trans rfl))
 have d0 : W1.cell? ⟨w.heap.size,0,none⟩ = some (.int .i64 4):=(cell_of_row _ _ _ _ _ _ hbx).trans rfl
 have d1 : W1.cell? ⟨w.heap.size,1,none⟩ = some (.int .i64 o.h):=(cell_of_row _ _ _ _ _ _ hbx).trans rfl
 have d2 : W1.cell? ⟨w.heap.size,2,none⟩ = some (.int .i64 o.o):=(cell_of_row _ _ _ _ _ _ hbx).trans rfl
 have HBX:=Lib.hid hbx
 have KH1:=Lib.hid (fun w => handle_any o.h w)
 have KH2:=Lib.hid (fun w => handle_any o.o w)
 have HW1:=Lib.hid hW1
 have HB1:=Lib.hid hb1
 have HT1:=Lib.hid hT1
 have hh3:=hd_lt o.h
 have ho3:=hd_lt o.o
 have HS:=Lib.hid hs
 have HTt:=Lib.hid ht
 have HF1:=Lib.hid f1
 have HF2:=Lib.hid f2
 have HGb:=Lib.hid hG
 generalize hd o.h = i at *
 generalize hd o.o = j at *
 have hok : ((i : Nat) : Int) < 3:=by omega
 have hoj : ((j : Nat) : Int) < 3:=by omega
 clear hb1 hbx hW1 hT1 h hT hs ht f1 f2 hG
 go_enter Tryz.func14,Tryz.ntmps14
 go_wp2_with fail
 clear hW
 refine (KH1.out _).mono ?_
 rintro e w' ⟨rfl,rfl⟩
 go_wp2_with fail
 refine (KH2.out _).mono ?_
 rintro e w' ⟨rfl,rfl⟩
 go_wp2_with fail
 have KT1:=Lib.hid (fun w => text_any ((i : Int) + 1) (i64_handle (by omega)) w)
 have KT2:=Lib.hid (fun w => text_any ((j : Int) + 1) (i64_handle (by omega)) w)
 have hL:=numLine2 vSubtract ((i : Int) + 1) ((j : Int) + 1)
 rw [vSubtract_sp] at hL
 have z1:=numT_size ((i : Int) + 1) ⟨by omega,by omega⟩
 have z2:=numT_size ((j : Int) + 1) ⟨by omega,by omega⟩
 have KL:=fun (w' : World) (hbw : Below W1.heap.size W1 w') => line_subtract (HW1.out.keep hbw).agg (HT1.out.below hbw) (show i < 20 by omega) (show j < 20 by omega) HS.out HTt.out HF1.out HF2.out hm
 simp only [hL] at KL
 generalize numT ((i : Int) + 1) = s1 at *
 generalize numT ((j : Int) + 1) = s2 at *
 have n1 : ¬ 9223372036854775807 < 9 + s1.size:=by omega
 have n2 : ¬ 9223372036854775807 < 9 + s1.size + 1:=by omega
 have n3 : ¬ 9223372036854775807 < 9 + s1.size + 1 + s2.size:=by omega
 have KL:=Lib.hid KL
 clear hL z1 z2
 go_upto_region 7 with fail
 have A0:=Lib.hid (show ∀ w',Below W1.heap.size W1 w' → w'.cell? ⟨x,0,none⟩ = some (.pointer (some ⟨a,0,none⟩)) from fun w' hb => (HW1.out.keep hb).cells.1)
 have T:=Lib.hid (Below.refl W1.heap.size W1).drew
 have hwr : IntKind.i64.wrap ((i : Int) + 1) = (i : Int) + 1:=IntWalk.i64_in _ (by omega)
 have hwk : IntKind.i64.wrap ((j : Int) + 1) = (j : Int) + 1:=IntWalk.i64_in _ (by omega)
 refine wp_region_held (S:=fun w' => w'.cell? ⟨x,0,none⟩ = some (.pointer (some ⟨a,0,none⟩))) (by kernel_rfl) ?_
 refine wpAnyH_take (i:=0) (oi:=⟨_,_,_,_,_,_⟩) (v:=?vvb0) rfl (by kernel_rfl) (by kernel_rfl) (by kernel_rfl) (fun _ _ _ h => h) (Or.inl ⟨by rfl,?yyb0⟩) (A0.out _ T.out) ?_
 case yyb0 => (intro w' hw'; go_simp; try with_reducible rfl)
 try simp only [Act.put,List.setIfInBounds_toArray,List.set_cons_zero,List.set_cons_succ]
 refine wpAnyH_take (i:=1) (oi:=⟨_,_,_,_,_,_⟩) (v:=?vvb1) rfl (by kernel_rfl) (by kernel_rfl) (by kernel_rfl) (fun _ _ _ h => h) (Or.inl ⟨by rfl,?yyb1⟩) (A0.out _ T.out) ?_
 case yyb1 => (intro w' hw'; go_simp; try with_reducible rfl)
 try simp only [Act.put,List.setIfInBounds_toArray,List.set_cons_zero,List.set_cons_succ]
 refine wpAnyH_take (i:=2) (oi:=⟨_,_,_,_,_,_⟩) (v:=?vvb2) rfl (by kernel_rfl) (by kernel_rfl) (by kernel_rfl) (fun _ _ _ h => h) (Or.inl ⟨by rfl,?yyb2⟩) (A0.out _ T.out) ?_
 case yyb2 => (intro w' hw'; go_simp; try with_reducible rfl)
 try simp only [Act.put,List.setIfInBounds_toArray,List.set_cons_zero,List.set_cons_succ]
 refine wpAnyH_take (i:=3) (oi:=⟨_,_,_,_,_,_⟩) (v:=?vvb3) rfl (by kernel_rfl) (by kernel_rfl) (by kernel_rfl) (fun _ _ _ h => h) (Or.inl ⟨by rfl,?yyb3⟩) (A0.out _ T.out) ?_
 case yyb3 => (intro w' hw'; have c0:=hw'; go_simp; try with_reducible rfl)
 try simp only [Act.put,List.setIfInBounds_toArray,List.set_cons_zero,List.set_cons_succ]
 refine wpAnyH_take (i:=4) (oi:=⟨_,_,_,_,_,_⟩) (v:=?vvb4) rfl (by kernel_rfl) (by kernel_rfl) (by kernel_rfl) (fun _ _ _ h => h) (Or.inl ⟨by rfl,?yyb4⟩) (A0.out _ T.out) ?_
 case yyb4 => (intro w' hw'; go_simp; try with_reducible rfl)
 try simp only [Act.put,List.setIfInBounds_toArray,List.set_cons_zero,List.set_cons_succ]
 refine wpAnyH_take (i:=5) (oi:=⟨_,_,_,_,_,_⟩) (v:=?vvb5) rfl (by kernel_rfl) (by kernel_rfl) (by kernel_rfl) (fun _ _ _ h => h) (Or.inl ⟨by rfl,?yyb5⟩) (A0.out _ T.out) ?_
 case yyb5 => (intro w' hw'; go_simp; try with_reducible rfl)
 try simp only [Act.put,List.setIfInBounds_toArray,List.set_cons_zero,List.set_cons_succ]
 refine wpAnyH_take (i:=6) (oi:=⟨_,_,_,_,_,_⟩) (v:=?vvb6) rfl (by kernel_rfl) (by kernel_rfl) (by kernel_rfl) (fun _ _ _ h => h) (Or.inl ⟨by rfl,?yyb6⟩) (A0.out _ T.out) ?_
 case yyb6 => (intro w' hw'; go_simp; try with_reducible rfl)
 try simp only [Act.put,List.setIfInBounds_toArray,List.set_cons_zero,List.set_cons_succ]
 refine wpAnyH_take (i:=10) (oi:=⟨_,_,_,_,_,_⟩) (v:=?vvb10) rfl (by kernel_rfl) (by kernel_rfl) (by kernel_rfl) (fun _ _ _ h => h) (Or.inl ⟨by rfl,?yyb10⟩) (A0.out _ T.out) ?_
 case yyb10 => (intro w' hw'; go_simp; try with_reducible rfl)
 try simp only [Act.put,List.setIfInBounds_toArray,List.set_cons_zero,List.set_cons_succ]
 refine wpAnyH_take (i:=11) (oi:=⟨_,_,_,_,_,_⟩) (v:=?vvb11) rfl (by kernel_rfl) (by kernel_rfl) (by kernel_rfl) (fun _ _ _ h => h) (Or.inl ⟨by rfl,?yyb11⟩) (A0.out _ T.out) ?_
 case yyb11 => (intro w' hw'; go_simp; try with_reducible rfl)
 try simp only [Act.put,List.setIfInBounds_toArray,List.set_cons_zero,List.set_cons_succ]
 refine wpAnyH_ready (rs:=[7]) (by kernel_rfl) (by simp) ?_
 refine AllReadyH.cons (o:=⟨_,_,_,_,_,_⟩) rfl (fun K hK => ?_) AllReadyH.nil
 go_simp
 with_reducible refine (KT1.out _).mono ?_
 rintro e w3 ⟨rfl,hb⟩
 have T:=Lib.hid (T.out.then hb)
 clear hb
 refine hK.out _ _ (A0.out _ T.out) (fun hHeld => ?_)
 clear hK K hHeld
 try simp only [Act.put,List.setIfInBounds_toArray,List.set_cons_zero,List.set_cons_succ]
 refine wpAnyH_take (i:=8) (oi:=⟨_,_,_,_,_,_⟩) (v:=?vvb8) rfl (by kernel_rfl) (by kernel_rfl) (by kernel_rfl) (fun _ _ _ h => h) (Or.inl ⟨by rfl,?yyb8⟩) (A0.out _ T.out) ?_
 case yyb8 => (intro w' hw'; go_simp; try with_reducible rfl)
 try simp only [Act.put,List.setIfInBounds_toArray,List.set_cons_zero,List.set_cons_succ]
 refine wpAnyH_take (i:=9) (oi:=⟨_,_,_,_,_,_⟩) (v:=?vvb9) rfl (by kernel_rfl) (by kernel_rfl) (by kernel_rfl) (fun _ _ _ h => h) (Or.inl ⟨by rfl,?yyb9⟩) (A0.out _ T.out) ?_
 case yyb9 => (intro w' hw'; go_simp; try with_reducible rfl)
 try simp only [Act.put,List.setIfInBounds_toArray,List.set_cons_zero,List.set_cons_succ]
 refine wpAnyH_ready (rs:=[12]) (by kernel_rfl) (by simp) ?_
 refine AllReadyH.cons (o:=⟨_,_,_,_,_,_⟩) rfl (fun K hK => ?_) AllReadyH.nil
 go_simp
 with_reducible refine (KT2.out _).mono ?_
 rintro e w3 ⟨rfl,hb⟩
 have T:=Lib.hid (T.out.then hb)
 clear hb
 refine hK.out _ _ (A0.out _ T.out) (fun hHeld => ?_)
 clear hK K hHeld
 try simp only [Act.put,List.setIfInBounds_toArray,List.set_cons_zero,List.set_cons_succ]
 refine wpAnyH_take (i:=13) (oi:=⟨_,_,_,_,_,_⟩) (v:=?vvb13) rfl (by kernel_rfl) (by kernel_rfl) (by kernel_rfl) (fun _ _ _ h => h) (Or.inl ⟨by rfl,?yyb13⟩) (A0.out _ T.out) ?_
 case yyb13 => (intro w' hw'; go_simp; try with_reducible rfl)
 try simp only [Act.put,List.setIfInBounds_toArray,List.set_cons_zero,List.set_cons_succ]
 refine wpAnyH_ready (rs:=[14]) (by kernel_rfl) (by simp) ?_
 refine AllReadyH.cons (o:=⟨_,_,_,_,_,_⟩) rfl (fun K hK => ?_) AllReadyH.nil
 go_simp
 with_reducible refine (KL.out _ T.out).mono ?_
 rintro e w4 ⟨rfl,hA,hu⟩
 have HW4:=Lib.hid ((HW1.out.keep T.out).line hA hu (by rw [List.length_set]; exact HW1.out.three))
 have HU4:=Lib.hid (((Upd.of_below (S:=WB x a m S) (HB1.out.trans (T.out.mono HB1.out.size))).trans (hu.mono (fun k hk => (Or.inr hk : WB x a m S k)))))
 have A4:=Lib.hid HW4.out.cells.1
 have HXx:=Lib.hid (hu.heap ((T.out.block _ (lt_of_block HBX.out)).trans HBX.out) ((HW1.out.keep T.out).agg.no _ ((T.out.block _ (lt_of_block HBX.out)).trans HBX.out) (by decide) (by decide)))
 clear hA hu
 refine hK.out _ _ A4.out (fun hHeld => ?_)
 clear hK K hHeld
 try simp only [Act.put,List.setIfInBounds_toArray,List.set_cons_zero,List.set_cons_succ]
 refine wpAnyH_take (i:=15) (oi:=⟨_,_,_,_,_,_⟩) (v:=?vvb15) rfl (by kernel_rfl) (by kernel_rfl) (by kernel_rfl) (fun _ _ _ h => h) (Or.inl ⟨by rfl,?yyb15⟩) A4.out ?_
 case yyb15 => (intro w' hw'; go_simp; try with_reducible rfl)
 try simp only [Act.put,List.setIfInBounds_toArray,List.set_cons_zero,List.set_cons_succ]
 refine wpAnyH_take (i:=16) (oi:=⟨_,_,_,_,_,_⟩) (v:=?vvb16) rfl (by kernel_rfl) (by kernel_rfl) (by kernel_rfl) (fun _ _ _ h => h) (Or.inl ⟨by rfl,?yyb16⟩) A4.out ?_
 case yyb16 => (intro w' hw'; go_simp; try with_reducible rfl)
 try simp only [Act.put,List.setIfInBounds_toArray,List.set_cons_zero,List.set_cons_succ]
 refine wpAnyH_take (i:=17) (oi:=⟨_,_,_,_,_,_⟩) (v:=?vvb17) rfl (by kernel_rfl) (by kernel_rfl) (by kernel_rfl) (fun _ _ _ h => h) (Or.inl ⟨by rfl,?yyb17⟩) A4.out ?_
 case yyb17 => (intro w' hw'; go_simp; try with_reducible rfl)
 try simp only [Act.put,List.setIfInBounds_toArray,List.set_cons_zero,List.set_cons_succ]
 refine wpAnyH_take (i:=18) (oi:=⟨_,_,_,_,_,_⟩) (v:=?vvb18) rfl (by kernel_rfl) (by kernel_rfl) (by kernel_rfl) (fun _ _ _ h => h) (Or.inl ⟨by rfl,?yyb18⟩) A4.out ?_
 case yyb18 => (intro w' hw'; go_simp; try with_reducible rfl)
 try simp only [Act.put,List.setIfInBounds_toArray,List.set_cons_zero,List.set_cons_succ]
 refine wpAnyH_take (i:=19) (oi:=⟨_,_,_,_,_,_⟩) (v:=?vvb19) rfl (by kernel_rfl) (by kernel_rfl) (by kernel_rfl) (fun _ _ _ h => h) (Or.inl ⟨by rfl,?yyb19⟩) A4.out ?_
 case yyb19 => (intro w' hw'; go_simp; try with_reducible rfl)
 try simp only [Act.put,List.setIfInBounds_toArray,List.set_cons_zero,List.set_cons_succ]
 refine wpAnyH_done (by kernel_rfl) ?_ _
 clear KT1 KT2 KL n1 n2 n3 hwr hwk A0 A4 d0 d1 d2 HX
 obtain ⟨W4,hW4⟩ : ∃ z : World,z = w4:=⟨_,rfl⟩
 subst hW4
 have d0 : W4.cell? ⟨w.heap.size,0,none⟩ = some (.int .i64 4):=(cell_of_row _ _ _ _ _ _ HXx.out).trans rfl
 have dc:=HW4.out.cells.2.2.2.2.1
 have hbd:=bDone_eq
 have g4 : ((c.mode : Int) == 2) = false:=by simp; omega
 have HR:=Lib.hid (HW4.out.range (i:=j) (by omega))
 have hz:=zero31
 go_upto_region 13 with (first | (refine wpList_load64 rfl (.tmp 70) rfl x (6 + j * 64) rfl _ (rowG_len G j) HR.out ?_) | (refine wpList_store_row rfl 31 (.tmp 10) (.tmp 71) rfl _ (ar64 (rowG G j)) rfl rfl 31 _ (heap_alloc_new _ _) (by rw [ar64_size,rowG_len]; exact info31) (by rw [z64_size,ar64_size,rowG_len]) (ar64_one _) ?_))
 have HR5:=Lib.hid (show RowAt ((W4.alloc (.cells z64 31)).setRow W4.heap.size (ar64 (rowG G j))) W4.heap.size (rowG G j) from setRow_heap _ _ _ _ _ _ (heap_alloc_new W4 (.cells z64 31)))
 have HB5:=Lib.hid (S02.below_row ((Below.refl W4.heap.size W4).alloc (Nat.le_refl _) (.cells z64 31)) (Nat.le_refl _) (ar64 (rowG G j)))
 generalize (W4.alloc (.cells z64 31)).setRow W4.heap.size (ar64 (rowG G j)) = W5 at *
 have HW5:=Lib.hid (HW4.out.keep HB5.out)
 have HXx5:=Lib.hid ((HB5.out.block _ (lt_of_block HXx.out)).trans HXx.out)
 have HU5:=Lib.hid (HU4.out.trans (Upd.of_below HB5.out))
 have HN1:=Lib.hid (show W4.heap.size ≠ x from fun e => by have:=HW4.out.blk; rw [← e] at this; have:=lt_of_block this; omega)
 have HN2:=Lib.hid (show w.heap.size ≠ x from fun e => by have:=HW4.out.blk; rw [← e,HXx.out] at this; simp at this)
 generalize W4.heap.size = B at *
 clear d0 dc hbd hz HR HB5 HU4 HXx HW4 HBX KH1 KH2 HS HTt HF1 HF2 HT1 HW1 HB1
 go_wp2_with fail
 go_loopw [11] (fun u wr => ∃ k : Nat,k ≤ 64 ∧ u = .int .i64 k ∧ Hid (WIs wr base x a m c (S.set i { s with C:=List.zipWith (List.zipWith (· - ·)) s.C t.C }) (stG (· - ·) G (rowG G j) i k)) ∧ Hid (Upd (· = x) W5 wr)) (fun u _ => 64 - (intOf u).toNat)
 case atStart => exact ⟨0,Nat.zero_le _,rfl,Lib.hid (by rw [stG_zero _ _ _ _ HW5.out.len]; exact HW5.out),Lib.hid (Upd.refl _ _)⟩
 case round =>
   obtain ⟨k,hk,rfl,HK,HU⟩:=hrel
   have d0 : wr.cell? ⟨w.heap.size,0,none⟩ = some (.int .i64 4):=(cell_of_row _ _ _ _ _ _ (HU.out.heap HXx5.out HN2.out)).trans rfl
   by_cases hlt : k < 64
   · have hkI : (k : Int) < 64:=by omega
     have hRr : RowAt wr B (rowG G j):=HU.out.heap HR5.out HN1.out
     have hR2 : RowAt wr.drew B (rowG G j):=hRr
     have hg0:=HGb.out.getD hb (64 * i + k)
     have hr0:=(HGb.out.rowG hb j).getD hb k
     have hkey:=HK.out.key (i:=64 * i + k) (by omega)
     rw [stG_next _ _ _ _ _ (by omega)] at hkey
     have hst:=(HK.out.set (i:=64 * i + k) (by omega) (G.getD (64 * i + k) 0 - (rowG G j).getD k 0)).keep (Below.refl _ _).drew
     have hset:=stG_set (· - ·) G (rowG G j) i k (by omega)
     have hset : (stG (· - ·) G (rowG G j) i k).set (64 * i + k) (G.getD (64 * i + k) 0 - (rowG G j).getD k 0) = stG (· - ·) G (rowG G j) i (k + 1):=hset
     rw [hset] at hst
     have hoff : 6 + (64 * i + k) = 6 + i * 64 + k:=by omega
     rw [hoff] at hkey hst
     have e0:=hRr.cell (i:=k) (by rw [rowG_len]; exact hlt)
     have e1:=hR2.cell (i:=k) (by rw [rowG_len]; exact hlt)
     have c2:=HK.out.frozen (6 + i * 64 + k)
     have hU2:=(HU.out.trans (Upd.store (S:=(· = x)) wr x (6 + i * 64 + k) (.int .i64 (G.getD (64 * i + k) 0 - (rowG G j).getD k 0)) rfl)).drew
     clear hset hoff
     generalize G.getD (64 * i + k) 0 = gk at *
     generalize (rowG G j).getD k 0 = rk at *
     have c0:=hkey
     have c1 : wr.drew.cell? ⟨x,6 + i * 64 + k,none⟩ = some (.int .i64 gk):=hkey
     have c3 : wr.drew.frozen? ⟨x,6 + i * 64 + k,none⟩ = false:=c2
     have hwg : IntKind.i64.wrap (gk - rk) = gk - rk:=IntWalk.i64_in _ (by omega)
     have HST:=Lib.hid hst
     have HU2:=Lib.hid hU2
     clear hst hU2 hkey hRr hR2
     go_upto_region 18 with fail
     go_still_tail 19,(by kernel_rfl)
     change wpList _ _ _ _ _ wr.drew
     go_wp2_with fail
     go_roundw
     case rel => exact ⟨k + 1,by omega,by go_num,HST,HU2⟩
     case measure => simp [intOf]; omega
   · have hkk : k = 64:=by omega
     have hfa : decide ((k : Int) < 64) = false:=by simp; omega
     have HF:=Lib.hid (show WIs wr base x a m c (S.set i { s with C:=List.zipWith (List.zipWith (· - ·)) s.C t.C }) (pairG (· - ·) G i j) by have t:=HK.out; rw [hkk] at t; exact t)
     clear hkk
     go_wp2_with fail
     go_ret
     exact ⟨rfl,HF.out,HU5.out.trans (HU.out.mono (fun k hk => Or.inl hk))⟩
end Go.Proofs.YtejaocnhekjfiaaGreatDoor
namespace Go.Proofs.YtejaocnhekjfiaaGreatDoor
open Go.RowKit
set_option linter.unusedVariables false
open S25 (I64 numLine LineOk Tabs PlainW)
set_option maxRecDepth 100000 in
set_option maxHeartbeats 4000000 in
theorem does_subtract_no {w : World} {base x a m : Nat} {c : Cfg} {S : List SI} {G : List Int} (h : WIs w base x a m c S G) (hT : Tabs w) (hb10 : 10 ≤ base) (o : OpI) (h3 : o.kind = 4) {s t : SI} (hs : S[hd o.h]? = some s) (ht : S[hd o.o]? = some t) (b : Int)
   (f1 : ∀ zs ∈ s.C,FitL 4611686018427387903 zs) (f2 : ∀ zs ∈ t.C,FitL 4611686018427387903 zs) (hb : 0 ≤ b) (hbD : b ≤ 2305843009213693951) (hG : FitL b G) (hm : c.mode = 2) :
   Calls Tryz.prog 14 #[.pointer (some ⟨x,0,none⟩),opV o] w fun e w' => e = .returned (.bool true) ∧
     WIs w' base x a m c S G ∧ Below w.heap.size w w':=by
 have hb1:=(Below.refl w.heap.size w).alloc (Nat.le_refl _) (.cells #[.int .i64 o.kind,.int .i64 o.h,.int .i64 o.o,.int .u64 o.key,.int .i64 o.d] 42)
 have hbx:=heap_alloc_new w (.cells #[.int .i64 o.kind,.int .i64 o.h,.int .i64 o.o,.int .u64 o.key,.int .i64 o.d] 42)
 have hW1:=h.keep hb1
 have hT1:=hT.below hb1
 unfold opV
 rw [h3] at *
 generalize hW : w.alloc (.cells #[.int .i64 4,.int .i64 o.h,.int .i64 o.o,.int .u64 o.key,.int .i64 o.d] 42) = W1 at hb1 hbx hW1 hT1
 have HW:=Lib.hid hW
 have HX:=Lib.hid (show ∀ w',Below W1.heap.size W1 w' → w'.cell? ⟨w.heap.size,0,none⟩ = some (.int .i64 4) from fun w' hb => (hb.cell (p:=⟨w.heap.size,0,none⟩) (lt_of_block hbx)).trans ((cell_of_row _ _ _ _ _ _ hbx).trans rfl))
 have d0 : W1.cell? ⟨w.heap.size,0,none⟩ = some (.int .i64 4):=(cell_of_row _ _ _ _ _ _ hbx).trans rfl
 have d1 : W1.cell? ⟨w.heap.size,1,none⟩ = some (.int .i64 o.h):=(cell_of_row _ _ _ _ _ _ hbx).trans rfl
 have d2 : W1.cell? ⟨w.heap.size,2,none⟩ = some (.int .i64 o.o):=(cell_of_row _ _ _ _ _ _ hbx).trans rfl
 have HBX:=Lib.hid hbx
 have KH1:=Lib.hid (fun w => handle_any o.h w)
 have KH2:=Lib.hid (fun w => handle_any o.o w)
 have HW1:=Lib.hid hW1
 have HB1:=Lib.hid hb1
 have HT1:=Lib.hid hT1
 have hh3:=hd_lt o.h
 have ho3:=hd_lt o.o
 have HS:=Lib.hid hs
 have HTt:=Lib.hid ht
 have HF1:=Lib.hid f1
 have HF2:=Lib.hid f2
 have HGb:=Lib.hid hG
 generalize hd o.h = i at *
 generalize hd o.o = j at *
 have hok : ((i : Nat) : Int) < 3:=by omega
 have hoj : ((j : Nat) : Int) < 3:=by omega
 clear hb1 hbx hW1 hT1 h hT hs ht f1 f2 hG
 go_enter Tryz.func14,Tryz.ntmps14
 go_wp2_with fail
 clear hW
 refine (KH1.out _).mono ?_
 rintro e w' ⟨rfl,rfl⟩
 go_wp2_with fail
 refine (KH2.out _).mono ?_
 rintro e w' ⟨rfl,rfl⟩
 go_wp2_with fail
 have KT1:=Lib.hid (fun w => text_any ((i : Int) + 1) (i64_handle (by omega)) w)
 have KT2:=Lib.hid (fun w => text_any ((j : Int) + 1) (i64_handle (by omega)) w)
 have hL:=numLine2 vSubtract ((i : Int) + 1) ((j : Int) + 1)
 rw [vSubtract_sp] at hL
 have z1:=numT_size ((i : Int) + 1) ⟨by omega,by omega⟩
 have z2:=numT_size ((j : Int) + 1) ⟨by omega,by omega⟩
 have KL:=fun (w' : World) (hbw : Below W1.heap.size W1 w') => line_subtract_no (HW1.out.keep hbw).agg (HT1.out.below hbw) (show i < 20 by omega) (show j < 20 by omega) HS.out HTt.out hm
 simp only [hL] at KL
 generalize numT ((i : Int) + 1) = s1 at *
 generalize numT ((j : Int) + 1) = s2 at *
 have n1 : ¬ 9223372036854775807 < 9 + s1.size:=by omega
 have n2 : ¬ 9223372036854775807 < 9 + s1.size + 1:=by omega
 have n3 : ¬ 9223372036854775807 < 9 + s1.size + 1 + s2.size:=by omega
 have KL:=Lib.hid KL
 clear hL z1 z2
 go_upto_region 7 with fail
 have A0:=Lib.hid (show ∀ w',Below W1.heap.size W1 w' → w'.cell? ⟨x,0,none⟩ = some (.pointer (some ⟨a,0,none⟩)) from fun w' hb => (HW1.out.keep hb).cells.1)
 have T:=Lib.hid (Below.refl W1.heap.size W1).drew
 have hwr : IntKind.i64.wrap ((i : Int) + 1) = (i : Int) + 1:=IntWalk.i64_in _ (by omega)
 have hwk : IntKind.i64.wrap ((j : Int) + 1) = (j : Int) + 1:=IntWalk.i64_in _ (by omega)
 refine wp_region_held (S:=fun w' => w'.cell? ⟨x,0,none⟩ = some (.pointer (some ⟨a,0,none⟩))) (by kernel_rfl) ?_
 refine wpAnyH_take (i:=0) (oi:=⟨_,_,_,_,_,_⟩) (v:=?vvb0) rfl (by kernel_rfl) (by kernel_rfl) (by kernel_rfl) (fun _ _ _ h => h) (Or.inl ⟨by rfl,?yyb0⟩) (A0.out _ T.out) ?_
 case yyb0 => (intro w' hw'; go_simp; try with_reducible rfl)
 try simp only [Act.put,List.setIfInBounds_toArray,List.set_cons_zero,List.set_cons_succ]
 refine wpAnyH_take (i:=1) (oi:=⟨_,_,_,_,_,_⟩) (v:=?vvb1) rfl (by kernel_rfl) (by kernel_rfl) (by kernel_rfl) (fun _ _ _ h => h) (Or.inl ⟨by rfl,?yyb1⟩) (A0.out _ T.out) ?_
 case yyb1 => (intro w' hw'; go_simp; try with_reducible rfl)
 try simp only [Act.put,List.setIfInBounds_toArray,List.set_cons_zero,List.set_cons_succ]
 refine wpAnyH_take (i:=2) (oi:=⟨_,_,_,_,_,_⟩) (v:=?vvb2) rfl (by kernel_rfl) (by kernel_rfl) (by kernel_rfl) (fun _ _ _ h => h) (Or.inl ⟨by rfl,?yyb2⟩) (A0.out _ T.out) ?_
 case yyb2 => (intro w' hw'; go_simp; try with_reducible rfl)
 try simp only [Act.put,List.setIfInBounds_toArray,List.set_cons_zero,List.set_cons_succ]
 refine wpAnyH_take (i:=3) (oi:=⟨_,_,_,_,_,_⟩) (v:=?vvb3) rfl (by kernel_rfl) (by kernel_rfl) (by kernel_rfl) (fun _ _ _ h => h) (Or.inl ⟨by rfl,?yyb3⟩) (A0.out _ T.out) ?_
 case yyb3 => (intro w' hw'; have c0:=hw'; go_simp; try with_reducible rfl)
 try simp only [Act.put,List.setIfInBounds_toArray,List.set_cons_zero,List.set_cons_succ]
 refine wpAnyH_take (i:=4) (oi:=⟨_,_,_,_,_,_⟩) (v:=?vvb4) rfl (by kernel_rfl) (by kernel_rfl) (by kernel_rfl) (fun _ _ _ h => h) (Or.inl ⟨by rfl,?yyb4⟩) (A0.out _ T.out) ?_
 case yyb4 => (intro w' hw'; go_simp; try with_reducible rfl)
 try simp only [Act.put,List.setIfInBounds_toArray,List.set_cons_zero,List.set_cons_succ]
 refine wpAnyH_take (i:=5) (oi:=⟨_,_,_,_,_,_⟩) (v:=?vvb5) rfl (by kernel_rfl) (by kernel_rfl) (by kernel_rfl) (fun _ _ _ h => h) (Or.inl ⟨by rfl,?yyb5⟩) (A0.out _ T.out) ?_
 case yyb5 => (intro w' hw'; go_simp; try with_reducible rfl)
 try simp only [Act.put,List.setIfInBounds_toArray,List.set_cons_zero,List.set_cons_succ]
 refine wpAnyH_take (i:=6) (oi:=⟨_,_,_,_,_,_⟩) (v:=?vvb6) rfl (by kernel_rfl) (by kernel_rfl) (by kernel_rfl) (fun _ _ _ h => h) (Or.inl ⟨by rfl,?yyb6⟩) (A0.out _ T.out) ?_
 case yyb6 => (intro w' hw'; go_simp; try with_reducible rfl)
 try simp only [Act.put,List.setIfInBounds_toArray,List.set_cons_zero,List.set_cons_succ]
 refine wpAnyH_take (i:=10) (oi:=⟨_,_,_,_,_,_⟩) (v:=?vvb10) rfl (by kernel_rfl) (by kernel_rfl) (by kernel_rfl) (fun _ _ _ h => h) (Or.inl ⟨by rfl,?yyb10⟩) (A0.out _ T.out) ?_
 case yyb10 => (intro w' hw'; go_simp; try with_reducible rfl)
 try simp only [Act.put,List.setIfInBounds_toArray,List.set_cons_zero,List.set_cons_succ]
 refine wpAnyH_take (i:=11) (oi:=⟨_,_,_,_,_,_⟩) (v:=?vvb11) rfl (by kernel_rfl) (by kernel_rfl) (by kernel_rfl) (fun _ _ _ h => h) (Or.inl ⟨by rfl,?yyb11⟩) (A0.out _ T.out) ?_
 case yyb11 => (intro w' hw'; go_simp; try with_reducible rfl)
 try simp only [Act.put,List.setIfInBounds_toArray,List.set_cons_zero,List.set_cons_succ]
 refine wpAnyH_ready (rs:=[7]) (by kernel_rfl) (by simp) ?_
 refine AllReadyH.cons (o:=⟨_,_,_,_,_,_⟩) rfl (fun K hK => ?_) AllReadyH.nil
 go_simp
 with_reducible refine (KT1.out _).mono ?_
 rintro e w3 ⟨rfl,hb⟩
 have T:=Lib.hid (T.out.then hb)
 clear hb
 refine hK.out _ _ (A0.out _ T.out) (fun hHeld => ?_)
 clear hK K hHeld
 try simp only [Act.put,List.setIfInBounds_toArray,List.set_cons_zero,List.set_cons_succ]
 refine wpAnyH_take (i:=8) (oi:=⟨_,_,_,_,_,_⟩) (v:=?vvb8) rfl (by kernel_rfl) (by kernel_rfl) (by kernel_rfl) (fun _ _ _ h => h) (Or.inl ⟨by rfl,?yyb8⟩) (A0.out _ T.out) ?_
 case yyb8 => (intro w' hw'; go_simp; try with_reducible rfl)
 try simp only [Act.put,List.setIfInBounds_toArray,List.set_cons_zero,List.set_cons_succ]
 refine wpAnyH_take (i:=9) (oi:=⟨_,_,_,_,_,_⟩) (v:=?vvb9) rfl (by kernel_rfl) (by kernel_rfl) (by kernel_rfl) (fun _ _ _ h => h) (Or.inl ⟨by rfl,?yyb9⟩) (A0.out _ T.out) ?_
 case yyb9 => (intro w' hw'; go_simp; try with_reducible rfl)
 try simp only [Act.put,List.setIfInBounds_toArray,List.set_cons_zero,List.set_cons_succ]
 refine wpAnyH_ready (rs:=[12]) (by kernel_rfl) (by simp) ?_
 refine AllReadyH.cons (o:=⟨_,_,_,_,_,_⟩) rfl (fun K hK => ?_) AllReadyH.nil
 go_simp
 with_reducible refine (KT2.out _).mono ?_
 rintro e w3 ⟨rfl,hb⟩
 have T:=Lib.hid (T.out.then hb)
 clear hb
 refine hK.out _ _ (A0.out _ T.out) (fun hHeld => ?_)
 clear hK K hHeld
 try simp only [Act.put,List.setIfInBounds_toArray,List.set_cons_zero,List.set_cons_succ]
 refine wpAnyH_take (i:=13) (oi:=⟨_,_,_,_,_,_⟩) (v:=?vvb13) rfl (by kernel_rfl) (by kernel_rfl) (by kernel_rfl) (fun _ _ _ h => h) (Or.inl ⟨by rfl,?yyb13⟩) (A0.out _ T.out) ?_
 case yyb13 => (intro w' hw'; go_simp; try with_reducible rfl)
 try simp only [Act.put,List.setIfInBounds_toArray,List.set_cons_zero,List.set_cons_succ]
 refine wpAnyH_ready (rs:=[14]) (by kernel_rfl) (by simp) ?_
 refine AllReadyH.cons (o:=⟨_,_,_,_,_,_⟩) rfl (fun K hK => ?_) AllReadyH.nil
 go_simp
 with_reducible refine (KL.out _ T.out).mono ?_
 rintro e w4 ⟨rfl,hA,hu⟩
 have HW4:=Lib.hid ((HW1.out.keep T.out).keep hu)
 have HU4:=Lib.hid (HB1.out.trans ((T.out.then hu).mono HB1.out.size))
 have A4:=Lib.hid HW4.out.cells.1
 have HXx:=Lib.hid ((hu.block _ (lt_of_block ((T.out.block _ (lt_of_block HBX.out)).trans HBX.out))).trans ((T.out.block _ (lt_of_block HBX.out)).trans HBX.out))
 clear hA hu
 refine hK.out _ _ A4.out (fun hHeld => ?_)
 clear hK K hHeld
 try simp only [Act.put,List.setIfInBounds_toArray,List.set_cons_zero,List.set_cons_succ]
 refine wpAnyH_take (i:=15) (oi:=⟨_,_,_,_,_,_⟩) (v:=?vvb15) rfl (by kernel_rfl) (by kernel_rfl) (by kernel_rfl) (fun _ _ _ h => h) (Or.inl ⟨by rfl,?yyb15⟩) A4.out ?_
 case yyb15 => (intro w' hw'; go_simp; try with_reducible rfl)
 try simp only [Act.put,List.setIfInBounds_toArray,List.set_cons_zero,List.set_cons_succ]
 refine wpAnyH_take (i:=16) (oi:=⟨_,_,_,_,_,_⟩) (v:=?vvb16) rfl (by kernel_rfl) (by kernel_rfl) (by kernel_rfl) (fun _ _ _ h => h) (Or.inl ⟨by rfl,?yyb16⟩) A4.out ?_
 case yyb16 => (intro w' hw'; go_simp; try with_reducible rfl)
 try simp only [Act.put,List.setIfInBounds_toArray,List.set_cons_zero,List.set_cons_succ]
 refine wpAnyH_take (i:=17) (oi:=⟨_,_,_,_,_,_⟩) (v:=?vvb17) rfl (by kernel_rfl) (by kernel_rfl) (by kernel_rfl) (fun _ _ _ h => h) (Or.inl ⟨by rfl,?yyb17⟩) A4.out ?_
 case yyb17 => (intro w' hw'; go_simp; try with_reducible rfl)
 try simp only [Act.put,List.setIfInBounds_toArray,List.set_cons_zero,List.set_cons_succ]
 refine wpAnyH_take (i:=18) (oi:=⟨_,_,_,_,_,_⟩) (v:=?vvb18) rfl (by kernel_rfl) (by kernel_rfl) (by kernel_rfl) (fun _ _ _ h => h) (Or.inl ⟨by rfl,?yyb18⟩) A4.out ?_
 case yyb18 => (intro w' hw'; go_simp; try with_reducible rfl)
 try simp only [Act.put,List.setIfInBounds_toArray,List.set_cons_zero,List.set_cons_succ]
 refine wpAnyH_take (i:=19) (oi:=⟨_,_,_,_,_,_⟩) (v:=?vvb19) rfl (by kernel_rfl) (by kernel_rfl) (by kernel_rfl) (fun _ _ _ h => h) (Or.inl ⟨by rfl,?yyb19⟩) A4.out ?_
 case yyb19 => (intro w' hw'; go_simp; try with_reducible rfl)
 try simp only [Act.put,List.setIfInBounds_toArray,List.set_cons_zero,List.set_cons_succ]
 refine wpAnyH_done (by kernel_rfl) ?_ _
 clear KT1 KT2 KL n1 n2 n3 hwr hwk A0 A4 d0 d1 d2 HX
 obtain ⟨W4,hW4⟩ : ∃ z : World,z = w4:=⟨_,rfl⟩
 subst hW4
 have d0 : W4.cell? ⟨w.heap.size,0,none⟩ = some (.int .i64 4):=(cell_of_row _ _ _ _ _ _ HXx.out).trans rfl
 have dc:=HW4.out.cells.2.2.2.2.1
 have hbd:=errT3_eq
 have g4 : ((c.mode : Int) == 2) = true:=by simp; omega
 go_wp2_with fail
 go_ret
 exact ⟨rfl,HW4.out,HU4.out⟩
end Go.Proofs.YtejaocnhekjfiaaGreatDoor
namespace Go.Proofs.YtejaocnhekjfiaaGreatDoor
open Go.RowKit
set_option linter.unusedVariables false
theorem minV_le {l : List Int} {x : Int} (hx : x ∈ l) : minV l ≤ x:=by
 have hl : 0 < l.length:=List.length_pos_of_mem hx
 unfold minV S05.kthOf
 rw [if_pos ⟨by omega,by omega⟩]
 have h:=(Ord.kth_is (l:=l) (k:=0) hl).lo
 have h0 : Ord.below l (Ord.kth l (Int.toNat 0)) = 0:=Nat.le_zero.1 h
 unfold Ord.below at h0
 rw [List.length_eq_zero_iff,List.filter_eq_nil_iff] at h0
 have:=h0 x hx
 simp only [decide_eq_true_eq,Int.not_lt] at this
 exact this
theorem getD_mem {l : List Int} {i : Nat} (h : i < l.length) : l.getD i 0 ∈ l:=by
 rw [List.getD_eq_getElem?_getD,List.getElem?_eq_getElem h]; exact List.getElem_mem h
theorem minV_mono {l m : List Int} (hl : l.length = m.length) (hne : l ≠ []) (h : ∀ i,i < l.length → l.getD i 0 ≤ m.getD i 0) : minV l ≤ minV m:=by
 have hm : m ≠ []:=fun e => hne (List.length_eq_zero_iff.1 (by rw [hl,e]; rfl))
 obtain ⟨i,hi,e⟩:=List.mem_iff_getElem.1 (minV_mem hm)
 have h1:=h i (by omega)
 have h2:=minV_le (getD_mem (l:=l) (i:=i) (by omega))
 have h3 : m.getD i 0 = minV m:=by rw [List.getD_eq_getElem?_getD,List.getElem?_eq_getElem hi,e]; rfl
 omega
theorem filter_len (p q : Int → Bool) (h : ∀ y,p y = true → q y = false) : ∀ l : List Int,(l.filter p).length + (l.filter q).length ≤ l.length
 | [] => Nat.le_refl _
 | a :: l => by
   have:=filter_len p q h l
   rw [List.filter_cons,List.filter_cons]
   have ha:=h a
   cases hp : p a with
   | true => rw [if_pos rfl,if_neg (by rw [ha hp]; decide)]; simp only [List.length_cons]; omega
   | false => rw [if_neg (by decide)]; split <;> simp only [List.length_cons] <;> omega
theorem midV_near {l : List Int} {a b : Int} (h : l.length < 2 * (l.filter (fun y => decide (a ≤ y) && decide (y ≤ b))).length) : a ≤ midV l ∧ midV l ≤ b:=by
 have hle : (l.filter (fun y => decide (a ≤ y) && decide (y ≤ b))).length ≤ l.length:=List.length_filter_le _ _
 have hl : 0 < l.length:=by omega
 have hk : (l.length - 1) / 2 < l.length:=by omega
 have e : midV l = Ord.kth l ((l.length - 1) / 2):=by
   unfold midV S05.kthOf
   rw [S05.mid_eq,if_pos ⟨by omega,by omega⟩,Int.toNat_natCast]
 rw [e]
 have hi:=Ord.kth_is hk
 generalize Ord.kth l ((l.length - 1) / 2) = x at *
 constructor
 · rcases Int.lt_or_le x a with hx | hx
   · have h1:=hi.hi
     unfold Ord.upto at h1
     have:=filter_len (· ≤ x) (fun y => decide (a ≤ y) && decide (y ≤ b)) (fun y hy => by simp only [decide_eq_true_eq] at hy; rw [decide_eq_false (by omega)]; rfl) l
     omega
   · exact hx
 · rcases Int.lt_or_le b x with hx | hx
   · have h1:=hi.lo
     unfold Ord.below at h1
     have h2 : (l.filter (fun y => decide (a ≤ y) && decide (y ≤ b))).length ≤ (l.filter (· < x)).length:=by
       rw [← List.countP_eq_length_filter,← List.countP_eq_length_filter]
       exact List.countP_mono_left fun y _ hy => by simp only [Bool.and_eq_true,decide_eq_true_eq] at hy ⊢; omega
     omega
   · exact hx
def massP (c : Cfg) (F : List Int) (n i : Nat) : Int:=sg (fun k => if k / 2 ^ n = i then F.getD k 0 else 0) (2 ^ c.bits)
theorem massP_bump (c : Cfg) (n : Nat) (F : List Int) (k : Nat) (d : Int) (hk : k < F.length) (hb : k < 2 ^ c.bits) (i : Nat) :
   massP c (bump F k d) n i = massP c F n i + if k / 2 ^ n = i then d else 0:=by
 unfold massP
 rw [show (if k / 2 ^ n = i then d else 0) = sg (fun j => if j = k then (if k / 2 ^ n = i then d else 0) else 0) (2 ^ c.bits) by rw [sg_one,if_pos hb],← sg_add]
 refine sg_congr fun j _ => ?_
 rw [bump_getD F k d hk]
 by_cases h : j = k
 · subst h; rw [if_pos rfl,if_pos rfl]; split <;> simp
 · rw [if_neg h,if_neg h,Int.add_zero,Int.add_zero]
theorem massP_add (c : Cfg) (n : Nat) (F G H : List Int) (h : ∀ i,i < 2 ^ c.bits → H.getD i 0 = F.getD i 0 + G.getD i 0) (i : Nat) : massP c H n i = massP c F n i + massP c G n i:=by
 unfold massP
 rw [← sg_add]
 exact sg_congr fun i hi => by rw [h i hi]; split <;> simp
def hitP (c : Cfg) (n i p : Nat) : Bool:=if c.exact n = true then decide (i = p) else decide (c.col n (p / c.width) i = p % c.width)
structure ConsOk (c : Cfg) (F : List Int) (C : List (List Int)) : Prop where
 len : C.length = c.bits + 1
 lens : ∀ n zs,C[n]? = some zs → zs.length = c.R n * c.W n
 lo : ∀ n zs,C[n]? = some zs → ∀ i p,i < 2 ^ (c.bits - n) → p < c.R n * c.W n → hitP c n i p = true → massP c F n i ≤ zs.getD p 0
 hi : ∀ n zs,C[n]? = some zs → ∀ p,p < c.R n * c.W n → zs.getD p 0 ≤ cellOf c n F p
theorem riseC_getD {W : Nat} {zs : List Int} {cols : List Nat} {n : Int} {R : Nat} (hl : zs.length = R * W) (hm : Meet cols R W) (p : Nat) (hp : p < R * W) :
    ∀ k, k ≤ R → (riseC W zs cols n k).getD p 0 = if p / W < k ∧ cols.getD (p / W) 0 = p % W then max (zs.getD p 0) n else zs.getD p 0
  | 0, _ => by rw [riseC, if_neg (fun h => Nat.not_lt_zero _ h.1)]
  | k + 1, hk => by
    have hW : 0 < W := by rcases Nat.eq_zero_or_pos W with e | e; · subst e; simp at hp
                          · exact e
    obtain ⟨x, hx, hxw⟩ := hm.at_ (show k < R by omega)
    have hxd : cols.getD k 0 = x := by rw [List.getD_eq_getElem?_getD, hx]; rfl
    have ih := riseC_getD (n := n) hl hm p hp k (by omega)
    rw [riseC, hxd]
    by_cases e : k * W + x = p
    · obtain ⟨e1, e2⟩ := (divmod_iff hW hxw).1 e
      rw [if_neg (by omega)] at ih
      rw [if_pos ⟨by omega, by rw [e1, hxd, e2]⟩, e, riseAt, ih]
      by_cases h : zs.getD p 0 < n
      · rw [if_pos h, List.getD_eq_getElem?_getD, List.getElem?_set_self (by rw [riseC_len, hl]; exact hp), Int.max_eq_right (by omega)]; rfl
      · rw [if_neg h, ih, Int.max_eq_left (by omega)]
    · have h0 : (riseAt (riseC W zs cols n k) (k * W + x) n).getD p 0 = (riseC W zs cols n k).getD p 0 := by
        unfold riseAt
        split
        · rw [List.getD_eq_getElem?_getD, List.getElem?_set_ne e, ← List.getD_eq_getElem?_getD]
        · rfl
      rw [h0, ih]
      have : (p / W < k + 1 ∧ cols.getD (p / W) 0 = p % W) ↔ (p / W < k ∧ cols.getD (p / W) 0 = p % W) := by
        constructor
        · rintro ⟨h1, h2⟩
          refine ⟨?_, h2⟩
          rcases Nat.lt_or_ge (p / W) k with h3 | h3
          · exact h3
          · have h4 : p / W = k := by omega
            rw [h4, hxd] at h2
            exact absurd ((divmod_iff hW hxw).2 ⟨h4, h2.symm⟩) e
        · rintro ⟨h1, h2⟩; exact ⟨by omega, h2⟩
      exact (ite_iff this _ _).symm
theorem sk_place {c : Cfg} {n i r : Nat} (hc : c.ok) (hr : r < c.rows) : (r * c.width + c.col n r i) / c.width = r ∧ (r * c.width + c.col n r i) % c.width = c.col n r i ∧ r * c.width + c.col n r i < c.rows * c.width:=by
 have hx:=c.col_lt hc n r i
 obtain ⟨h1,h2⟩:=(divmod_iff (p:=r * c.width + c.col n r i) (Nat.lt_of_lt_of_le Nat.zero_lt_one hc.w1) hx).1 rfl
 refine ⟨h1,h2,?_⟩
 calc r * c.width + c.col n r i < r * c.width + c.width:=by omega
   _ = (r + 1) * c.width:=by rw [Nat.add_mul,Nat.one_mul]
   _ ≤ c.rows * c.width:=Nat.mul_le_mul_right _ hr
theorem levUpd_cons {c : Cfg} (hc : c.ok) (hm : c.mode = 2) {n key : Nat} (hn : n ≤ c.bits) (hk : key < 2 ^ c.bits) {zs : List Int} (hl : zs.length = c.R n * c.W n) {d m : Int} (hd : 0 ≤ d)
   (hlo : ∀ p,p < c.R n * c.W n → hit c n key p = true → m ≤ zs.getD p 0) (p : Nat) (hp : p < c.R n * c.W n) :
   (hit c n key p = true → m + d ≤ (levUpd c n zs (key / 2 ^ n) d).getD p 0 ∧ zs.getD p 0 ≤ (levUpd c n zs (key / 2 ^ n) d).getD p 0 ∧ (levUpd c n zs (key / 2 ^ n) d).getD p 0 ≤ zs.getD p 0 + d) ∧
   (hit c n key p = false → (levUpd c n zs (key / 2 ^ n) d).getD p 0 = zs.getD p 0):=by
 unfold levUpd
 cases hx : c.exact n with
 | true =>
   have hkd:=key_div hk hn
   have hh : hit c n key p = decide (key / 2 ^ n = p):=by unfold hit; rw [if_pos hx]
   have hlo':=hlo p hp
   rw [hh] at hlo' ⊢
   obtain ⟨e1,e2⟩:=RW_ex hx
   rw [e1,e2,Nat.one_mul] at hl hp
   rw [if_pos rfl]
   unfold exUpd
   by_cases e : key / 2 ^ n = p
   · have h0 : (zs.set (key / 2 ^ n) (zs.getD (key / 2 ^ n) 0 + d)).getD p 0 = zs.getD p 0 + d:=by
       rw [e,List.getD_eq_getElem?_getD,List.getElem?_set_self (by omega)]; rfl
     have:=hlo' (by simpa using e)
     rw [h0]
     exact ⟨fun _ => ⟨by omega,by omega,by omega⟩,fun h => by simp [e] at h⟩
   · have h0 : (zs.set (key / 2 ^ n) (zs.getD (key / 2 ^ n) 0 + d)).getD p 0 = zs.getD p 0:=by
       rw [List.getD_eq_getElem?_getD,List.getElem?_set_ne e,← List.getD_eq_getElem?_getD]
     exact ⟨fun h => by simp [e] at h,fun _ => h0⟩
 | false =>
   obtain ⟨e1,e2⟩:=RW_sk hx
   have hh : ∀ p,hit c n key p = decide (c.col n (p / c.width) (key / 2 ^ n) = p % c.width):=fun p => by unfold hit; rw [if_neg (by rw [hx]; decide)]
   rw [hh p]
   have hlo' : ∀ r,r < c.rows → m ≤ zs.getD (r * c.width + c.col n r (key / 2 ^ n)) 0:=fun r hr => by
     obtain ⟨h1,h2,h3⟩:=sk_place (n:=n) (i:=key / 2 ^ n) hc hr
     exact hlo _ (by rw [e1,e2]; exact h3) (by rw [hh,h1,h2]; simp)
   rw [e1,e2] at hl hp
   rw [if_neg (by decide)]
   have hM:=colsN_meet c hc n (key / 2 ^ n)
   have hpr:=div_lt_rows hp
   have hne : readC c.width zs (colsN c n (key / 2 ^ n)) ≠ []:=fun e => by
     have:=congrArg List.length e
     rw [readC_len,hM.len] at this
     have:=hc.r1; simp at *; omega
   have hrd : ∀ r,r < c.rows → (readC c.width zs (colsN c n (key / 2 ^ n))).getD r 0 = zs.getD (r * c.width + c.col n r (key / 2 ^ n)) 0:=fun r hr => by
     rw [readC_getD (by rw [hM.len]; exact hr),colsN_getD c n _ r hr]
   have hmin : m ≤ minV (readC c.width zs (colsN c n (key / 2 ^ n))):=by
     obtain ⟨r,hr,e⟩:=List.mem_iff_getElem.1 (minV_mem hne)
     have hr' : r < c.rows:=by rw [readC_len,hM.len] at hr; exact hr
     have h1:=hlo' r hr'
     rw [← hrd r hr',List.getD_eq_getElem?_getD,List.getElem?_eq_getElem hr] at h1
     rw [← e]; exact h1
   unfold skUpd
   rw [if_pos hm]
   unfold raiseC
   rw [riseC_getD (by rw [hl]) hM p hp _ (Nat.le_of_eq hM.len),hM.len,colsN_getD c n _ _ hpr]
   by_cases e : c.col n (p / c.width) (key / 2 ^ n) = p % c.width
   · rw [if_pos ⟨hpr,e⟩]
     have h1:=minV_le (getD_mem (l:=readC c.width zs (colsN c n (key / 2 ^ n))) (i:=p / c.width) (by rw [readC_len,hM.len]; exact hpr))
     rw [hrd _ hpr,e,Nat.mul_comm,Nat.div_add_mod] at h1
     refine ⟨fun _ => ?_,fun h => by simp [e] at h⟩
     rcases Int.le_total (zs.getD p 0) (minV (readC c.width zs (colsN c n (key / 2 ^ n))) + d) with h | h
     · rw [Int.max_eq_right h]; exact ⟨by omega,h,by omega⟩
     · rw [Int.max_eq_left h]; exact ⟨by omega,Int.le_refl _,by omega⟩
   · rw [if_neg (fun h => e h.2)]
     exact ⟨fun h => by simp [e] at h,fun _ => rfl⟩
theorem cons_zero (c : Cfg) (m : Nat) : ConsOk c (List.replicate m 0) (stackOf c (List.replicate m 0)):=by
 have hz : ∀ i,(List.replicate m (0 : Int)).getD i 0 = 0:=fun i => by rw [List.getD_eq_getElem?_getD,List.getElem?_replicate]; split <;> rfl
 have hget : ∀ n zs,(stackOf c (List.replicate m 0))[n]? = some zs → zs = cellsOf c n (List.replicate m 0):=fun n zs h => by
   have hn:=(List.getElem?_eq_some_iff.1 h).1
   rw [stackOf_len] at hn
   rw [stackOf_get c _ n (by omega)] at h
   exact (Option.some.inj h).symm
 refine ⟨stackOf_len _ _,fun n zs h => by rw [hget n zs h,cellsOf_len],fun n zs h i p _ hp _ => ?_,fun n zs h p hp => ?_⟩
 · rw [hget n zs h,cellsOf_getD c n _ p hp]
   have e1 : massP c (List.replicate m 0) n i = 0:=sg_zero fun k _ => by rw [hz]; split <;> rfl
   have e2 : cellOf c n (List.replicate m 0) p = 0:=sg_zero fun k _ => by rw [hz]; split <;> rfl
   rw [e1,e2]; exact Int.le_refl _
 · rw [hget n zs h,cellsOf_getD c n _ p hp]; exact Int.le_refl _
theorem cons_bump {c : Cfg} (hc : c.ok) (hm : c.mode = 2) {key : Nat} (hk : key < 2 ^ c.bits) {F : List Int} (hF : F.length = 2 ^ c.bits) {C : List (List Int)} (h : ConsOk c F C) {d : Int} (hd : 0 ≤ d) :
   ConsOk c (bump F key d) (updS c key d C (List.range (c.bits + 1))):=by
 have hg : ∀ n zs,(updS c key d C (List.range (c.bits + 1)))[n]? = some zs → n ≤ c.bits ∧ ∃ ys,C[n]? = some ys ∧ zs = levUpd c n ys (key / 2 ^ n) d:=fun n zs e => by
   rw [updS_get] at e
   by_cases hn : n < c.bits + 1
   · rw [if_pos hn,Option.map_eq_some_iff] at e
     obtain ⟨ys,h1,h2⟩:=e
     exact ⟨by omega,ys,h1,h2.symm⟩
   · rw [if_neg hn,List.getElem?_eq_none (by rw [h.len]; omega)] at e; cases e
 refine ⟨?_,fun n zs e => ?_,fun n zs e i p hi hp hh => ?_,fun n zs e p hp => ?_⟩
 · have : ∀ (m : Nat) (C : List (List Int)),(updS c key d C (List.range m)).length = C.length:=fun m => by
     induction m with
     | zero => intro C; rfl
     | succ m ih => intro C; rw [List.range_succ,updS_snoc,updL,List.length_set,ih]
   rw [this,h.len]
 · obtain ⟨hn,ys,h1,rfl⟩:=hg n zs e
   rw [levUpd_len,h.lens n ys h1]
 · obtain ⟨hn,ys,h1,rfl⟩:=hg n zs e
   obtain ⟨k1,k2⟩:=levUpd_cons hc hm hn hk (h.lens n ys h1) (m:=massP c F n (key / 2 ^ n)) hd (fun p hp hh => h.lo n ys h1 _ p (key_div hk hn) hp hh) p hp
   rw [massP_bump c n F key d (by omega) hk]
   have h2:=h.lo n ys h1 i p hi hp hh
   by_cases e2 : key / 2 ^ n = i
   · rw [if_pos e2]
     subst e2
     have:=(k1 hh).1
     omega
   · rw [if_neg e2]
     cases h3 : hit c n key p with
     | true => have:=(k1 h3).2.1; omega
     | false => rw [k2 h3]; omega
 · obtain ⟨hn,ys,h1,rfl⟩:=hg n zs e
   obtain ⟨k1,k2⟩:=levUpd_cons hc hm hn hk (h.lens n ys h1) (m:=massP c F n (key / 2 ^ n)) hd (fun p hp hh => h.lo n ys h1 _ p (key_div hk hn) hp hh) p hp
   have h2:=h.hi n ys h1 p hp
   rw [cellOf_bump c n F key d (by omega) hk]
   cases h3 : hit c n key p with
   | true => rw [if_pos rfl]; have:=(k1 h3).2.2; omega
   | false => rw [if_neg (by decide),k2 h3]; omega
theorem cons_merge {c : Cfg} {F G : List Int} (hl : F.length = G.length) {C D : List (List Int)} (h : ConsOk c F C) (k : ConsOk c G D) : ConsOk c (List.zipWith (· + ·) F G) (List.zipWith (List.zipWith (· + ·)) C D):=by
 have hg : ∀ n zs,(List.zipWith (List.zipWith (· + ·)) C D)[n]? = some zs → ∃ xs ys,C[n]? = some xs ∧ D[n]? = some ys ∧ zs = List.zipWith (· + ·) xs ys:=fun n zs e => by
   rw [List.getElem?_zipWith] at e
   cases h1 : C[n]? with
   | none => rw [h1] at e; cases e
   | some xs =>
     cases h2 : D[n]? with
     | none => rw [h1,h2] at e; cases e
     | some ys => rw [h1,h2] at e; exact ⟨xs,ys,h1,h2,(Option.some.inj e).symm⟩
 refine ⟨by rw [List.length_zipWith,h.len,k.len,Nat.min_self],fun n zs e => ?_,fun n zs e i p hi hp hh => ?_,fun n zs e p hp => ?_⟩
 all_goals obtain ⟨xs,ys,h1,h2,rfl⟩:=hg n zs e
 all_goals have l1:=h.lens n xs h1
 all_goals have l2:=k.lens n ys h2
 · rw [List.length_zipWith,l1,l2,Nat.min_self]
 · rw [getD_zip (· + ·) rfl (by rw [l1,l2]),massP_add c n F G _ (fun i _ => getD_zip (· + ·) rfl hl i)]
   have a:=h.lo n xs h1 i p hi hp hh
   have b:=k.lo n ys h2 i p hi hp hh
   omega
 · rw [getD_zip (· + ·) rfl (by rw [l1,l2]),cellOf_add c n F G _ (fun i _ => getD_zip (· + ·) rfl hl i)]
   have a:=h.hi n xs h1 p hp
   have b:=k.hi n ys h2 p hp
   omega
end Go.Proofs.YtejaocnhekjfiaaGreatDoor
namespace Go.Proofs.YtejaocnhekjfiaaGreatDoor
set_option linter.unusedVariables false
def RelC (c : Cfg) (F : List Int) (C : List (List Int)) : Prop:=
 if c.mode = 2 then ConsOk c F C ∧ ∀ zs ∈ C,∀ x ∈ zs,0 ≤ x else C = stackOf c F
theorem RelC.not2 {c : Cfg} {F : List Int} {C : List (List Int)} (h : RelC c F C) (hm : c.mode ≠ 2) : C = stackOf c F:=by unfold RelC at h; rwa [if_neg hm] at h
theorem RelC.is2 {c : Cfg} {F : List Int} {C : List (List Int)} (h : RelC c F C) (hm : c.mode = 2) : ConsOk c F C ∧ ∀ zs ∈ C,∀ x ∈ zs,0 ≤ x:=by unfold RelC at h; rwa [if_pos hm] at h
theorem nn_getD {l : List Int} (h : ∀ x ∈ l,0 ≤ x) (p : Nat) : 0 ≤ l.getD p 0:=by
 rw [List.getD_eq_getElem?_getD]
 cases e : l[p]? with
 | none => simp
 | some v => simpa using h v (List.mem_of_getElem? e)
theorem nn_of_getD {l : List Int} (h : ∀ p,p < l.length → 0 ≤ l.getD p 0) : ∀ x ∈ l,0 ≤ x:=fun x hx => by
 obtain ⟨p,hp,e⟩:=List.mem_iff_getElem.1 hx
 have:=h p hp
 rwa [List.getD_eq_getElem?_getD,List.getElem?_eq_getElem hp,e] at this
theorem relC_zero (c : Cfg) (m : Nat) : RelC c (List.replicate m 0) (zeroC c):=by
 unfold RelC
 rw [← zero_stack c m]
 split
 · refine ⟨cons_zero c m,fun zs hz x hx => ?_⟩
   rw [zero_stack] at hz
   simp only [zeroC,List.mem_map] at hz
   obtain ⟨n,_,rfl⟩:=hz
   simp only [zeroL] at hx
   obtain ⟨_,rfl⟩:=List.mem_replicate.1 hx
   exact Int.le_refl _
 · rfl
theorem relC_bump {c : Cfg} (hc : c.ok) {key : Nat} (hk : key < 2 ^ c.bits) {F : List Int} (hF : F.length = 2 ^ c.bits) {C : List (List Int)} (h : RelC c F C) {d : Int} (hd : c.mode = 2 → 0 ≤ d) :
   RelC c (bump F key d) (updS c key d C (List.range (c.bits + 1))):=by
 by_cases hm : c.mode = 2
 · obtain ⟨h1,h2⟩:=h.is2 hm
   unfold RelC
   rw [if_pos hm]
   have hC:=cons_bump hc hm hk hF h1 (hd hm)
   refine ⟨hC,fun zs hz => ?_⟩
   obtain ⟨n,hn⟩:=List.getElem?_of_mem hz
   have hlen:=hC.lens n zs hn
   refine nn_of_getD fun p hp => ?_
   rw [hlen] at hp
   rw [updS_get] at hn
   by_cases hb : n < c.bits + 1
   · rw [if_pos hb,Option.map_eq_some_iff] at hn
     obtain ⟨ys,hy,rfl⟩:=hn
     have hyl:=h1.lens n ys hy
     have hnn:=nn_getD (h2 ys (List.mem_of_getElem? hy)) p
     have:=levUpd_cons hc hm (show n ≤ c.bits by omega) hk hyl (d:=d) (m:=0) (hd hm) (fun q _ _ => nn_getD (h2 ys (List.mem_of_getElem? hy)) q) p hp
     cases hh : hit c n key p with
     | true => exact Int.le_trans hnn (this.1 hh).2.1
     | false => rw [this.2 hh]; exact hnn
   · rw [if_neg hb] at hn
     have h3:=(List.getElem?_eq_some_iff.1 hn).1
     rw [h1.len] at h3
     omega
 · rw [h.not2 hm]
   unfold RelC
   rw [if_neg hm]
   exact stack_bump hc hm hk F hF d
theorem relC_merge {c : Cfg} {F G : List Int} (hl : F.length = G.length) {C D : List (List Int)} (h : RelC c F C) (k : RelC c G D) : RelC c (List.zipWith (· + ·) F G) (List.zipWith (List.zipWith (· + ·)) C D):=by
 by_cases hm : c.mode = 2
 · obtain ⟨h1,h2⟩:=h.is2 hm
   obtain ⟨k1,k2⟩:=k.is2 hm
   unfold RelC
   rw [if_pos hm]
   refine ⟨cons_merge hl h1 k1,fun zs hz x hx => ?_⟩
   obtain ⟨n,hn⟩:=List.getElem?_of_mem hz
   rw [List.getElem?_zipWith] at hn
   cases e1 : C[n]? with
   | none => rw [e1] at hn; cases hn
   | some xs =>
     cases e2 : D[n]? with
     | none => rw [e1,e2] at hn; cases hn
     | some ys =>
       rw [e1,e2] at hn
       obtain rfl : List.zipWith (· + ·) xs ys = zs:=by simpa using hn
       obtain ⟨q,hq⟩:=List.getElem?_of_mem hx
       rw [List.getElem?_zipWith] at hq
       cases g1 : xs[q]? with
       | none => rw [g1] at hq; cases hq
       | some u =>
         cases g2 : ys[q]? with
         | none => rw [g1,g2] at hq; cases hq
         | some v =>
           rw [g1,g2] at hq
           obtain rfl : u + v = x:=by simpa using hq
           have a1:=h2 xs (List.mem_of_getElem? e1) u (List.mem_of_getElem? g1)
           have a2:=k2 ys (List.mem_of_getElem? e2) v (List.mem_of_getElem? g2)
           omega
 · rw [h.not2 hm,k.not2 hm]
   unfold RelC
   rw [if_neg hm]
   exact stack_merge c hl
theorem relC_subtract {c : Cfg} (hm : c.mode ≠ 2) {F G : List Int} (hl : F.length = G.length) {C D : List (List Int)} (h : RelC c F C) (k : RelC c G D) : RelC c (List.zipWith (· - ·) F G) (List.zipWith (List.zipWith (· - ·)) C D):=by
 rw [h.not2 hm,k.not2 hm]
 unfold RelC
 rw [if_neg hm]
 exact stack_subtract c hl
theorem cellOf_fit (c : Cfg) (n : Nat) {F : List Int} {b : Int} (hF : FitL b F) (hb : 0 ≤ b) (p : Nat) : -(((2 ^ c.bits : Nat) : Int) * b) ≤ cellOf c n F p ∧ cellOf c n F p ≤ ((2 ^ c.bits : Nat) : Int) * b:=by
 unfold cellOf
 refine sg_bound fun k _ => ?_
 have:=hF.getD hb k
 split <;> omega
theorem relC_fit {c : Cfg} {F : List Int} {C : List (List Int)} (h : RelC c F C) {b : Int} (hF : FitL b F) (hb : 0 ≤ b) : ∀ zs ∈ C,FitL (((2 ^ c.bits : Nat) : Int) * b) zs:=fun zs hz x hx => by
 by_cases hm : c.mode = 2
 · obtain ⟨h1,h2⟩:=h.is2 hm
   have h0:=h2 zs hz x hx
   obtain ⟨n,hn⟩:=List.getElem?_of_mem hz
   obtain ⟨p,hp,e⟩:=List.mem_iff_getElem.1 hx
   have h3:=h1.hi n zs hn p (by rw [← h1.lens n zs hn]; exact hp)
   rw [List.getD_eq_getElem?_getD,List.getElem?_eq_getElem hp,e] at h3
   have h4:=(cellOf_fit c n hF hb p).2
   have h5 : (0 : Int) ≤ ((2 ^ c.bits : Nat) : Int) * b:=Int.mul_nonneg (Int.natCast_nonneg _) hb
   exact ⟨by omega,Int.le_trans h3 h4⟩
 · rw [h.not2 hm] at hz
   simp only [stackOf,List.mem_map] at hz
   obtain ⟨n,_,rfl⟩:=hz
   simp only [cellsOf,List.mem_map] at hx
   obtain ⟨p,_,rfl⟩:=hx
   exact cellOf_fit c n hF hb p
theorem rowG_bump (G : List Int) (hG : G.length = 192) (h k : Nat) (hh : h < 3) (hk : k < 64) (d : Int) (i : Nat) (hi : i < 3) : rowG (bump G (64 * h + k) d) i = if i = h then bump (rowG G h) k d else rowG G i:=by
 have e1 : 64 * h + k < G.length:=by omega
 by_cases e : i = h
 · subst e
   rw [if_pos rfl]
   refine list_ext_getD 64 (rowG_len ..) (by rw [bump_len,rowG_len]) fun j hj => ?_
   rw [rowG_getD _ _ _ hj,bump_getD _ _ _ e1,bump_getD _ _ _ (by rw [rowG_len]; exact hk),rowG_getD _ _ _ hj]
   by_cases ej : j = k
   · rw [if_pos (by omega),if_pos ej]
   · rw [if_neg (by omega),if_neg ej]
 · rw [if_neg e]
   refine list_ext_getD 64 (rowG_len ..) (rowG_len ..) fun j hj => ?_
   rw [rowG_getD _ _ _ hj,bump_getD _ _ _ e1,rowG_getD _ _ _ hj,if_neg (by omega),Int.add_zero]
theorem zipWith_getD (f : Int → Int → Int) {xs ys : List Int} {i : Nat} (h1 : i < xs.length) (h2 : i < ys.length) : (List.zipWith f xs ys).getD i 0 = f (xs.getD i 0) (ys.getD i 0):=by
 rw [List.getD_eq_getElem?_getD,List.getElem?_zipWith,List.getD_eq_getElem?_getD,List.getD_eq_getElem?_getD,List.getElem?_eq_getElem h1,List.getElem?_eq_getElem h2]; rfl
theorem rowG_pair (f : Int → Int → Int) (G : List Int) (h o : Nat) (hh : h < 3) (i : Nat) (hi : i < 3) : rowG (pairG f G h o) i = if i = h then List.zipWith f (rowG G h) (rowG G o) else rowG G i:=by
 unfold pairG
 by_cases e : i = h
 · subst e
   rw [if_pos rfl]
   refine list_ext_getD 64 (rowG_len ..) (by rw [List.length_zipWith,rowG_len,rowG_len]; rfl) fun j hj => ?_
   rw [rowG_getD _ _ _ hj,stG_getD _ _ _ _ _ _ (by omega),if_pos (by omega),zipWith_getD f (by rw [rowG_len]; exact hj) (by rw [rowG_len]; exact hj),rowG_getD _ _ _ hj,show 64 * i + j - 64 * i = j by omega]
 · rw [if_neg e]
   refine list_ext_getD 64 (rowG_len ..) (rowG_len ..) fun j hj => ?_
   rw [rowG_getD _ _ _ hj,stG_getD _ _ _ _ _ _ (by omega),if_neg (by omega),rowG_getD _ _ _ hj]
def stepG (c : Cfg) (o : OpI) (G : List Int) : List Int:=
 if o.kind = 3 then pairG (· + ·) G (hd o.h) (hd o.o)
 else if o.kind = 4 then (if c.mode = 2 then G else pairG (· - ·) G (hd o.h) (hd o.o))
 else bump G (64 * hd o.h + o.key % 64) (smallD c o.d)
noncomputable def stepC (c : Cfg) (o : OpI) (Cs : List (List (List Int))) : List (List (List Int)):=
 if o.kind = 3 then Cs.set (hd o.h) (List.zipWith (List.zipWith (· + ·)) (Cs.getD (hd o.h) []) (Cs.getD (hd o.o) []))
 else if o.kind = 4 then (if c.mode = 2 then Cs else Cs.set (hd o.h) (List.zipWith (List.zipWith (· - ·)) (Cs.getD (hd o.h) []) (Cs.getD (hd o.o) [])))
 else Cs.set (hd o.h) (updS c (o.key % 64) (smallD c o.d) (Cs.getD (hd o.h) []) (List.range (c.bits + 1)))
structure Inv (c : Cfg) (b : Int) (G : List Int) (Cs : List (List (List Int))) : Prop where
 len : G.length = 192
 fit : FitL b G
 nn : 0 ≤ b
 lenC : Cs.length = 3
 rel : ∀ i,i < 3 → RelC c (rowG G i) (Cs.getD i [])
theorem repl_getD (n i : Nat) : (List.replicate n (0 : Int)).getD i 0 = 0:=by
 rw [List.getD_eq_getElem?_getD,List.getElem?_replicate]; split <;> rfl
theorem inv_zero (c : Cfg) : Inv c 1048576 (List.replicate 192 0) (List.replicate 3 (zeroC c)):=by
 refine ⟨List.length_replicate,fun x hx => ?_,by decide,List.length_replicate,fun i hi => ?_⟩
 · obtain ⟨_,rfl⟩:=List.mem_replicate.1 hx; omega
 · have e : rowG (List.replicate 192 0) i = List.replicate 64 0:=list_ext_getD 64 (rowG_len ..) List.length_replicate fun j hj => by
     rw [rowG_getD _ _ _ hj,repl_getD,repl_getD]
   rw [e,List.getD_eq_getElem?_getD,List.getElem?_replicate,if_pos hi]
   exact relC_zero c 64
theorem getD_set_self {A : Type} {l : List A} {i : Nat} (h : i < l.length) (v d : A) : (l.set i v).getD i d = v:=by rw [List.getD_eq_getElem?_getD,List.getElem?_set_self h]; rfl
theorem getD_set_ne {A : Type} {l : List A} {i j : Nat} (h : i ≠ j) (v d : A) : (l.set i v).getD j d = l.getD j d:=by rw [List.getD_eq_getElem?_getD,List.getElem?_set_ne h,← List.getD_eq_getElem?_getD]
theorem fit_bump {b : Int} {G : List Int} (h : FitL b G) (hb : 1048576 ≤ b) (k : Nat) {d : Int} (hd : -1048575 ≤ d ∧ d ≤ 1048575) : FitL (2 * b) (bump G k d):=by
 have h0:=h.getD (by omega) k
 exact (h.mono (show b ≤ 2 * b by omega)).set k ⟨by omega,by omega⟩
theorem fit_pair {b : Int} {G : List Int} (h : FitL b G) (hb : 0 ≤ b) (f : Int → Int → Int) (hf : ∀ x y,-b ≤ x ∧ x ≤ b → -b ≤ y ∧ y ≤ b → -(2 * b) ≤ f x y ∧ f x y ≤ 2 * b) (i j : Nat) : FitL (2 * b) (pairG f G i j):=fun v hv => by
 simp only [pairG,stG,List.mem_map] at hv
 obtain ⟨q,_,rfl⟩:=hv
 split
 · exact hf _ _ (h.getD hb _) ((h.rowG hb j).getD hb _)
 · have:=h.getD hb q; omega
theorem inv_step {c : Cfg} (hc : c.ok) (h6 : c.bits = 6) {b : Int} (hb : 1048576 ≤ b) {G : List Int} {Cs : List (List (List Int))} (h : Inv c b G Cs) (o : OpI) : Inv c (2 * b) (stepG c o G) (stepC c o Cs):=by
 have hh:=hd_lt o.h
 have ho:=hd_lt o.o
 have hk : o.key % 64 < 64:=Nat.mod_lt _ (by decide)
 have hl2 : ∀ i j,(rowG G i).length = (rowG G j).length:=fun i j => by rw [rowG_len,rowG_len]
 unfold stepG stepC
 by_cases e3 : o.kind = 3
 · rw [if_pos e3,if_pos e3]
   refine ⟨stG_len ..,fit_pair h.fit h.nn _ (fun x y hx hy => by omega) _ _,by omega,by rw [List.length_set,h.lenC],fun i hi => ?_⟩
   rw [rowG_pair _ _ _ _ hh i hi]
   by_cases e : i = hd o.h
   · rw [if_pos e,e,getD_set_self (by rw [h.lenC]; exact hh)]
     exact relC_merge (hl2 _ _) (h.rel _ hh) (h.rel _ ho)
   · rw [if_neg e,getD_set_ne (fun q => e q.symm)]
     exact h.rel i hi
 · rw [if_neg e3,if_neg e3]
   by_cases e4 : o.kind = 4
   · rw [if_pos e4,if_pos e4]
     by_cases hm : c.mode = 2
     · rw [if_pos hm,if_pos hm]
       exact ⟨h.len,h.fit.mono (by omega),by omega,h.lenC,h.rel⟩
     · rw [if_neg hm,if_neg hm]
       refine ⟨stG_len ..,fit_pair h.fit h.nn _ (fun x y hx hy => by omega) _ _,by omega,by rw [List.length_set,h.lenC],fun i hi => ?_⟩
       rw [rowG_pair _ _ _ _ hh i hi]
       by_cases e : i = hd o.h
       · rw [if_pos e,e,getD_set_self (by rw [h.lenC]; exact hh)]
         exact relC_subtract hm (hl2 _ _) (h.rel _ hh) (h.rel _ ho)
       · rw [if_neg e,getD_set_ne (fun q => e q.symm)]
         exact h.rel i hi
   · rw [if_neg e4,if_neg e4]
     refine ⟨by rw [bump_len,h.len],fit_bump h.fit hb _ (smallD_le c o.d),by omega,by rw [List.length_set,h.lenC],fun i hi => ?_⟩
     rw [rowG_bump _ h.len _ _ hh hk _ i hi]
     by_cases e : i = hd o.h
     · rw [if_pos e,e,getD_set_self (by rw [h.lenC]; exact hh)]
       exact relC_bump hc (by rw [h6]; exact hk) (by rw [h6,rowG_len]) (h.rel _ hh) (smallD_nn c o.d)
     · rw [if_neg e,getD_set_ne (fun q => e q.symm)]
       exact h.rel i hi
def playG (c : Cfg) (l : List OpI) : List Int:=l.foldl (fun G o => stepG c o G) (List.replicate 192 0)
noncomputable def playC (c : Cfg) (l : List OpI) : List (List (List Int)):=l.foldl (fun C o => stepC c o C) (List.replicate 3 (zeroC c))
theorem play_snoc (c : Cfg) (l : List OpI) (o : OpI) : playG c (l ++ [o]) = stepG c o (playG c l) ∧ playC c (l ++ [o]) = stepC c o (playC c l):=⟨List.foldl_append ..,List.foldl_append ..⟩
theorem inv_play {c : Cfg} (hc : c.ok) (h6 : c.bits = 6) : ∀ (n : Nat) (l : List OpI),l.length = n → Inv c (1048576 * (2 : Int) ^ n) (playG c l) (playC c l)
 | 0,l,hl => by
   obtain rfl:=List.length_eq_zero_iff.1 hl
   exact inv_zero c
 | n + 1,l,hl => by
   have hne : l ≠ []:=by intro e; rw [e] at hl; simp at hl
   obtain ⟨l',o,rfl⟩ : ∃ l' o,l = l' ++ [o]:=⟨l.dropLast,l.getLast hne,(List.dropLast_concat_getLast hne).symm⟩
   have hl' : l'.length = n:=by simp at hl; exact hl
   have ih:=inv_play hc h6 n l' hl'
   rw [(play_snoc c l' o).1,(play_snoc c l' o).2]
   have hp : (1 : Int) ≤ 2 ^ n:=by
     have:=Nat.one_le_two_pow (n:=n)
     have e : ((2 ^ n : Nat) : Int) = (2 : Int) ^ n:=by simp
     omega
   have e2 : (1048576 : Int) * 2 ^ (n + 1) = 2 * (1048576 * 2 ^ n):=by rw [Int.pow_succ]; omega
   rw [e2]
   exact inv_step hc h6 (by omega) ih o
theorem Inv.cells {c : Cfg} (h6 : c.bits = 6) {b : Int} {G : List Int} {Cs : List (List (List Int))} (h : Inv c b G Cs) {i : Nat} (hi : i < 3) : ∀ zs ∈ Cs.getD i [],FitL (64 * b) zs:=fun zs hz => by
 have:=relC_fit (h.rel i hi) (h.fit.rowG h.nn i) h.nn zs hz
 rw [h6] at this
 exact this
end Go.Proofs.YtejaocnhekjfiaaGreatDoor
namespace Go.Proofs.YtejaocnhekjfiaaGreatDoor
open Go.RowKit
set_option linter.unusedVariables false
open S25 (I64 Tabs)
theorem map_getD {S : List SI} {i : Nat} {s : SI} (h : S[i]? = some s) : (S.map (·.C)).getD i [] = s.C:=by
 rw [List.getD_eq_getElem?_getD,List.getElem?_map,h]; rfl
def DoesR (w : World) (base x a m : Nat) (c : Cfg) (G : List Int) (Cs : List (List (List Int))) (e : Ending) (w' : World) : Prop:=
 e = .returned (.bool true) ∧ (∃ S,WIs w' base x a m c S G ∧ S.map (·.C) = Cs) ∧ Below base w w'
theorem does_any {w : World} {base x a m : Nat} {c : Cfg} {S : List SI} {G : List Int} (h : WIs w base x a m c S G) (hT : Tabs w) (hb10 : 10 ≤ base) (hbw : base ≤ w.heap.size) (h6 : c.bits = 6) {b : Int} (hi : Inv c b G (S.map (·.C)))
   (hb : 1048576 ≤ b) (hbD : b ≤ 36028797018963967) (o : OpI) : Calls Tryz.prog 14 #[.pointer (some ⟨x,0,none⟩),opV o] w (DoesR w base x a m c (stepG c o G) (stepC c o (S.map (·.C)))):=by
 have hh:=hd_lt o.h
 have ho:=hd_lt o.o
 obtain ⟨s,hs⟩ : ∃ s,S[hd o.h]? = some s:=⟨S[hd o.h]'(by rw [h.three]; exact hh),List.getElem?_eq_getElem _⟩
 obtain ⟨t,ht⟩ : ∃ t,S[hd o.o]? = some t:=⟨S[hd o.o]'(by rw [h.three]; exact ho),List.getElem?_eq_getElem _⟩
 have f1:=hi.cells h6 hh
 have f2:=hi.cells h6 ho
 rw [map_getD hs] at f1
 rw [map_getD ht] at f2
 have hG:=hi.fit.mono (show b ≤ 64 * b by omega)
 have g1 : ∀ zs ∈ s.C,FitL 4611686018427387903 zs:=fun zs hz => (f1 zs hz).mono (by omega)
 have g2 : ∀ zs ∈ t.C,FitL 4611686018427387903 zs:=fun zs hz => (f2 zs hz).mono (by omega)
 unfold stepG stepC
 by_cases e3 : o.kind = 3
 · rw [if_pos e3,if_pos e3,map_getD hs,map_getD ht]
   refine (does_merge h hT hb10 o e3 hs ht (64 * b) g1 g2 (by omega) (by omega) hG).mono ?_
   rintro e w' ⟨rfl,h1,h2⟩
   exact ⟨rfl,⟨_,h1,by rw [List.map_set]⟩,h2.below h.base hbw⟩
 · rw [if_neg e3,if_neg e3]
   by_cases e4 : o.kind = 4
   · rw [if_pos e4,if_pos e4]
     by_cases hm : c.mode = 2
     · rw [if_pos hm,if_pos hm]
       refine (does_subtract_no h hT hb10 o e4 hs ht (64 * b) g1 g2 (by omega) (by omega) hG hm).mono ?_
       rintro e w' ⟨rfl,h1,h2⟩
       exact ⟨rfl,⟨_,h1,rfl⟩,h2.mono hbw⟩
     · rw [if_neg hm,if_neg hm,map_getD hs,map_getD ht]
       refine (does_subtract h hT hb10 o e4 hs ht (64 * b) g1 g2 (by omega) (by omega) hG hm).mono ?_
       rintro e w' ⟨rfl,h1,h2⟩
       exact ⟨rfl,⟨_,h1,by rw [List.map_set]⟩,h2.below h.base hbw⟩
   · rw [if_neg e4,if_neg e4,map_getD hs]
     refine (does_add h hT hb10 o e3 e4 hs (64 * b) (by omega) f1 (by omega) (by omega) hG).mono ?_
     rintro e w' ⟨rfl,h1,h2⟩
     exact ⟨rfl,⟨_,h1,by rw [List.map_set]⟩,h2.below h.base hbw⟩
end Go.Proofs.YtejaocnhekjfiaaGreatDoor
namespace Go.Proofs.YtejaocnhekjfiaaGreatDoor
open Go.RowKit
set_option linter.unusedVariables false
open S25 (I64 Tabs)
def OpsAt (w : World) (p : Option Addr) (l : List OpI) : Prop:=∀ (i : Nat) (o : OpI),l[i]? = some o → ∃ k off,p = some ⟨k,off,none⟩ ∧ k < w.heap.size ∧
 w.cell? ⟨k,off + i * 5,none⟩ = some (.int .i64 o.kind) ∧ w.cell? ⟨k,off + i * 5 + 1,none⟩ = some (.int .i64 o.h) ∧ w.cell? ⟨k,off + i * 5 + 2,none⟩ = some (.int .i64 o.o) ∧ w.cell? ⟨k,off + i * 5 + 3,none⟩ = some (.int .u64 o.key) ∧ w.cell? ⟨k,off + i * 5 + 4,none⟩ = some (.int .i64 o.d)
theorem OpsAt.below {w w' : World} {p : Option Addr} {l : List OpI} (h : OpsAt w p l) (hb : Below w.heap.size w w') : OpsAt w' p l:=fun i o e => by
 obtain ⟨k,off,e1,e2,c0,c1,c2,c3,c4⟩:=h i o e
 have hc : ∀ off,w'.cell? ⟨k,off,none⟩ = w.cell? ⟨k,off,none⟩:=fun off => hb.cell (p:=⟨k,off,none⟩) e2
 exact ⟨k,off,e1,Nat.lt_of_lt_of_le e2 hb.size,(hc _).trans c0,(hc _).trans c1,(hc _).trans c2,(hc _).trans c3,(hc _).trans c4⟩
theorem bound25 {n : Nat} (h : n ≤ 25) : (1048576 : Int) ≤ 1048576 * 2 ^ n ∧ (1048576 : Int) * 2 ^ n ≤ 35184372088832:=by
 have h1 : (2 ^ n : Nat) ≤ 2 ^ 25:=Nat.pow_le_pow_right (by decide) h
 have h2:=Nat.one_le_two_pow (n:=n)
 have e : ((2 ^ n : Nat) : Int) = (2 : Int) ^ n:=by simp
 have h3 : (2 ^ 25 : Nat) = 33554432:=by decide
 omega
theorem take_succ {l : List OpI} {n : Nat} {o : OpI} (h : l[n]? = some o) : l.take (n + 1) = l.take n ++ [o]:=by rw [List.take_add_one,h]; rfl
def PlayedR (w : World) (c : Cfg) (l : List OpI) (e : Ending) (w' : World) : Prop:=
 ∃ (x base a m : Nat) (S : List SI),e = .returned (.pointer (some ⟨x,0,none⟩)) ∧ WIs w' base x a m c S (playG c l) ∧ S.map (·.C) = playC c l ∧ w.heap.size ≤ base ∧ base ≤ w'.heap.size ∧ Below w.heap.size w w'
set_option maxRecDepth 100000 in
set_option maxHeartbeats 2000000 in
theorem played_any (b r wd m0 : Int) (sd md : Nat) (w : World) (hT : Tabs w) (hs : sd < 18446744073709551616) (h1 : 1 ≤ md) (h3 : md ≤ 3) (p : Option Addr) (l : List OpI) (cap : Nat) (hl : OpsAt w p l) :
   Calls Tryz.prog 8 #[.agg #[.int .i64 b,.int .i64 r,.int .i64 wd,.int .i64 m0,.int .u64 sd],.int .i64 md,.slice p l.length cap] w (PlayedR w (cutCfg r wd sd md) (l.take 25)):=by
 have KM:=Lib.hid (fun w hT => made_any b r wd m0 sd md w hT hs h1 h3)
 have HC:=Lib.hid (cutCfg_ok r wd hs h1 h3)
 have H6:=Lib.hid (show (cutCfg r wd sd md).bits = 6 from rfl)
 have HT:=Lib.hid hT
 have HL:=Lib.hid hl
 clear hT hs hl
 generalize hcc : cutCfg r wd sd md = c at *
 clear hcc
 obtain ⟨len,hlen⟩ : ∃ q,l.length = q:=⟨_,rfl⟩
 rw [hlen]
 have HLN:=Lib.hid hlen
 clear hlen
 have HB0:=Lib.hid ((Below.refl w.heap.size w).alloc (Nat.le_refl _) (.cells #[.int .i64 b,.int .i64 r,.int .i64 wd,.int .i64 m0,.int .u64 sd] 24))
 go_enter Tryz.func8,Tryz.ntmps8
 go_wp2_with fail
 refine (KM.out _ (HT.out.below HB0.out)).mono ?_
 rintro e w1 ⟨x,a,m,S,rfl,hW,hz,hb1⟩
 have HW:=Lib.hid hW
 have HZ:=Lib.hid hz
 have HB1:=Lib.hid (HB0.out.trans (hb1.mono HB0.out.size))
 have HBS:=Lib.hid (Nat.le_trans HB0.out.size (Nat.le_refl _))
 have HBL:=Lib.hid hb1.size
 clear hW hz hb1
 generalize (w.alloc (.cells #[.int .i64 b,.int .i64 r,.int .i64 wd,.int .i64 m0,.int .u64 sd] 24)).heap.size = B at *
 go_wp2_with fail
 go_loopw [8] (fun u wr => ∃ n : Nat,n ≤ 25 ∧ n ≤ len ∧ u = .int .i64 (n : Int) ∧ Hid (∃ S,WIs wr B x a m c S (playG c (l.take n)) ∧ S.map (·.C) = playC c (l.take n) ∧ Below w.heap.size w wr ∧ B ≤ wr.heap.size)) (fun u _ => 26 - (intOf u).toNat)
 case atStart => exact ⟨0,by omega,by omega,rfl,Lib.hid ⟨S,by rw [List.take_zero]; exact HW.out,by
   rw [List.take_zero]
   show S.map (·.C) = List.replicate 3 (zeroC c)
   rw [List.eq_replicate_iff]
   exact ⟨by rw [List.length_map,HW.out.three],fun C hC => by obtain ⟨s,hs,rfl⟩:=List.mem_map.1 hC; exact HZ.out s hs⟩,HB1.out,HBL.out⟩⟩
 case round =>
   obtain ⟨n,hn,hnl,rfl,HKK⟩:=hrel
   obtain ⟨S2,hW2,hS2,hB2,hBL2⟩:=HKK.out
   clear HKK HW HZ HB1 HBL
   have HW2:=Lib.hid hW2
   have HS2:=Lib.hid hS2
   have HB2:=Lib.hid hB2
   have HBL2:=Lib.hid hBL2
   clear hW2 hS2 hB2 hBL2
   by_cases hlt : n < len
   · have hltI : (n : Int) < len:=by omega
     by_cases h25 : n < 25
     · have h25I : (n : Int) < 25:=by omega
       obtain ⟨o,ho⟩ : ∃ o,l[n]? = some o:=⟨l[n]'(by rw [HLN.out]; exact hlt),List.getElem?_eq_getElem _⟩
       obtain ⟨k,off,rfl,hk,c0,c1,c2,c3,c4⟩:=HL.out.below HB2.out n o ho
       have HO:=Lib.hid ho
       have hi:=inv_play HC.out H6.out n (l.take n) (by rw [List.length_take,HLN.out]; omega)
       rw [← HS2.out] at hi
       have hbd:=bound25 hn
       have KD:=does_any HW2.out (HT.out.below HB2.out) (Nat.le_trans HT.out.low HBS.out) HBL2.out H6.out hi hbd.1 (by omega) o
       unfold opV at KD
       have KD:=Lib.hid KD
       clear ho hk hi hbd
       go_wp2_with fail
       refine (KD.out).mono ?_
       rintro e w4 ⟨rfl,⟨S4,hW4,hS4⟩,hb4⟩
       have e1:=(play_snoc c (l.take n) o).1
       have e2:=(play_snoc c (l.take n) o).2
       rw [← take_succ HO.out] at e1 e2
       have HW4:=Lib.hid hW4
       have HS4:=Lib.hid hS4
       rw [← e1] at HW4
       rw [HS2.out,← e2] at HS4
       have HB4:=Lib.hid (HB2.out.trans (hb4.mono HBS.out))
       have HBL4:=Lib.hid (Nat.le_trans HBL2.out hb4.size)
       clear hW4 hS4 hb4 c0 c1 c2 c3 c4 e1 e2
       go_wp2_with fail
       go_roundw
       case rel => exact ⟨n + 1,by omega,by omega,by go_num,Lib.hid ⟨S4,HW4.out,HS4.out,HB4.out,HBL4.out⟩⟩
       case measure => simp [intOf]; omega
     · have hnn : n = 25:=by omega
       have hf : ¬ ((n : Int) < 25):=by omega
       subst hnn
       clear h25
       go_wp2_with fail
       go_ret
       exact ⟨x,B,a,m,S2,rfl,HW2.out,HS2.out,HBS.out,HBL2.out,HB2.out⟩
   · have hnn : n = len:=by omega
     have hf : ¬ ((n : Int) < len):=by omega
     have ht : l.take 25 = l.take n:=by rw [List.take_of_length_le (show l.length ≤ 25 by rw [HLN.out]; omega),List.take_of_length_le (show l.length ≤ n by rw [HLN.out]; omega)]
     rw [← ht] at HW2 HS2
     clear ht hlt
     subst hnn
     go_wp2_with fail
     go_ret
     exact ⟨x,B,a,m,S2,rfl,HW2.out,HS2.out,HBS.out,HBL2.out,HB2.out⟩
end Go.Proofs.YtejaocnhekjfiaaGreatDoor
namespace Go.Proofs.YtejaocnhekjfiaaGreatDoor
open Go.RowKit
set_option linter.unusedVariables false
def laid7 : List (String × DataW Unit):=Rows.topMergesRow.laid
theorem first_is : (Rows.laid_unicode_utf8_first : DataW Unit) = Lib.firstData:=by kernel_rfl
theorem accept_is : (Rows.laid_unicode_utf8_acceptRanges : DataW Unit) = Lib.acceptData:=by kernel_rfl
theorem pow_is : (Rows.laid_internal_strconv_uint64pow10 : DataW Unit) = Lib.tabData .u64 Lib.pow10Tab:=by kernel_rfl
noncomputable def laidWorld (os : Os) : World:=
 { World.doorLaid Tryz.prog 72 os with heap:=(World.doorLaid Tryz.prog 72 os).heap.modify 2 fun
   | .cells _ t frozen => .cells (Lib.firstTab.map fun z => Value.int .u8 z).toArray t frozen
   | o => o }
theorem door_met (os : Os) (args : Array Value) : laidMetH Tryz.prog laid7 ((laidWorld os).forCall (fun _ _ => 0) ⟨#[],args,[]⟩).memory:=
 laidMetH_of_parts3 (fuel:=8) (laidMet_of_run' 8 (by kernel_rfl) (by kernel_rfl)) (by kernel_rfl) (by kernel_rfl)
end Go.Proofs.YtejaocnhekjfiaaGreatDoor
namespace Go.Proofs.YtejaocnhekjfiaaGreatDoor
open Go.RowKit
set_option linter.unusedVariables false
theorem err_star : "*" ++ "errors.errorString" = "*errors.errorString" := by decide
theorem err_row (u : TypeId) (h : Tryz.prog.typeName? 3 u = some "*errors.errorString") : u = 389 :=
 typeName_ptr_named (nm := "errors.errorString") (by rw [err_star]; kernel_rfl) (by kernel_rfl) (by decide) u (by rw [err_star]; exact h)
theorem lt_of_cell {w : World} {a : Addr} {v : Value} (h : w.cell? a = some v) : a.block < w.heap.size:=by
 by_cases hl : a.block < w.heap.size
 · exact hl
 · have : w.heap[a.block]? = none:=by simp; omega
   simp [World.cell?,this] at h
theorem tabs_of_laid {W : World} (h : laidMetH Tryz.prog laid7 W) : S25.Tabs W:=by
 rw [MakeChecks.laidMetH_plain _ _ _ (by kernel_rfl)] at h
 have h1 : laidMet Tryz.prog laid7 W:=h
 have u8 : Lib.Utf8Tabs 2 3 W:=utf8Tabs_of_reads Tryz.lays260 ⟨by kernel_rfl,by kernel_rfl,by kernel_rfl,by kernel_rfl,by kernel_rfl,by kernel_rfl,by kernel_rfl⟩
   (first_is ▸ Lib.laidMet.reads h1 (.tail _ (.tail _ (.tail _ (.tail _ (.tail _ (.tail _ (.head _))))))))
   (accept_is ▸ Lib.laidMet.reads h1 (.tail _ (.tail _ (.tail _ (.head _)))))
 have h3:=h1.tail.tail
 rw [pow_is] at h3
 have hp:=Lib.tabIs_of_head (g:=4) (t:=288) (e:=22) (n:=20) (by kernel_rfl) (by kernel_rfl) (by kernel_rfl) (by kernel_rfl) (by kernel_rfl) (by kernel_rfl) h3
 have h5:=h1.tail.tail.tail.tail
 obtain ⟨a7,s7,hv7,_⟩:=laid_sentinel (g:=9) (ti:=156) (tp:=389) (te:=391) (ts:=9) h5 (by kernel_rfl) (by kernel_rfl) Tryz.underlying156 err_row Tryz.underlying389 Tryz.underlying391 rfl rfl Tryz.underlying9 (by kernel_rfl) (by kernel_rfl)
 obtain ⟨a6,s6,hv6,_⟩:=laid_sentinel (g:=8) (ti:=156) (tp:=389) (te:=391) (ts:=9) h5.tail (by kernel_rfl) (by kernel_rfl) Tryz.underlying156 err_row Tryz.underlying389 Tryz.underlying391 rfl rfl Tryz.underlying9 (by kernel_rfl) (by kernel_rfl)
 have c7:=World.var?_cell (g:=9) (by kernel_rfl) hv7 0
 have c6:=World.var?_cell (g:=8) (by kernel_rfl) hv6 0
 refine ⟨u8,hp,⟨_,_,c6.trans rfl⟩,⟨_,_,c7.trans rfl⟩,?_⟩
 exact lt_of_cell (a:=⟨9,0,none⟩) (c7.trans rfl)
end Go.Proofs.YtejaocnhekjfiaaGreatDoor
namespace Go.Proofs.YtejaocnhekjfiaaGreatDoor
open Go.Joins Go.ChangeShapes Go.WideShapes Go.RowKit Go.Deep
set_option linter.unusedVariables false
theorem list_of {A : Type} (P : Nat → A → Prop) : ∀ n,(∀ i,i < n → ∃ o,P i o) → ∃ l : List A,l.length = n ∧ ∀ i o,l[i]? = some o → P i o
 | 0,_ => ⟨[],rfl,fun i o h => by simp at h⟩
 | n + 1,h => by
   obtain ⟨l,hl,hP⟩:=list_of P n (fun i hi => h i (by omega))
   obtain ⟨o,ho⟩:=h n (by omega)
   refine ⟨l ++ [o],by simp [hl],fun i u hu => ?_⟩
   by_cases hi : i < l.length
   · rw [List.getElem?_append_left hi] at hu; exact hP i u hu
   · rw [List.getElem?_append_right (by omega)] at hu
     have hz : i - l.length = 0:=by
       rcases Nat.eq_zero_or_pos (i - l.length) with e | e
       · exact e
       · rw [List.getElem?_eq_none (by simp; omega)] at hu; cases hu
     rw [hz] at hu
     obtain rfl : o = u:=by simpa using hu
     have : i = n:=by omega
     rw [this]; exact ho
theorem nat_of {z : Int} (h : (Lit.int .u64 z).wf = true) : ∃ n : Nat,z = (n : Int) ∧ n < 18446744073709551616:=by
 have:=bounds_u64 h
 exact ⟨z.toNat,by omega,by omega⟩
theorem cells3 : Tryz.prog.cellsOf 3 = 1:=by kernel_rfl
theorem cells22 : Tryz.prog.cellsOf 22 = 1:=by kernel_rfl
theorem cells2 : Tryz.prog.cellsOf 2 = 1:=by kernel_rfl
theorem cells24 : Tryz.prog.cellsOf 24 = 5:=by kernel_rfl
theorem cells42 : Tryz.prog.cellsOf 42 = 5:=by kernel_rfl
section
variable {H : Type} {enc : TypeId × Value → H} {w : World} {base : Nat} {spare : Nat → Bool} {held : Bool}
set_option maxRecDepth 100000 in
theorem open_cfg {r : Reach} {b0 : Nat} {v : Value} {d : DataW H} {p : List MemPlace} (hv : Value.okWide Tryz.prog w r b0 24 v) (h : DataW.Trod enc Tryz.prog w base spare held 24 v d p) :
   ∃ (b rr wd m0 : Int) (sd : Nat),v = .agg #[.int .i64 b,.int .i64 rr,.int .i64 wd,.int .i64 m0,.int .u64 sd] ∧ sd < 18446744073709551616:=by
 obtain ⟨cs,rfl,hsz⟩:=okWide_struct Tryz.underlying24 hv
 obtain ⟨l⟩:=cs
 match l,hsz.trans cells24 with
 | [c0,c1,c2,c3,c4],_ =>
   obtain ⟨fuel,hf⟩:=h
   obtain ⟨xs,n,_,hx,_,hlen,hg⟩:=DataW.trod_struct Tryz.underlying24 hf
   match xs,hlen with
   | [y0,y1,y2,y3,y4],_ =>
     have s0 : DataW.trod enc Tryz.prog w base spare held n 3 [c0] = some y0:=by simpa [Value.cells,cells3,cells22,cells2] using hg 0 _ rfl
     have s1 : DataW.trod enc Tryz.prog w base spare held n 3 [c1] = some y1:=by simpa [Value.cells,cells3,cells22,cells2] using hg 1 _ rfl
     have s2 : DataW.trod enc Tryz.prog w base spare held n 3 [c2] = some y2:=by simpa [Value.cells,cells3,cells22,cells2] using hg 2 _ rfl
     have s3 : DataW.trod enc Tryz.prog w base spare held n 3 [c3] = some y3:=by simpa [Value.cells,cells3,cells22,cells2] using hg 3 _ rfl
     have s4 : DataW.trod enc Tryz.prog w base spare held n 22 [c4] = some y4:=by simpa [Value.cells,cells3,cells22,cells2] using hg 4 _ rfl
     obtain ⟨a0,e0,_,_⟩:=DataW.trod_int Tryz.underlying3 s0
     obtain ⟨a1,e1,_,_⟩:=DataW.trod_int Tryz.underlying3 s1
     obtain ⟨a2,e2,_,_⟩:=DataW.trod_int Tryz.underlying3 s2
     obtain ⟨a3,e3,_,_⟩:=DataW.trod_int Tryz.underlying3 s3
     obtain ⟨a4,e4,_,w4⟩:=DataW.trod_int Tryz.underlying22 s4
     obtain ⟨sd,rfl,hsd⟩:=nat_of w4
     simp at e0 e1 e2 e3 e4
     subst e0 e1 e2 e3 e4
     exact ⟨a0,a1,a2,a3,sd,rfl,hsd⟩
theorem addr_add {k off : Nat} (n : Nat) : (⟨k,off,none⟩ : Addr).add n = ⟨k,off + n,none⟩:=by
 unfold Addr.add
 split
 · rename_i h; rw [h,Nat.add_zero]
 · rfl
set_option maxRecDepth 100000 in
theorem open_ops {r : Reach} {b0 : Nat} {v : Value} {d : DataW H} {p : List MemPlace} (hv : Value.okWide Tryz.prog w r b0 25 v) (h : DataW.Trod enc Tryz.prog w base spare held 25 v d p) :
   ∃ (a : Option Addr) (l : List OpI) (cap : Nat),v = .slice a l.length cap ∧ OpsAt w a l:=by
 obtain ⟨a,len,cap,rfl⟩:=okWide_slice Tryz.underlying25 hv
 obtain ⟨fuel,hf⟩:=h
 rcases open_slice Tryz.underlying25 hf with ⟨hcs,_⟩ | ⟨x,l,c,m,n,D,Pl,hcs,hb,hl,hm,hmm,hx,hi⟩
 · simp [Value.cells] at hcs
   obtain ⟨rfl,rfl,rfl⟩:=hcs
   exact ⟨none,[],0,rfl,fun i o h => by simp at h⟩
 · simp [Value.cells] at hcs
   obtain ⟨rfl,rfl,rfl⟩:=hcs
   have hlm : len ≤ m:=by rw [hmm]; split <;> omega
   by_cases h0 : len = 0
   · subst h0; exact ⟨some x,[],cap,rfl,fun i o h => by simp at h⟩
   obtain ⟨k,off,rfl⟩ : ∃ k off,x = ⟨k,off,none⟩:=by
     obtain ⟨cs',hc,_⟩:=hi 0 (by omega)
     rw [cells42] at hc
     obtain ⟨_,hcl,hat⟩:=World.cells?_some hc
     have h1:=hat 0 (by decide)
     obtain ⟨kk,off,sp⟩:=x
     refine ⟨kk,off,?_⟩
     rw [List.getElem?_eq_getElem (by omega)] at h1
     have h2 : w.cell? ⟨kk,off,sp⟩ = some _:=h1
     cases sp with
     | none => rfl
     | some s => unfold World.cell? at h2; split at h2 <;> simp at h2
   have key : ∀ i,i < len → ∃ o : OpI,(∃ k' off',(some ⟨k,off,none⟩ : Option Addr) = some ⟨k',off',none⟩ ∧ k' < w.heap.size ∧
       w.cell? ⟨k',off' + i * 5,none⟩ = some (.int .i64 o.kind) ∧ w.cell? ⟨k',off' + i * 5 + 1,none⟩ = some (.int .i64 o.h) ∧ w.cell? ⟨k',off' + i * 5 + 2,none⟩ = some (.int .i64 o.o) ∧ w.cell? ⟨k',off' + i * 5 + 3,none⟩ = some (.int .u64 o.key) ∧ w.cell? ⟨k',off' + i * 5 + 4,none⟩ = some (.int .i64 o.d)):=fun i hil => by
     obtain ⟨cs',hc,ht'⟩:=hi i (by omega)
     rw [cells42] at hc
     obtain ⟨ys,n',hn',hy,hlen,hyl,hg⟩:=DataW.trod_struct Tryz.underlying42 ht'
     obtain ⟨_,hcl,hat⟩:=World.cells?_some hc
     match cs',hcl,ys,hyl with
     | [c0,c1,c2,c3,c4],_,[y0,y1,y2,y3,y4],_ =>
       have s0 : DataW.trod enc Tryz.prog w base spare held n' 3 [c0] = some y0:=by simpa [Value.cells,cells3,cells22,cells2] using hg 0 _ rfl
       have s1 : DataW.trod enc Tryz.prog w base spare held n' 3 [c1] = some y1:=by simpa [Value.cells,cells3,cells22,cells2] using hg 1 _ rfl
       have s2 : DataW.trod enc Tryz.prog w base spare held n' 3 [c2] = some y2:=by simpa [Value.cells,cells3,cells22,cells2] using hg 2 _ rfl
       have s3 : DataW.trod enc Tryz.prog w base spare held n' 22 [c3] = some y3:=by simpa [Value.cells,cells3,cells22,cells2] using hg 3 _ rfl
       have s4 : DataW.trod enc Tryz.prog w base spare held n' 2 [c4] = some y4:=by simpa [Value.cells,cells3,cells22,cells2] using hg 4 _ rfl
       obtain ⟨a0,e0,_,_⟩:=DataW.trod_int Tryz.underlying3 s0
       obtain ⟨a1,e1,_,_⟩:=DataW.trod_int Tryz.underlying3 s1
       obtain ⟨a2,e2,_,_⟩:=DataW.trod_int Tryz.underlying3 s2
       obtain ⟨a3,e3,_,w3⟩:=DataW.trod_int Tryz.underlying22 s3
       obtain ⟨a4,e4,_,_⟩:=DataW.trod_int Tryz.underlying2 s4
       obtain ⟨kk,rfl,hkk⟩:=nat_of w3
       simp at e0 e1 e2 e3 e4
       subst e0 e1 e2 e3 e4
       have hc0:=hat 0 (by decide)
       have hc1:=hat 1 (by decide)
       have hc2:=hat 2 (by decide)
       have hc3:=hat 3 (by decide)
       have hc4:=hat 4 (by decide)
       rw [addr_add,addr_add] at hc0 hc1 hc2 hc3 hc4
       exact ⟨⟨a0,a1,a2,kk,a4⟩,k,off,rfl,lt_of_cell (a:=⟨k,off + i * 5 + 0,none⟩) hc0,hc0,hc1,hc2,hc3,hc4⟩
   obtain ⟨l,hl2,hP⟩:=list_of _ len key
   exact ⟨_,l,cap,by rw [hl2],fun i o ho => hP i o ho⟩
end
end Go.Proofs.YtejaocnhekjfiaaGreatDoor
namespace Go
open Go.RowKit
set_option linter.unusedVariables false
structure AbidesB (b B : Nat) (J : Nat → World → Prop) : Prop where
 own : OwnFrom B J
 box : ∀ (k : Nat) (W : World) (v : Value),J k W → J k (W.setCell ⟨b,0,none⟩ v)
theorem AbidesB.alloc {b B : Nat} {J : Nat → World → Prop} (h : AbidesB b B J) {k : Nat} {W : World} (o : Obj) (hs : J k W) : J k (W.alloc o):=h.own.alloc o hs
theorem AbidesB.putObj {b B : Nat} {J : Nat → World → Prop} (h : AbidesB b B J) {k : Nat} {W : World} {l : Nat} {o : Obj} (o' : Obj) (hs : J k W) (hB : B ≤ l) (hl : W.heap[l]? = some o) (ho : o.isCells = false) : J k (W.putObj l o'):=h.own.putObj o' hs hB hl ho
def SeqB {α : Type} (F : Fence) (n : Nat) (P : Program) (g : Nat) (lb : Array Value) (encs : α → Array Value) (Kp : World → World → Prop) (b : Nat) (xs : List α) (w : World) : Prop:=
 ∀ (l : Nat) (J : Nat → World → Prop) (W : World),Below w.heap.size w W → AbidesB b W.heap.size J →
   (∀ k x W1,xs[k]? = some x → J k W1 → YieldAt F (n - 1) P l (encs x) W1 fun e W' => e = .returned (.bool true) ∧ J (k + 1) W' ∧ Kp W1 W') →
   J 0 W → CallsIn F n P g (#[.func (.yield l) #[] #[]] ++ lb) W fun e W' => (∃ v,e = .returned v) ∧ J xs.length W'
def roundB (B : Nat) (Kp : World → World → Prop) (I : Nat → World → Prop) (k : Nat) (W : World) : Exit → Act → World → Prop
 | .normal,_,W' => KeepsFrom B W W' ∧ Kp W W' ∧ I (k + 1) W'
 | _,_,_ => False
variable {F : Fence} {n : Nat} {P : Program}
theorem wpIn_rangeFunc_boxA {α : Type} {g : Operand} {ps : Array Tmp} {assign body : Code} {Q : Exit → Act → World → Prop} {a : Act} {w : World}
   (hro : F.round = none) (h1 : 1 ≤ n) {gf : Nat} {lb : Array Value} (hg : a.eval g = .func (.func gf) #[] lb) (hFg : F.fn gf) (eg : ∀ args w,(callFunc gf args).run P w = .ok (.enter gf args) w)
   {encs : α → Array Value} {Kp : World → World → Prop} {b : Nat} {xs : List α} (hseq : SeqB F (n - 1) P gf lb encs Kp b xs w) (hb : b < w.heap.size)
   (hKt : ∀ {A B C : World},Kp A B → Kp B C → Kp A C) (hKb : ∀ (W : World) (l : Nat) (o' : Obj),w.heap.size ≤ l → Kp W (W.putObj l o')) (hps : ∀ x,(encs x).size = ps.size)
   (I : Nat → World → Prop) (hI : AbidesB b w.heap.size I) (h0 : I 0 w) (Ax : α → Act → World → Prop) (hAx : ∀ x a',OwnFrom w.heap.size (fun (_ : Unit) W => Ax x a' W))
   (hassign : ∀ (l k : Nat) (x : α) (W : World) (K : Act → World → Prop),I k W → (∀ a' W',KeepsFrom w.heap.size W W' → Kp W W' → I k W' → Ax x a' W' → K a' W') →
     assign.wpIn (F.inRound l) (n - 1 - 1) P (Exit.then K (fun _ _ _ => False)) { tmps:=(ps.zip (encs x)).foldl (fun t (p,v) => t.setIfInBounds p v) a.tmps,defers:=[] } W)
   (hbody : ∀ (l k : Nat) (x : α) (a' : Act) (W : World),xs[k]? = some x → I k W → Ax x a' W → body.wpIn (F.inRound l) (n - 1 - 1) P (roundB w.heap.size Kp I k W) a' W)
   (hdone : ∀ (D : Nat) (W : World),w.heap.size ≤ D → I xs.length W → W.heap[D]? = some (.deferred (some [])) → Q .normal { a with defers:={ target:=.collected D,args:=#[] } :: a.defers } W) :
   (Code.rangeFunc g ps assign body).wpIn F n P Q a w:=by
 refine wpIn_rangeFunc fun fn hfn => ?_
 rw [hro]
 let R : LoopState → Loop:=fun st => { state:=st,pending:=none,fn,tmps:=a.tmps,params:=ps,assign,body,defers:=w.heap.size }
 have hs2 : (w.alloc (.deferred (some []))).heap.size = w.heap.size + 1:=by simp
 have hLo : ((w.alloc (.deferred (some []))).alloc (.loop (R .ready))).heap[w.heap.size + 1]? = some (.loop (R .ready)):=by
   have:=World.alloc_heap_new (w.alloc (.deferred (some []))) (.loop (R .ready))
   rwa [hs2] at this
 have hDe : ((w.alloc (.deferred (some []))).alloc (.loop (R .ready))).heap[w.heap.size]? = some (.deferred (some [])):=
   (Below.heap_alloc _ _ _ (by rw [hs2]; omega)).trans (World.alloc_heap_new w _)
 have hI0 : I 0 ((w.alloc (.deferred (some []))).alloc (.loop (R .ready))):=hI.alloc _ (hI.alloc _ h0)
 have hBl : Below w.heap.size w ((w.alloc (.deferred (some []))).alloc (.loop (R .ready))):=((Below.refl _ w).alloc (Nat.le_refl _) _).alloc (by simp) _
 have hen : (Instr.enterLoop fn a.tmps ps assign body none).run P w = .ok (w.heap.size + 1,[{ target:=.collected w.heap.size,args:=#[] }]) ((w.alloc (.deferred (some []))).alloc (.loop (R .ready))):=run_enterLoop_outer _ _ _ _ _
 have hsz : ((w.alloc (.deferred (some []))).alloc (.loop (R .ready))).heap.size = w.heap.size + 2:=by simp
 generalize (w.alloc (.deferred (some []))).alloc (.loop (R .ready)) = V at *
 refine ⟨w.heap.size + 1,_,V,{ target:=.fn (.func gf) lb,args:=#[.func (.yield (w.heap.size + 1)) #[] #[]] },V,gf,#[.func (.yield (w.heap.size + 1)) #[] #[]] ++ lb,V,hen,?_,?_,?_,fun _ => h1,?_⟩
 · simp only [resolve,hg]; simp [go_sem]
 · intro f' hf'; simp [Target.leads] at hf'; subst hf'; exact hFg
 · simp [invoke,go_sem,eg]
 have hkeep : ∀ {X Y : World} {row : Option Nat} {o : Obj} {j : Nat},j < w.heap.size + 2 → X.grownBy Y row → (∀ r,row = some r → V.heap.size ≤ r ∧ ∃ o : Obj,X.heap[r]? = some o ∧ o.isCells = false) → X.heap[j]? = some o → Y.heap[j]? = some o:=
   fun hj2 hgr hr hX => (hgr.block _ (Array.getElem?_eq_some_iff.1 hX).1 (fun e => by have:=(hr _ e.symm).1; omega)).trans hX
 refine (hseq (w.heap.size + 1) (fun k W => I k W ∧ W.heap[w.heap.size + 1]? = some (.loop (R .ready)) ∧ W.heap[w.heap.size]? = some (.deferred (some []))) V hBl ?_ ?_ ⟨hI0,hLo,hDe⟩).mono ?_
 · refine ⟨fun k X Y row hJ hgr hr => ⟨hI.own k X Y row hJ.1 hgr (fun r e => ⟨by have:=(hr r e).1; omega,(hr r e).2⟩),hkeep (by omega) hgr hr hJ.2.1,hkeep (by omega) hgr hr hJ.2.2⟩,fun k X v hJ => ?_⟩
   exact ⟨hI.box k X v hJ.1,(Below.heap_setCell _ _ _ _ (show w.heap.size + 1 ≠ b by omega)).trans hJ.2.1,(Below.heap_setCell _ _ _ _ (show w.heap.size ≠ b by omega)).trans hJ.2.2⟩
 · rintro k x W hx ⟨hi,hl,hd⟩
   refine ⟨fn,_,assign,body,run_yield (P:=P) (args:=encs x) hl (hps x),roundIn_of_wpIn hfn (hassign _ k x W _ hi fun a' W' hk' hp' hi' ha' => ?_)⟩
   have hl':=hk'.same _ _ (by omega) hl rfl
   have hd':=hk'.same _ _ (Nat.le_refl _) hd rfl
   have hlt : w.heap.size + 1 < W'.heap.size:=(Array.getElem?_eq_some_iff.1 hl').1
   refine ⟨_,run_beginRound hl' rfl,?_⟩
   have hl2 : (W'.putObj (w.heap.size + 1) (.loop { R .ready with state:=.busy })).heap[w.heap.size + 1]? = some (.loop { R .ready with state:=.busy }):=World.putObj_heap_same hlt
   have hd2 : (W'.putObj (w.heap.size + 1) (.loop { R .ready with state:=.busy })).heap[w.heap.size]? = some (.deferred (some [])):=(World.putObj_heap_other (by omega)).trans hd'
   refine wpIn_mono (hbody _ k x a' _ hx (hI.putObj _ hi' (by omega) hl' rfl) ((hAx x a').putObj (s:=()) _ ha' (by omega) hl' rfl)) ?_
   intro e a3 W3 hp
   cases e with
   | normal =>
     obtain ⟨hk3,hp3,hi3⟩:=hp
     have hl3:=hk3.same _ _ (by omega) hl2 rfl
     have hd3:=hk3.same _ _ (Nat.le_refl _) hd2 rfl
     refine ⟨_,_,run_endRound none hl3,rfl,⟨hI.putObj _ hi3 (by omega) hl3 rfl,World.putObj_heap_same (Array.getElem?_eq_some_iff.1 hl3).1,(World.putObj_heap_other (by omega)).trans hd3⟩,hKt hp' (hKt (hKt (hKb _ _ _ (by omega)) hp3) (hKb _ _ _ (by omega)))⟩
   | ret => exact hp.elim
   | exit id => exact hp.elim
   | goto t => exact hp.elim
   | panic ch => exact hp.elim
   | outgrown => exact hp.elim
 · rintro e W2 ⟨⟨v,rfl⟩,hi,hl,hd⟩
   exact ⟨none,_,run_endLoop hl (by intro h; cases h),hdone _ _ (Nat.le_refl _) (hI.putObj _ hi (by omega) hl rfl) ((World.putObj_heap_other (by omega)).trans hd)⟩
theorem wpIn_rangeFunc_box {α : Type} {g : Operand} {ps : Array Tmp} {assign body : Code} {Q : Exit → Act → World → Prop} {a : Act} {w : World}
   (hro : F.round = none) (h1 : 1 ≤ n) {gf : Nat} {lb : Array Value} (hg : a.eval g = .func (.func gf) #[] lb) (hFg : F.fn gf) (eg : ∀ args w,(callFunc gf args).run P w = .ok (.enter gf args) w)
   {encs : α → Array Value} {Kp : World → World → Prop} {b : Nat} {xs : List α} (hseq : SeqB F (n - 1) P gf lb encs Kp b xs w) (hb : b < w.heap.size)
   (hKr : ∀ W,Kp W W) (hKt : ∀ {A B C : World},Kp A B → Kp B C → Kp A C) (hKb : ∀ (W : World) (l : Nat) (o' : Obj),w.heap.size ≤ l → Kp W (W.putObj l o')) (hps : ∀ x,(encs x).size = ps.size)
   (I : Nat → World → Prop) (hI : AbidesB b w.heap.size I) (h0 : I 0 w) (a₁ : α → Act)
   (hassign : ∀ (l : Nat) (x : α) (W : World) (K : Act → World → Prop),K (a₁ x) W →
     assign.wpIn (F.inRound l) (n - 1 - 1) P (Exit.then K (fun _ _ _ => False)) { tmps:=(ps.zip (encs x)).foldl (fun t (p,v) => t.setIfInBounds p v) a.tmps,defers:=[] } W)
   (hbody : ∀ (l k : Nat) (x : α) (W : World),xs[k]? = some x → I k W → body.wpIn (F.inRound l) (n - 1 - 1) P (roundB w.heap.size Kp I k W) (a₁ x) W)
   (hdone : ∀ (D : Nat) (W : World),w.heap.size ≤ D → I xs.length W → W.heap[D]? = some (.deferred (some [])) → Q .normal { a with defers:={ target:=.collected D,args:=#[] } :: a.defers } W) :
   (Code.rangeFunc g ps assign body).wpIn F n P Q a w:=
 wpIn_rangeFunc_boxA hro h1 hg hFg eg hseq hb hKt hKb hps I hI h0 (fun x a' _ => a' = a₁ x) (fun _ _ _ _ _ _ hs _ _ => hs)
   (fun l k x W K hi hK => hassign l x W K (hK _ _ (KeepsFrom.refl _ _) (hKr W) hi rfl)) (fun l k x a' W hx hi e => by subst e; exact hbody l k x W hx hi) hdone
end Go
namespace Go.Proofs.YtejaocnhekjfiaaGreatDoor
open Go.RowKit Go.Shelf
set_option linter.unusedVariables false
attribute [local go_sem] Oper.semAt_some
inductive Splits : ByteArray → List ByteArray → Prop
 | last (s : ByteArray) : Lib.indexByte s.data.toList 10 = -1 → Splits s [s]
 | more (s : ByteArray) (i : Nat) (xs : List ByteArray) : Lib.indexByte s.data.toList 10 = (i : Int) → i < s.size → Splits (s.extract (i + 1) s.size) xs → Splits s (s.extract 0 i :: xs)
set_option maxRecDepth 100000 in
set_option maxHeartbeats 1000000 in
theorem index_nl (s : ByteArray) (w : World) : Calls Tryz.prog 114 #[.string s,.string ⟨#[10]⟩] w fun e w' => e = .returned (.int .i64 (Lib.indexByte s.data.toList 10)) ∧ w' = w:=by
 have K:=Lib.hid (Tryz.stringslite_Index_one s 10)
 generalize Lib.indexByte s.data.toList 10 = r at *
 go_enter Tryz.func114,Tryz.ntmps114
 go_wp2_with fail
 refine (K.out _).mono ?_
 rintro e w1 ⟨rfl,rfl⟩
 go_wp2_with fail
 go_ret
 exact ⟨rfl,rfl⟩
def strAt (w : World) (b : Nat) (s : ByteArray) : Prop:=w.heap[b]? = some (.cells #[.string s] 9 (0,0))
theorem strAt.cell {w b s} (h : strAt w b s) : w.cell? ⟨b,0,none⟩ = some (.string s):=(cell_of_row _ _ _ _ _ _ h).trans rfl
theorem strAt.frozen {w b s} (h : strAt w b s) : w.frozen? ⟨b,0,none⟩ = false:=frozen_of_row _ _ _ _ _ h
theorem strAt.set {w b s} (h : strAt w b s) (t : ByteArray) : strAt (w.setCell ⟨b,0,none⟩ (.string t)) b t:=by
 unfold strAt; rw [heap_setCell_same _ _ _ _ _ _ h]; rfl
structure Kp3 (b0 : Nat) (W W' : World) : Prop where
 size : W.heap.size ≤ W'.heap.size
 h0 : W'.heap[b0]? = W.heap[b0]?
 h1 : W'.heap[b0 + 1]? = W.heap[b0 + 1]?
 h2 : W'.heap[b0 + 2]? = W.heap[b0 + 2]?
def szAt (w : World) (b : Nat) : Nat:=match w.cell? ⟨b,0,none⟩ with | some (.string s) => s.size | _ => 0
set_option maxRecDepth 100000 in
set_option maxHeartbeats 2000000 in
theorem split_seq (n b0 : Nat) (s : ByteArray) (xs : List ByteArray) (hs : Splits s xs) (hsz : s.size ≤ 1048576) (w : World) (h0 : strAt w b0 s) (h1 : strAt w (b0 + 1) ⟨#[10]⟩) (h2 : w.heap[b0 + 2]? = some (.cells #[.int .i64 0] 3 (0,0))) :
   SeqB Fence.wide n Tryz.prog 113 #[.pointer (some ⟨b0 + 1,0,none⟩),.pointer (some ⟨b0,0,none⟩),.pointer (some ⟨b0 + 2,0,none⟩)] (fun x : ByteArray => #[.string x]) (Kp3 b0) b0 xs w:=fun l J W hW hJ hY hJ0 => by
 have g0 : strAt W b0 s:=(hW.block _ (lt_of_block h0)).trans h0
 have g1 : strAt W (b0 + 1) ⟨#[10]⟩:=(hW.block _ (lt_of_block h1)).trans h1
 have g2 : W.heap[b0 + 2]? = some (.cells #[.int .i64 0] 3 (0,0)):=(hW.block _ (lt_of_block h2)).trans h2
 have d1:=g1.cell
 clear h0 h1 h2 hW
 refine callsIn_of_wp Tryz.func113 rfl trivial ?_ rfl
 simp only [Tryz.ntmps113,List.size_toArray,List.length_cons,List.length_nil,Nat.reduceAdd,Nat.reduceSub,Array.replicate_succ,Array.replicate_zero,List.push_toArray,List.append_toArray,List.nil_append,List.cons_append]
 gi_wp2
 gi_loopw [7] (fun _ wr => ∃ (k : Nat) (cur : ByteArray),Splits cur (xs.drop k) ∧ k < xs.length ∧ cur.size ≤ 1048576 ∧ strAt wr b0 cur ∧ strAt wr (b0 + 1) ⟨#[10]⟩ ∧ wr.heap[b0 + 2]? = some (.cells #[.int .i64 0] 3 (0,0)) ∧ J k wr) (fun _ wr => szAt wr b0)
 case atStart => exact ⟨0,s,by rw [List.drop_zero]; exact hs,by cases hs <;> simp,hsz,g0,g1,g2,hJ0⟩
 case round =>
   obtain ⟨k,cur,hsp,hk,hcs,q0,q1,q2,hJk⟩:=hrel
   clear g0 g1 g2 d1 hs hsz hJ0
   have c0:=q0.cell
   have c1:=q1.cell
   have c2 : wr.cell? ⟨b0 + 2,0,none⟩ = some (.int .i64 0):=(cell_of_row _ _ _ _ _ _ q2).trans rfl
   have KI:=index_nl cur
   have hget : ∀ i,(xs.drop k)[i]? = xs[k + i]?:=fun i => List.getElem?_drop
   have hlen : (xs.drop k).length = xs.length - k:=List.length_drop
   generalize hd : xs.drop k = ys at *
   cases hsp with
   | last _ hi =>
     have hx : xs[k]? = some cur:=(hget 0).symm
     have hkl : k + 1 = xs.length:=by simp at hlen; omega
     obtain ⟨fn,tmps,assign,body,hy,hR⟩:=hY k cur wr hx hJk
     rw [hi] at KI
     clear hget hlen hd hx hi
     gi_wp2
     refine ⟨trivial,fun h => (by cases h),(callsIn_wide.2 (KI _)).mono ?_⟩
     rintro e w1 ⟨rfl,rfl⟩
     gi_wp2
     refine ⟨fun h => (by cases h),hR.mono ?_⟩
     rintro e W3 ⟨rfl,hJ3,hk3⟩
     gi_wp2
     go_end0
     exact ⟨⟨_,rfl⟩,by rw [← hkl]; exact hJ3⟩
   | more _ i zs hi hil hsp2 =>
     have hx : xs[k]? = some (cur.extract 0 i):=(hget 0).symm
     have hne : zs ≠ []:=by cases hsp2 <;> simp
     have hkl : k + 1 < xs.length:=by
       have:=List.length_pos_iff.2 hne
       simp at hlen; omega
     obtain ⟨fn,tmps,assign,body,hy,hR⟩:=hY k _ wr hx hJk
     have hzs : xs.drop (k + 1) = zs:=by rw [← List.drop_drop,hd]; rfl
     rw [hi] at KI
     clear hget hlen hd hx hi
     have i1 : (i : Int) + 0 = i:=by omega
     have hiI : (i : Int) ≤ cur.size:=by omega
     have hi1I : (i : Int) + 1 ≤ cur.size:=by omega
     have hwi : IntKind.i64.wrap ((i : Int) + 1) = (i : Int) + 1:=IntWalk.i64_in _ (by omega)
     have hneg : ¬ (i : Int) < 0:=by omega
     gi_wp2
     refine ⟨trivial,fun h => (by cases h),(callsIn_wide.2 (KI _)).mono ?_⟩
     rintro e w1 ⟨rfl,rfl⟩
     gi_wp2
     all_goals refine ⟨fun h => (by cases h),hR.mono ?_⟩
     all_goals rintro e W3 ⟨rfl,hJ3,hk3⟩
     have q3 : strAt W3 b0 cur:=hk3.h0.trans q0
     have q4 : strAt W3 (b0 + 1) ⟨#[10]⟩:=hk3.h1.trans q1
     have q5 : W3.heap[b0 + 2]? = some (.cells #[.int .i64 0] 3 (0,0)):=hk3.h2.trans q2
     have e0:=q3.cell
     have e1:=q4.cell
     have e3:=q3.frozen
     have hr3 : strAt (W3.setCell ⟨b0,0,none⟩ (.string (cur.extract (i + 1) cur.size))) b0 (cur.extract (i + 1) cur.size):=q3.set _
     have hr4 : strAt (W3.setCell ⟨b0,0,none⟩ (.string (cur.extract (i + 1) cur.size))) (b0 + 1) ⟨#[10]⟩:=(heap_setCell_other _ _ _ _ (show b0 + 1 ≠ b0 by omega)).trans q4
     have hr5 : (W3.setCell ⟨b0,0,none⟩ (.string (cur.extract (i + 1) cur.size))).heap[b0 + 2]? = some (.cells #[.int .i64 0] 3 (0,0)):=(heap_setCell_other _ _ _ _ (show b0 + 2 ≠ b0 by omega)).trans q5
     have hr6 : J (k + 1) (W3.setCell ⟨b0,0,none⟩ (.string (cur.extract (i + 1) cur.size))):=hJ.box _ _ _ hJ3
     gi_wp2
     have hcz : (cur.extract (i + 1) cur.size).size = cur.size - (i + 1):=by rw [ByteArray.size_extract]; omega
     refine ⟨⟨k + 1,cur.extract (i + 1) cur.size,by rw [hzs]; exact hsp2,hkl,by rw [hcz]; omega,hr3,hr4,hr5,hr6⟩,?_⟩
     unfold szAt
     rw [hr3.cell,c0]
     show (cur.extract (i + 1) cur.size).size < cur.size
     rw [hcz]; omega
end Go.Proofs.YtejaocnhekjfiaaGreatDoor
