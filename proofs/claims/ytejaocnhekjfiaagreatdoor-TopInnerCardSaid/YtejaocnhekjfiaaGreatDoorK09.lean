/- Walks and plain laws, part 9: Dot Inn Inn2 Inn3 Ph Ag4 S21Enc S21Put S21Put2 S21Row S21PutRow Low Enc1 Enc2 Enc3 Ag6 Ag7. -/
import Derived.Test.YtejaocnhekjfiaaGreatDoorK01
import Derived.Test.YtejaocnhekjfiaaGreatDoorK02
import Derived.Test.YtejaocnhekjfiaaGreatDoorK06
import Derived.Test.YtejaocnhekjfiaaGreatDoorK08
import Derived.Deep.RegionHeld3
import Derived.Maps.AppendAt
import Derived.StillTailTactics
import Derived.Laws.EntriesVeiled
import Derived.OneCell
import Derived.Lib.SlBytesConst
import Derived.Deep.DeepCutAuto
namespace Go.Proofs.YtejaocnhekjfiaaGreatDoor
open Go.RowKit S02
set_option linter.unusedVariables false
def dotS (xs ys : List Int) : Int:=sm (List.zipWith (· * ·) xs ys)
def dotK (xs ys : List Int) (k : Nat) : Int:=sm ((List.zipWith (· * ·) xs ys).take k)
theorem dotK_succ {xs ys : List Int} {k : Nat} {x y : Int} (hx : xs[k]? = some x) (hy : ys[k]? = some y) : dotK xs ys (k + 1) = dotK xs ys k + x * y:=by
 unfold dotK; exact sm_take (by rw [List.getElem?_zipWith,hx,hy])
theorem dotK_all {xs ys : List Int} {n : Nat} (hx : xs.length = n) (hy : ys.length = n) : dotK xs ys n = dotS xs ys:=by
 unfold dotK dotS; rw [List.take_of_length_le (by rw [List.length_zipWith]; omega)]
set_option maxRecDepth 100000 in
set_option maxHeartbeats 4000000 in
theorem dot_ok (xs ys : List Int) (b1 o1 b2 o2 n c1 c2 : Nat) (w : World) (h1 : Row w (some ⟨b1,o1,none⟩) n (xs.map iv)) (h2 : Row w (some ⟨b2,o2,none⟩) n (ys.map iv)) (hn : n ≤ 65535)
   (i1 : In64 xs) (i2 : In64 ys) (hf : ∀ k,k ≤ n → Fits (dotK xs ys k)) :
   Calls Tryz.prog 189 #[.slice (some ⟨b1,o1,none⟩) n c1,.slice (some ⟨b2,o2,none⟩) n c2] w fun e w' => e = .returned (.tuple #[W (dotS xs ys),.bool true]) ∧ Below w.heap.size w w':=by
 have hl1 : xs.length = n:=by simpa using h1.1
 have hl2 : ys.length = n:=by simpa using h2.1
 have HL:=Lib.hid (And.intro hl1 hl2)
 have HR1:=Lib.hid h1; have HR2:=Lib.hid h2; have HI1:=Lib.hid i1; have HI2:=Lib.hid i2; have HF:=Lib.hid hf
 have H4:=Lib.hid ((PAt.new w 0 0 rfl).alloc (.cells #[.int .i64 0,.int .u64 0] 148))
 have H6:=Lib.hid (PAt.new (w.alloc (.cells #[.int .i64 0,.int .u64 0] 148)) 0 0 (b:=w.heap.size + 1) (by simp))
 have HB:=Lib.hid (show Below w.heap.size w ((w.alloc (.cells #[.int .i64 0,.int .u64 0] 148)).alloc (.cells #[.int .i64 0,.int .u64 0] 148)) from ((Below.refl _ _).alloc (Nat.le_refl _) _).alloc (by simp) _)
 clear h1 h2 i1 i2 hf hl1 hl2
 go_enter Tryz.func189,Tryz.ntmps189
 go_wp2_with fail
 generalize ((w.alloc (.cells #[.int .i64 0,.int .u64 0] 148)).alloc (.cells #[.int .i64 0,.int .u64 0] 148)) = w0 at *
 obtain ⟨B4,hB4⟩ : ∃ g,w.heap.size = g:=⟨_,rfl⟩
 obtain ⟨B6,hB6⟩ : ∃ g,B4 + 1 = g:=⟨_,rfl⟩
 rw [hB4] at H4 H6 ⊢
 rw [hB6] at H6 ⊢
 have G:=Lib.hid (And.intro hB4 hB6); clear hB4 hB6
 go_loopw [19] (fun u wr => ∃ k : Nat,k ≤ n ∧ u = .int .i64 k ∧ Hid (PAt wr B6 (hiOf (dotK xs ys k)) (loOf (dotK xs ys k))) ∧ Hid (PAt wr B4 0 0) ∧ Hid (Below w.heap.size w wr)) (fun u _ => n - (intOf u).toNat)
 case atStart => exact ⟨0,by omega,rfl,H6,H4,HB⟩
 case round =>
   clear H4 H6 HB
   obtain ⟨k,hk,rfl,H6,H4,HB⟩:=hrel
   by_cases hlt : k < n
   · obtain ⟨x,hx⟩ : ∃ x,xs[k]? = some x:=⟨_,List.getElem?_eq_getElem (by have:=HL.out; omega)⟩
     obtain ⟨y,hy⟩ : ∃ y,ys[k]? = some y:=⟨_,List.getElem?_eq_getElem (by have:=HL.out; omega)⟩
     obtain ⟨b,o,e,hcx,hbx⟩:=HR1.out.2 k (iv x) (by simp [hx])
     cases e
     obtain ⟨b,o,e,hcy,hby⟩:=HR2.out.2 k (iv y) (by simp [hy])
     cases e
     have cx : wr.cell? ⟨b1,o1 + k,none⟩ = some (.int .i64 x):=by rw [HB.out.cell hbx]; exact hcx
     have cy : wr.cell? ⟨b2,o2 + k,none⟩ = some (.int .i64 y):=by rw [HB.out.cell hby]; exact hcy
     have ix:=HI1.out x (List.mem_of_getElem? hx)
     have iy:=HI2.out y (List.mem_of_getElem? hy)
     have hp:=S02.prod_bound ix.1 ix.2 iy.1 iy.2
     have hs:=dotK_succ hx hy
     have f1:=HF.out k (by omega)
     have f2:=HF.out (k + 1) (by omega)
     rw [hs] at f2
     have KT:=Lib.hid (fun w => times_any x y w ix.1 ix.2 iy.1 iy.2)
     have KA:=Lib.hid (fun w => add_fits (dotK xs ys k) (x * y) w f1 (by unfold Fits; omega) f2)
     rw [← hs] at KA
     unfold W at KT KA
     have lB2:=Lib.hid (show b2 < wr.heap.size from Nat.lt_of_lt_of_le hby HB.out.size)
     have lB6:=Lib.hid (lt_of_block H6.out)
     have HN4:=Lib.hid (show B4 ≠ B6 by have:=G.out; omega)
     clear hcx hcy hbx hby ix iy hp hs f1 f2 hx hy
     generalize hiOf (dotK xs ys k) = sh at *
     generalize loOf (dotK xs ys k) = sl at *
     generalize hiOf (x * y) = ph at *
     generalize loOf (x * y) = pl at *
     generalize hth : hiOf (dotK xs ys (k + 1)) = th at *
     generalize htl : loOf (dotK xs ys (k + 1)) = tl at *
     have HT:=Lib.hid (And.intro hth htl); clear hth htl
     have a0:=H6.out.c0
     have a1:=H6.out.c1
     obtain ⟨v0,hv0⟩ : ∃ v0,v0 = wr:=⟨_,rfl⟩
     subst hv0
     go_upto_region 7 with fail
     have T:=Lib.hid (Below.refl v0.heap.size v0)
     have s : v0.cell? ⟨B6,0,none⟩ = some (.int .i64 sh) ∧ v0.cell? ⟨B6,1,none⟩ = some (.int .u64 sl) ∧ v0.cell? ⟨b2,o2 + k,none⟩ = some (.int .i64 y):=⟨a0,a1,cy⟩
     go_cut [9,10] (fun s9 s10 wx => ∃ q : Nat,s9 = .pointer (some ⟨q,0,none⟩) ∧ s10 = .bool true ∧ PAt wx q th tl ∧ Below v0.heap.size v0 wx)
     case first =>
       go_region_held3 (fun w' => w'.cell? ⟨B6,0,none⟩ = some (.int .i64 sh) ∧ w'.cell? ⟨B6,1,none⟩ = some (.int .u64 sl) ∧ w'.cell? ⟨b2,o2 + k,none⟩ = some (.int .i64 y))
         (first | exact s | exact ⟨cell_make s.1 _,cell_make s.2.1 _,cell_make s.2.2 _⟩ | exact ⟨two_keep s.1 N0.out,two_keep s.2.1 N0.out,two_keep s.2.2 N1.out⟩)
         (first
           | (go_at_call 220; ((with_reducible refine (KT.out _).mono ?_)); rintro e x1 ⟨rfl,hb1⟩; (first | ((with_reducible have Z:=zat_keep Z.out hb1); (have Z:=Lib.hid Z); (have N0:=Lib.hid (show B6 ≠ _ from Nat.ne_of_lt (Nat.lt_of_lt_of_le lB6.out Z.out.1))); (have N1:=Lib.hid (show b2 ≠ _ from Nat.ne_of_lt (Nat.lt_of_lt_of_le lB2.out Z.out.1))); (have z0:=Z.out.2.c0); (have z1:=Z.out.2.c1); (have z2:=Z.out.2.f 0); (have z3:=Z.out.2.f 1)) | ((with_reducible have Z:=zat_make T.out hb1); (have Z:=Lib.hid Z); (have N0:=Lib.hid (show B6 ≠ _ from Nat.ne_of_lt (Nat.lt_of_lt_of_le lB6.out Z.out.1))); (have N1:=Lib.hid (show b2 ≠ _ from Nat.ne_of_lt (Nat.lt_of_lt_of_le lB2.out Z.out.1))); (have z0:=Z.out.2.c0); (have z1:=Z.out.2.c1); (have z2:=Z.out.2.f 0); (have z3:=Z.out.2.f 1)) | ((with_reducible have Z:=zat_make_draw T.out hb1); (have Z:=Lib.hid Z); (have N0:=Lib.hid (show B6 ≠ _ from Nat.ne_of_lt (Nat.lt_of_lt_of_le lB6.out Z.out.1))); (have N1:=Lib.hid (show b2 ≠ _ from Nat.ne_of_lt (Nat.lt_of_lt_of_le lB2.out Z.out.1))); (have z0:=Z.out.2.c0); (have z1:=Z.out.2.c1); (have z2:=Z.out.2.f 0); (have z3:=Z.out.2.f 1)) | skip); have T : Hid (Below v0.heap.size v0 x1):=Lib.hid (by first | with_reducible exact Below.then T.out hb1 | with_reducible exact then_draw T.out hb1 | with_reducible exact then_make T.out hb1 | with_reducible exact then_make_draw T.out hb1); clear hb1; have s : x1.cell? ⟨B6,0,none⟩ = some (.int .i64 sh) ∧ x1.cell? ⟨B6,1,none⟩ = some (.int .u64 sl) ∧ x1.cell? ⟨b2,o2 + k,none⟩ = some (.int .i64 y):=⟨(T.out.cell lB6.out).trans a0,(T.out.cell lB6.out).trans a1,(T.out.cell lB2.out).trans cy⟩)
           | (go_at_call 178; ((with_reducible refine (KA.out _).mono ?_)); rintro e x2 ⟨rfl,hb2⟩; (first | ((with_reducible have Z:=zat_keep Z.out hb2); (have Z:=Lib.hid Z); (have N0:=Lib.hid (show B6 ≠ _ from Nat.ne_of_lt (Nat.lt_of_lt_of_le lB6.out Z.out.1))); (have N1:=Lib.hid (show b2 ≠ _ from Nat.ne_of_lt (Nat.lt_of_lt_of_le lB2.out Z.out.1))); (have z0:=Z.out.2.c0); (have z1:=Z.out.2.c1); (have z2:=Z.out.2.f 0); (have z3:=Z.out.2.f 1)) | ((with_reducible have Z:=zat_make T.out hb2); (have Z:=Lib.hid Z); (have N0:=Lib.hid (show B6 ≠ _ from Nat.ne_of_lt (Nat.lt_of_lt_of_le lB6.out Z.out.1))); (have N1:=Lib.hid (show b2 ≠ _ from Nat.ne_of_lt (Nat.lt_of_lt_of_le lB2.out Z.out.1))); (have z0:=Z.out.2.c0); (have z1:=Z.out.2.c1); (have z2:=Z.out.2.f 0); (have z3:=Z.out.2.f 1)) | ((with_reducible have Z:=zat_make_draw T.out hb2); (have Z:=Lib.hid Z); (have N0:=Lib.hid (show B6 ≠ _ from Nat.ne_of_lt (Nat.lt_of_lt_of_le lB6.out Z.out.1))); (have N1:=Lib.hid (show b2 ≠ _ from Nat.ne_of_lt (Nat.lt_of_lt_of_le lB2.out Z.out.1))); (have z0:=Z.out.2.c0); (have z1:=Z.out.2.c1); (have z2:=Z.out.2.f 0); (have z3:=Z.out.2.f 1)) | skip); have T : Hid (Below v0.heap.size v0 x2):=Lib.hid (by first | with_reducible exact Below.then T.out hb2 | with_reducible exact then_draw T.out hb2 | with_reducible exact then_make T.out hb2 | with_reducible exact then_make_draw T.out hb2); clear hb2; have s : x2.cell? ⟨B6,0,none⟩ = some (.int .i64 sh) ∧ x2.cell? ⟨B6,1,none⟩ = some (.int .u64 sl) ∧ x2.cell? ⟨b2,o2 + k,none⟩ = some (.int .i64 y):=⟨(T.out.cell lB6.out).trans a0,(T.out.cell lB6.out).trans a1,(T.out.cell lB2.out).trans cy⟩))
       all_goals go_wp2_with fail
       all_goals go_meet
       all_goals first
         | exact ⟨_,rfl,rfl,PAt.new _ _ _ rfl,T.out.alloc T.out.size _⟩
         | exact ⟨_,rfl,rfl,two_set Z.out.2,(T.out.setCell Z.out.1 _).setCell Z.out.1 _⟩
     case rest =>
       obtain ⟨q,rfl,rfl,hq,hb⟩:=hcut
       have H6c:=Lib.hid (H6.out.below hb)
       have H4c:=Lib.hid (H4.out.below hb)
       have HBc:=Lib.hid (HB.out.then hb)
       have q0:=hq.c0
       have q1:=hq.c1
       have d0:=H6c.out.c0
       have d1:=H6c.out.c1
       have e0:=H6c.out.f 0
       have e1:=H6c.out.f 1
       have HE:=Lib.hid (show PAt ((wc.setCell ⟨B6,0,none⟩ (.int .i64 th)).setCell ⟨B6,1,none⟩ (.int .u64 tl)) B6 th tl ∧ PAt ((wc.setCell ⟨B6,0,none⟩ (.int .i64 th)).setCell ⟨B6,1,none⟩ (.int .u64 tl)) B4 0 0 ∧ Below w.heap.size w ((wc.setCell ⟨B6,0,none⟩ (.int .i64 th)).setCell ⟨B6,1,none⟩ (.int .u64 tl)) from
         ⟨two_set H6c.out,two_other H4c.out HN4.out,(HBc.out.setCell (p:=⟨B6,0,none⟩) (by have:=G.out; show w.heap.size ≤ B6; omega) _).setCell (p:=⟨B6,1,none⟩) (by have:=G.out; show w.heap.size ≤ B6; omega) _⟩)
       clear hq hb a0 a1 cx cy T s
       go_wp2_with fail
       go_roundw
       case rel => exact ⟨k + 1,by omega,by go_num,Lib.hid (by rw [HT.out.1,HT.out.2]; exact HE.out.1),Lib.hid HE.out.2.1,Lib.hid HE.out.2.2⟩
       case measure => simp [intOf]; omega
   · have hkn : k = n:=by omega
     subst hkn
     rw [dotK_all HL.out.1 HL.out.2] at H6
     have d0:=H6.out.c0
     have d1:=H6.out.c1
     have q0:=H4.out.c0
     have q1:=H4.out.c1
     have e0:=H4.out.f 0
     have e1:=H4.out.f 1
     clear hlt
     generalize hh : hiOf (dotS xs ys) = sh at *
     generalize hl : loOf (dotS xs ys) = sl at *
     have HT:=Lib.hid (And.intro hh hl); clear hh hl
     have HE:=Lib.hid (show PAt ((wr.setCell ⟨B4,0,none⟩ (.int .i64 sh)).setCell ⟨B4,1,none⟩ (.int .u64 sl)) B4 sh sl ∧ Below w.heap.size w ((wr.setCell ⟨B4,0,none⟩ (.int .i64 sh)).setCell ⟨B4,1,none⟩ (.int .u64 sl)) from
         ⟨two_set H4.out,(HB.out.setCell (p:=⟨B4,0,none⟩) (by have:=G.out; show w.heap.size ≤ B4; omega) _).setCell (p:=⟨B4,1,none⟩) (by have:=G.out; show w.heap.size ≤ B4; omega) _⟩)
     have r0:=HE.out.1.c0
     have r1:=HE.out.1.c1
     go_wp2_with fail
     refine bodyPost_ret (v:=.tuple #[.agg #[.int .i64 sh,.int .u64 sl],.bool true]) (by simp [results,Tryz.results189,go_sem,r0,r1]) rfl ⟨?_,HE.out.2⟩
     unfold W
     rw [HT.out.1,HT.out.2]
end Go.Proofs.YtejaocnhekjfiaaGreatDoor
namespace Go.Proofs.YtejaocnhekjfiaaGreatDoor
open Go.RowKit S02
set_option linter.unusedVariables false
theorem undrewN {w w' : World} {n : Nat} (h : Below (w.drewN n).heap.size (w.drewN n) w') : Below w.heap.size w w':=⟨h.os,h.tape,h.output,h.size,h.block⟩
theorem drawN (w : World) (n : Nat) : Below w.heap.size w (w.drewN n):=⟨rfl,rfl,rfl,Nat.le_refl _,fun _ _ => rfl⟩
theorem then_makeN {w w' : World} {n : Nat} {p : Obj} (h : Below ((w.drewN n).alloc p).heap.size ((w.drewN n).alloc p) w') : Below w.heap.size w w':=then_make (w:=w) (w0:=w.drewN n) ⟨rfl,rfl,rfl,Nat.le_refl _,fun _ _ => rfl⟩ h
theorem zat_makeN {w w' : World} {n : Nat} (hb : Below ((w.drewN n).alloc (.cells #[.int .i64 0,.int .u64 0] 148)).heap.size ((w.drewN n).alloc (.cells #[.int .i64 0,.int .u64 0] 148)) w') : ZAt w w' w.heap.size:=⟨Nat.le_refl _,(PAt.new (w.drewN n) 0 0 rfl).below hb⟩
def rowL (W : Nat) (zs : List Int) (r : Nat) : List Int:=(zs.drop (r * W)).take W
def leastK (W : Nat) (xs ys : List Int) : Nat → Int
 | 0 => 0
 | k + 1 => if k = 0 ∨ dotS (rowL W xs k) (rowL W ys k) < leastK W xs ys k then dotS (rowL W xs k) (rowL W ys k) else leastK W xs ys k
theorem Ints.part {w : World} {g : Nat} {zs : List Int} (h : Ints w g zs) (k m : Nat) (hk : k + m ≤ zs.length) : Row w (some ⟨g,k,none⟩) m (((zs.drop k).take m).map iv):=by
 refine ⟨by rw [List.length_map,List.length_take,List.length_drop]; omega,fun i x hx => ⟨g,k,rfl,?_,h.lt⟩⟩
 rw [List.getElem?_map,List.getElem?_take] at hx
 by_cases hi : i < m
 · rw [if_pos hi,List.getElem?_drop] at hx
   cases hz : zs[k + i]? with
   | none => rw [hz] at hx; simp at hx
   | some z =>
     rw [hz] at hx
     simp at hx
     subst hx
     exact h.cell hz
 · rw [if_neg hi] at hx; simp at hx
set_option maxRecDepth 100000 in
set_option maxHeartbeats 8000000 in
theorem inner_ok {w b g r b2 g2 r2 c n xs ys} (h : SkIs w b g r c n xs) (h2 : SkIs w b2 g2 r2 c n ys) (hm : c.mode = 1) (i1 : In64 xs) (i2 : In64 ys)
   (hf : ∀ row,row < c.rows → ∀ k,k ≤ c.width → Fits (dotK (rowL c.width xs row) (rowL c.width ys row) k)) :
   Calls Tryz.prog 185 #[.pointer (some ⟨b,0,none⟩),.pointer (some ⟨b2,0,none⟩)] w fun e w' => e = .returned (.tuple #[W (leastK c.width xs ys c.rows),.int .i64 0]) ∧ Below w.heap.size w w':=by
 have H4:=Lib.hid (PAt.new w 0 0 rfl)
 have HB:=Lib.hid ((Below.refl w.heap.size w).alloc (Nat.le_refl _) (.cells #[.int .i64 0,.int .u64 0] 148))
 have KC1:=Lib.hid (fun w' (hb : Below w.heap.size w w') => skconfig_any (h.below hb))
 have KC2:=Lib.hid (fun w' (hb : Below w.heap.size w w') => skconfig_any (h2.below hb))
 have KL1:=Lib.hid (fun w' (hb : Below w.heap.size w w') => sklevel_any (h.below hb))
 have KL2:=Lib.hid (fun w' (hb : Below w.heap.size w w') => sklevel_any (h2.below hb))
 have KX:=Lib.hid (fun w' (hb : Below w.heap.size w w') => skcells_any (h.below hb))
 have KY:=Lib.hid (fun w' (hb : Below w.heap.size w w') => skcells_any (h2.below hb))
 have HS:=Lib.hid (And.intro h.grid.len h2.grid.len)
 have hr1:=h.grid.r1; have hr8:=h.grid.r8; have hw1:=h.grid.w1; have hw8:=h.grid.w8
 have HI:=Lib.hid (And.intro i1 i2)
 have HF:=Lib.hid hf
 unfold cfgV at KC1 KC2
 rw [hm] at KC1 KC2
 clear h h2 hm i1 i2 hf
 go_enter Tryz.func185,Tryz.ntmps185
 go_wp2_with fail
 generalize w.alloc (.cells #[.int .i64 0,.int .u64 0] 148) = w0 at *
 obtain ⟨B4,hB4⟩ : ∃ g,w.heap.size = g:=⟨_,rfl⟩
 rw [hB4] at H4 ⊢
 have G:=Lib.hid hB4; clear hB4
 refine (KC1.out _ HB.out).mono ?_
 rintro e w1 ⟨rfl,hb⟩
 have HB1:=Lib.hid (HB.out.then hb); have H41:=Lib.hid (H4.out.below hb); clear hb HB H4
 go_wp2_with fail
 refine (KC2.out _ HB1.out).mono ?_
 rintro e w2 ⟨rfl,hb⟩
 have HB2:=Lib.hid (HB1.out.then hb); have H42:=Lib.hid (H41.out.below hb); clear hb HB1 H41
 go_wp2_with fail
 refine (KL1.out _ HB2.out).mono ?_
 rintro e w' ⟨rfl,rfl⟩
 go_wp2_with fail
 refine (KL2.out _ HB2.out).mono ?_
 rintro e w' ⟨rfl,rfl⟩
 go_wp2_with fail
 refine (KC1.out _ HB2.out).mono ?_
 rintro e w3 ⟨rfl,hb⟩
 have HB3:=Lib.hid (HB2.out.then hb); have H43:=Lib.hid (H42.out.below hb); clear hb HB2 H42 KC1 KC2 KL1 KL2
 go_wp2_with fail
 have HC:=Lib.hid (heap_alloc_new w3 (.cells #[.int .i64 c.bits,.int .i64 c.rows,.int .i64 c.width,.int .i64 1,.int .u64 c.seed] 24))
 have HB4:=Lib.hid (HB3.out.alloc HB3.out.size (.cells #[.int .i64 c.bits,.int .i64 c.rows,.int .i64 c.width,.int .i64 1,.int .u64 c.seed] 24))
 have H44:=Lib.hid (H43.out.alloc (.cells #[.int .i64 c.bits,.int .i64 c.rows,.int .i64 c.width,.int .i64 1,.int .u64 c.seed] 24))
 have HG3:=Lib.hid (show w.heap.size ≤ w3.heap.size from HB3.out.size)
 clear HB3 H43
 generalize w3.alloc (.cells #[.int .i64 c.bits,.int .i64 c.rows,.int .i64 c.width,.int .i64 1,.int .u64 c.seed] 24) = w4 at *
 generalize w3.heap.size = BC at *
 refine (KX.out _ HB4.out).mono ?_
 rintro e w5 ⟨v,rfl,gx,cx,rfl,hix,hgx,hcx,hcx2,hb⟩
 have HIX:=Lib.hid hix
 have HC5:=Lib.hid ((hb.block _ (lt_of_block HC.out)).trans HC.out)
 have HB5:=Lib.hid (HB4.out.then hb)
 have H45:=Lib.hid (H44.out.below hb)
 clear hix hb HC HB4 H44 KX
 generalize hxl : xs.length = xl at *
 have HXL:=Lib.hid hxl; clear hxl
 go_wp2_with fail
 refine (KY.out _ HB5.out).mono ?_
 rintro e w6 ⟨v,rfl,gy,cy,rfl,hiy,hgy,hcy,hcy2,hb⟩
 have HIX6:=Lib.hid (HIX.out.below hb)
 have HIY6:=Lib.hid hiy
 have HC6:=Lib.hid ((hb.block _ (lt_of_block HC5.out)).trans HC5.out)
 have HB6:=Lib.hid (HB5.out.then hb)
 have H46:=Lib.hid (H45.out.below hb)
 clear hiy hb HC5 HB5 H45 KY HIX
 generalize hyl : ys.length = yl at *
 have HYL:=Lib.hid hyl; clear hyl
 have c1 : (w6.alloc (.cells #[.int .i64 0,.int .u64 0] 148)).cell? ⟨BC,1,none⟩ = some (.int .i64 c.rows):=(cell_of_row _ _ _ _ _ _ ((Below.heap_alloc _ _ _ (lt_of_block HC6.out)).trans HC6.out)).trans rfl
 go_wp2_with fail
 have hbn:=(Below.refl w6.heap.size w6).alloc (Nat.le_refl _) (.cells #[.int .i64 0,.int .u64 0] 148)
 have H90:=Lib.hid (PAt.new w6 0 0 rfl)
 have HIX0:=Lib.hid (HIX6.out.below hbn)
 have HIY0:=Lib.hid (HIY6.out.below hbn)
 have HC0:=Lib.hid ((hbn.block _ (lt_of_block HC6.out)).trans HC6.out)
 have HB0:=Lib.hid (HB6.out.then hbn)
 have H40:=Lib.hid (H46.out.below hbn)
 have HG9:=Lib.hid (show w.heap.size ≤ w6.heap.size ∧ B4 ≠ w6.heap.size from ⟨HB6.out.size,Nat.ne_of_lt (lt_of_block H46.out)⟩)
 clear hbn HIX6 HIY6 HC6 HB6 H46 c1
 generalize w6.alloc (.cells #[.int .i64 0,.int .u64 0] 148) = w7 at *
 generalize w6.heap.size = B9 at *
 go_loopw [48] (fun u wr => ∃ k : Nat,k ≤ c.rows ∧ u = .int .i64 k ∧ Hid (PAt wr B9 (hiOf (leastK c.width xs ys k)) (loOf (leastK c.width xs ys k))) ∧ Hid (PAt wr B4 0 0 ∧ Below w.heap.size w wr ∧ Ints wr gx xs ∧ Ints wr gy ys ∧ wr.heap[BC]? = some (.cells #[.int .i64 c.bits,.int .i64 c.rows,.int .i64 c.width,.int .i64 1,.int .u64 c.seed] 24 (0,0)))) (fun u _ => c.rows - (intOf u).toNat)
 case atStart => exact ⟨0,by omega,rfl,H90,Lib.hid ⟨H40.out,HB0.out,HIX0.out,HIY0.out,HC0.out⟩⟩
 case round =>
   clear H90 HIX0 HIY0 HC0 HB0 H40
   obtain ⟨k,hk,rfl,H9,HA⟩:=hrel
   by_cases hlt : k < c.rows
   · have hkw : k * c.width + c.width ≤ xl:=by
       have h1:=Nat.mul_le_mul_right c.width (show k + 1 ≤ c.rows by omega)
       rw [Nat.add_mul,Nat.one_mul,← HS.out.1] at h1
       exact h1
     have hkw2 : k * c.width + c.width ≤ yl:=by
       have h1:=Nat.mul_le_mul_right c.width (show k + 1 ≤ c.rows by omega)
       rw [Nat.add_mul,Nat.one_mul,← HS.out.2] at h1
       exact h1
     have KD:=Lib.hid (fun w' (hb : Below wr.heap.size wr w') => dot_ok (rowL c.width xs k) (rowL c.width ys k) gx (k * c.width) gy (k * c.width) c.width c.width c.width w'
       ((HA.out.2.2.1.below hb).part (k * c.width) c.width (by rw [HXL.out]; exact hkw)) ((HA.out.2.2.2.1.below hb).part (k * c.width) c.width (by rw [HYL.out]; exact hkw2)) (by omega)
       (fun x hx => HI.out.1 x (List.mem_of_mem_drop (List.mem_of_mem_take hx))) (fun x hx => HI.out.2 x (List.mem_of_mem_drop (List.mem_of_mem_take hx))) (fun j hj => HF.out k hlt j hj))
     have HLK:=Lib.hid (show leastK c.width xs ys (k + 1) = if k = 0 ∨ dotS (rowL c.width xs k) (rowL c.width ys k) < leastK c.width xs ys k then dotS (rowL c.width xs k) (rowL c.width ys k) else leastK c.width xs ys k from rfl)
     have c2 : wr.cell? ⟨BC,2,none⟩ = some (.int .i64 c.width):=(cell_of_row _ _ _ _ _ _ HA.out.2.2.2.2).trans rfl
     have hm1 : IntKind.i64.wrap ((k : Int) * (c.width : Int)) = ((k * c.width : Nat) : Int):=by
       rw [← Int.natCast_mul]
       exact IntWalk.i64_in _ (by have:=Nat.mul_le_mul (show k ≤ 8 by omega) hw8; omega)
     have hm0 : IntKind.i64.wrap ((k : Int) + 1) = (k : Int) + 1:=IntWalk.i64_in _ (by omega)
     have hm2 : IntKind.i64.wrap (((k : Int) + 1) * (c.width : Int)) = ((k * c.width + c.width : Nat) : Int):=by
       rw [show ((k : Int) + 1) * (c.width : Int) = ((k * c.width + c.width : Nat) : Int) by push_cast; rw [Int.add_mul,Int.one_mul]]
       exact IntWalk.i64_in _ (by have:=Nat.mul_le_mul (show k ≤ 8 by omega) hw8; omega)
     go_upto_region 11 with fail
     clear HXL HYL
     generalize hfr : k * c.width = fr at *
     obtain ⟨tt,hto⟩ : ∃ tt,fr + c.width = tt:=⟨_,rfl⟩
     rw [hto] at hkw hkw2 hm2
     go_quiet (fail)
     unfold W at KD
     generalize hdd : dotS (rowL c.width xs k) (rowL c.width ys k) = dd at *
     generalize hth : hiOf dd = th at *
     generalize htl : loOf dd = tl at *
     have HT:=Lib.hid (And.intro hth htl); clear hth htl hdd hm1 hm2 hm0 c2
     go_upto_region 12 with fail
     have hs1 : fr ≤ tt:=by omega
     have hs2 : tt ≤ cx:=by omega
     have hs3 : tt ≤ cy:=by omega
     have hs4 : tt - fr = c.width:=by omega
     have hs5 : ¬ c.width = 0:=by omega
     have hs6 : ¬ tt = fr:=by omega
     go_cut [13,14] (fun s13 s14 wx => ∃ q : Nat,s13 = .pointer (some ⟨q,0,none⟩) ∧ s14 = .bool true ∧ PAt wx q th tl ∧ Below wr.heap.size wr wx)
     case first =>
       go_region_held3 (fun _ => True) (trivial)
         (first | (go_at_call 189; (first | (with_reducible refine (KD.out (wr.drewN (nq + 1)) (drawN wr _)).mono ?_) | (with_reducible refine (KD.out ((wr.drewN (nq + 1)).alloc (.cells #[.int .i64 0,.int .u64 0] 148)) ((drawN wr _).alloc (Nat.le_refl _) _)).mono ?_)); rintro e x1 ⟨rfl,hb1⟩; (first | ((with_reducible have Z:=zat_makeN hb1); (have Z:=Lib.hid Z); (have z0:=Z.out.2.c0); (have z1:=Z.out.2.c1); (have z2:=Z.out.2.f 0); (have z3:=Z.out.2.f 1)) | skip); have T : Hid (Below wr.heap.size wr x1):=Lib.hid (by first | with_reducible exact undrewN hb1 | with_reducible exact then_makeN hb1); clear hb1))
       all_goals go_wp2_with fail
       all_goals go_meet
       all_goals first
         | exact ⟨_,rfl,rfl,PAt.new _ _ _ rfl,T.out.alloc T.out.size _⟩
         | exact ⟨_,rfl,rfl,two_set Z.out.2,(T.out.setCell Z.out.1 _).setCell Z.out.1 _⟩
     case rest =>
       obtain ⟨q,rfl,rfl,hq,hb⟩:=hcut
       have hq0:=hq.c0
       have hq1:=hq.c1
       have HQ:=Lib.hid hq
       have H9c:=Lib.hid (H9.out.below hb)
       have HAc:=Lib.hid (show PAt wc B4 0 0 ∧ Below w.heap.size w wc ∧ Ints wc gx xs ∧ Ints wc gy ys ∧ wc.heap[BC]? = some (.cells #[.int .i64 c.bits,.int .i64 c.rows,.int .i64 c.width,.int .i64 1,.int .u64 c.seed] 24 (0,0)) from
         ⟨HA.out.1.below hb,HA.out.2.1.then hb,HA.out.2.2.1.below hb,HA.out.2.2.2.1.below hb,(hb.block _ (lt_of_block HA.out.2.2.2.2)).trans HA.out.2.2.2.2⟩)
       clear hq hb H9 HA KD hs1 hs2 hs3 hs4 hs5 hs6 hkw hkw2 hto hfr
       have d0:=H9c.out.c0
       have d1:=H9c.out.c1
       have e0:=H9c.out.f 0
       have e1:=H9c.out.f 1
       have FIN:=Lib.hid (fun (wx : World) (hbx : Below wc.heap.size wc wx) => show PAt ((wx.setCell ⟨B9,0,none⟩ (.int .i64 th)).setCell ⟨B9,1,none⟩ (.int .u64 tl)) B9 th tl ∧ (PAt ((wx.setCell ⟨B9,0,none⟩ (.int .i64 th)).setCell ⟨B9,1,none⟩ (.int .u64 tl)) B4 0 0 ∧ Below w.heap.size w ((wx.setCell ⟨B9,0,none⟩ (.int .i64 th)).setCell ⟨B9,1,none⟩ (.int .u64 tl)) ∧ Ints ((wx.setCell ⟨B9,0,none⟩ (.int .i64 th)).setCell ⟨B9,1,none⟩ (.int .u64 tl)) gx xs ∧ Ints ((wx.setCell ⟨B9,0,none⟩ (.int .i64 th)).setCell ⟨B9,1,none⟩ (.int .u64 tl)) gy ys ∧ ((wx.setCell ⟨B9,0,none⟩ (.int .i64 th)).setCell ⟨B9,1,none⟩ (.int .u64 tl)).heap[BC]? = some (.cells #[.int .i64 c.bits,.int .i64 c.rows,.int .i64 c.width,.int .i64 1,.int .u64 c.seed] 24 (0,0))) from by
         have h9:=H9c.out.below hbx
         have hu : Upd (· = B9) wx ((wx.setCell ⟨B9,0,none⟩ (.int .i64 th)).setCell ⟨B9,1,none⟩ (.int .u64 tl)):=(Upd.store (S:=(· = B9)) wx B9 0 _ rfl).trans (Upd.store (S:=(· = B9)) _ B9 1 _ rfl)
         have nx : ∀ g zs,Ints wx g zs → g ≠ B9:=fun g zs hi e => by obtain ⟨s,e2⟩:=hi.row; rw [e,h9] at e2; simp at e2
         have hix:=HAc.out.2.2.1.below hbx
         have hiy:=HAc.out.2.2.2.1.below hbx
         have hbc:=(hbx.block _ (lt_of_block HAc.out.2.2.2.2)).trans HAc.out.2.2.2.2
         refine ⟨two_set h9,two_other (HAc.out.1.below hbx) HG9.out.2,(HAc.out.2.1.then hbx).trans (hu.below (fun k hk => by rw [hk]; exact HG9.out.1) (HAc.out.2.1.then hbx).size),hix.upd hu (nx _ _ hix),hiy.upd hu (nx _ _ hiy),two_other hbc (fun e => by rw [e,h9] at hbc; simp at hbc)⟩)
       by_cases hk0 : k = 0
       · have HX:=Lib.hid (FIN.out wc (Below.refl _ _))
         have hl : leastK c.width xs ys (k + 1) = dd:=by rw [HLK.out,if_pos (.inl hk0)]
         have HLL:=Lib.hid hl
         clear hl
         subst hk0
         go_wp2_with fail
         go_roundw
         case rel => exact ⟨1,by omega,by go_num,Lib.hid (by rw [HLL.out,HT.out.1,HT.out.2]; exact HX.out.1),Lib.hid HX.out.2⟩
         case measure => simp [intOf]; omega
       · have KS:=Lib.hid (fun w => less_any dd (leastK c.width xs ys k) w)
         unfold W at KS
         rw [HT.out.1,HT.out.2] at KS
         have hki : ¬ ((k : Int) = 0):=by omega
         generalize hlk : leastK c.width xs ys k = lk at *
         generalize hlh : hiOf lk = lh at *
         generalize hll : loOf lk = ll at *
         have HLH:=Lib.hid (And.intro hlh hll); clear hlh hll hlk
         go_wp2_with fail
         refine (KS.out _).mono ?_
         rintro e w9 ⟨rfl,hb9⟩
         have HQ9:=Lib.hid (HQ.out.below hb9)
         have H99:=Lib.hid (H9c.out.below hb9)
         have q0:=HQ9.out.c0
         have q1:=HQ9.out.c1
         have f0:=H99.out.f 0
         have f1:=H99.out.f 1
         have x0:=H99.out.c0
         have x1:=H99.out.c1
         have HX:=Lib.hid (FIN.out w9 hb9)
         have HY:=Lib.hid (show PAt w9 B4 0 0 ∧ Below w.heap.size w w9 ∧ Ints w9 gx xs ∧ Ints w9 gy ys ∧ w9.heap[BC]? = some (.cells #[.int .i64 c.bits,.int .i64 c.rows,.int .i64 c.width,.int .i64 1,.int .u64 c.seed] 24 (0,0)) from
           ⟨HAc.out.1.below hb9,HAc.out.2.1.then hb9,HAc.out.2.2.1.below hb9,HAc.out.2.2.2.1.below hb9,(hb9.block _ (lt_of_block HAc.out.2.2.2.2)).trans HAc.out.2.2.2.2⟩)
         clear hb9 d0 d1 e0 e1 hq0 hq1
         by_cases hlt2 : dd < lk
         · have HLL:=Lib.hid (show leastK c.width xs ys (k + 1) = dd by rw [HLK.out,if_pos (.inr hlt2)])
           have hdt : decide (dd < lk) = true:=by simpa using hlt2
           clear hlt2
           rw [hdt]
           go_wp2_with fail
           go_roundw
           case rel => exact ⟨k + 1,by omega,by go_num,Lib.hid (by rw [HLL.out,HT.out.1,HT.out.2]; exact HX.out.1),Lib.hid HX.out.2⟩
           case measure => simp [intOf]; omega
         · have HLL:=Lib.hid (show leastK c.width xs ys (k + 1) = lk by rw [HLK.out,if_neg (by rintro (h | h); exact hk0 h; exact hlt2 h)])
           have hdt : decide (dd < lk) = false:=by simpa using hlt2
           clear hlt2
           rw [hdt]
           go_wp2_with fail
           go_roundw
           case rel => exact ⟨k + 1,by omega,by go_num,Lib.hid (by rw [HLL.out,HLH.out.1,HLH.out.2]; exact H99.out),Lib.hid HY.out⟩
           case measure => simp [intOf]; omega
   · have hkn : k = c.rows:=by omega
     subst hkn
     have d0:=H9.out.c0
     have d1:=H9.out.c1
     have q0:=HA.out.1.c0
     have q1:=HA.out.1.c1
     have e0:=HA.out.1.f 0
     have e1:=HA.out.1.f 1
     clear hlt
     generalize hh : hiOf (leastK c.width xs ys c.rows) = sh at *
     generalize hl : loOf (leastK c.width xs ys c.rows) = sl at *
     have HT:=Lib.hid (And.intro hh hl); clear hh hl
     have HE:=Lib.hid (show PAt ((wr.setCell ⟨B4,0,none⟩ (.int .i64 sh)).setCell ⟨B4,1,none⟩ (.int .u64 sl)) B4 sh sl ∧ Below w.heap.size w ((wr.setCell ⟨B4,0,none⟩ (.int .i64 sh)).setCell ⟨B4,1,none⟩ (.int .u64 sl)) from
         ⟨two_set HA.out.1,(HA.out.2.1.setCell (p:=⟨B4,0,none⟩) (by have:=G.out; show w.heap.size ≤ B4; omega) _).setCell (p:=⟨B4,1,none⟩) (by have:=G.out; show w.heap.size ≤ B4; omega) _⟩)
     have r0:=HE.out.1.c0
     have r1:=HE.out.1.c1
     go_wp2_with fail
     refine bodyPost_ret (v:=.tuple #[.agg #[.int .i64 sh,.int .u64 sl],.int .i64 0]) (by simp [results,Tryz.results185,go_sem,r0,r1]) rfl ⟨?_,HE.out.2⟩
     unfold W
     rw [HT.out.1,HT.out.2]
end Go.Proofs.YtejaocnhekjfiaaGreatDoor
namespace Go.Proofs.YtejaocnhekjfiaaGreatDoor
open Go.RowKit S02
set_option linter.unusedVariables false
def innL (c : Cfg) (n : Nat) (xs ys : List Int) : Int:=if c.exact n = true then dotS xs ys else leastK c.width xs ys c.rows
def InnFits (c : Cfg) (n : Nat) (xs ys : List Int) : Prop:=
 if c.exact n = true then ∀ k,k ≤ xs.length → Fits (dotK xs ys k) else ∀ row,row < c.rows → ∀ k,k ≤ c.width → Fits (dotK (rowL c.width xs row) (rowL c.width ys row) k)
theorem Ints.whole {w : World} {g : Nat} {zs : List Int} (h : Ints w g zs) {m : Nat} (hm : zs.length = m) : Row w (some ⟨g,0,none⟩) m (zs.map iv):=by
 have:=h.part 0 m (by omega)
 rwa [List.drop_zero,List.take_of_length_le (by omega)] at this
set_option maxRecDepth 100000 in
set_option maxHeartbeats 4000000 in
theorem levinner_sk {w c n} {A B : LA} {xs ys} (h : SkIs w A.b A.g A.r c n xs) (h2 : SkIs w B.b B.g B.r c n ys) (hm : c.mode = 1) (i1 : In64 xs) (i2 : In64 ys)
   (hf : ∀ row,row < c.rows → ∀ k,k ≤ c.width → Fits (dotK (rowL c.width xs row) (rowL c.width ys row) k)) :
   Calls Tryz.prog 143 #[.iface 237 (.pointer (some ⟨A.b,0,none⟩)),.iface 237 (.pointer (some ⟨B.b,0,none⟩))] w fun e w' => e = .returned (.tuple #[W (leastK c.width xs ys c.rows),.int .i64 0]) ∧ Below w.heap.size w w':=by
 have H4:=Lib.hid (PAt.new w 0 0 rfl)
 have hb0:=(Below.refl w.heap.size w).alloc (Nat.le_refl _) (.cells #[.int .i64 0,.int .u64 0] 148)
 have HB:=Lib.hid hb0
 have KI:=Lib.hid (fun w' (hb : Below w.heap.size w w') => inner_ok (h.below hb) (h2.below hb) hm i1 i2 hf)
 generalize leastK c.width xs ys c.rows = v at *
 unfold W at *
 generalize hh : hiOf v = vh at *
 generalize hl : loOf v = vl at *
 clear h h2 hm i1 i2 hf hb0 hh hl
 go_enter Tryz.func143,Tryz.ntmps143
 go_wp2_with fail
 refine (sketches_s _ _ _).mono ?_
 rintro e w' ⟨rfl,rfl⟩
 go_wp2_with fail
 refine (KI.out _ HB.out).mono ?_
 rintro e w1 ⟨rfl,hb⟩
 have H41:=Lib.hid (H4.out.below hb)
 have HB1:=Lib.hid (HB.out.then hb)
 clear hb
 have c0:=H41.out.c0; have c1:=H41.out.c1; have f0:=H41.out.f 0; have f1:=H41.out.f 1
 have HE:=Lib.hid (show PAt ((w1.setCell ⟨w.heap.size,0,none⟩ (.int .i64 vh)).setCell ⟨w.heap.size,1,none⟩ (.int .u64 vl)) w.heap.size vh vl ∧ Below w.heap.size w ((w1.setCell ⟨w.heap.size,0,none⟩ (.int .i64 vh)).setCell ⟨w.heap.size,1,none⟩ (.int .u64 vl)) from
   ⟨two_set H41.out,(HB1.out.setCell (p:=⟨w.heap.size,0,none⟩) (Nat.le_refl _) _).setCell (p:=⟨w.heap.size,1,none⟩) (Nat.le_refl _) _⟩)
 have r0:=HE.out.1.c0
 have r1:=HE.out.1.c1
 go_wp2_with fail
 exact bodyPost_ret (v:=.tuple #[.agg #[.int .i64 vh,.int .u64 vl],.int .i64 0]) (by simp [results,Tryz.results143,go_sem,r0,r1]) rfl ⟨rfl,HE.out.2⟩
set_option maxRecDepth 100000 in
set_option maxHeartbeats 4000000 in
theorem levinner_ex {w c n} {A B : LA} {xs ys} (h : ArrIs w A.b A.g A.r c n xs) (h2 : ArrIs w B.b B.g B.r c n ys) (hm : c.mode = 1) (i1 : In64 xs) (i2 : In64 ys)
   (hf : ∀ k,k ≤ xs.length → Fits (dotK xs ys k)) :
   Calls Tryz.prog 143 #[.iface 234 (.pointer (some ⟨A.b,0,none⟩)),.iface 234 (.pointer (some ⟨B.b,0,none⟩))] w fun e w' => e = .returned (.tuple #[W (dotS xs ys),.int .i64 0]) ∧ Below w.heap.size w w':=by
 have H4:=Lib.hid (PAt.new w 0 0 rfl)
 have hb0:=(Below.refl w.heap.size w).alloc (Nat.le_refl _) (.cells #[.int .i64 0,.int .u64 0] 148)
 have HB:=Lib.hid hb0
 have KC1:=Lib.hid (fun w' (hb : Below w.heap.size w w') => exconfig_any (h.below hb))
 have KC2:=Lib.hid (fun w' (hb : Below w.heap.size w w') => exconfig_any (h2.below hb))
 have KL1:=Lib.hid (fun w' (hb : Below w.heap.size w w') => exlevel_any (h.below hb))
 have KL2:=Lib.hid (fun w' (hb : Below w.heap.size w w') => exlevel_any (h2.below hb))
 have KX:=Lib.hid (fun w' (hb : Below w.heap.size w w') => excells_any (h.below hb))
 have KY:=Lib.hid (fun w' (hb : Below w.heap.size w w') => excells_any (h2.below hb))
 have h8:=h.grid.w8
 have hlx:=h.grid.len
 have hly:=h2.grid.len
 rw [Nat.one_mul] at hlx hly
 have KD:=Lib.hid (fun w' gx cx gy cy (hx : Ints w' gx xs) (hy : Ints w' gy ys) => dot_ok xs ys gx 0 gy 0 xs.length cx cy w' (hx.whole rfl) (hy.whole (hly.trans hlx.symm)) (by omega) i1 i2 hf)
 have HXY:=Lib.hid (hly.trans hlx.symm)
 generalize dotS xs ys = v at *
 unfold W at *
 unfold cfgV at *
 rw [hm] at KC1 KC2
 generalize hh : hiOf v = vh at *
 generalize hl : loOf v = vl at *
 clear h h2 hm i1 i2 hf hb0 hh hl h8 hlx hly
 go_enter Tryz.func143,Tryz.ntmps143
 go_wp2_with fail
 refine (sketches_a _ _ _).mono ?_
 rintro e w' ⟨rfl,rfl⟩
 go_wp2_with fail
 refine (arrays_a _ _ _).mono ?_
 rintro e w' ⟨rfl,rfl⟩
 go_wp2_with fail
 refine (KC1.out _ HB.out).mono ?_
 rintro e w1 ⟨rfl,hb⟩
 have HB1:=Lib.hid (HB.out.then hb); have H41:=Lib.hid (H4.out.below hb); clear hb HB H4
 go_wp2_with fail
 refine (KC2.out _ HB1.out).mono ?_
 rintro e w2 ⟨rfl,hb⟩
 have HB2:=Lib.hid (HB1.out.then hb); have H42:=Lib.hid (H41.out.below hb); clear hb HB1 H41
 go_wp2_with fail
 refine (KL1.out _ HB2.out).mono ?_
 rintro e w' ⟨rfl,rfl⟩
 go_wp2_with fail
 refine (KL2.out _ HB2.out).mono ?_
 rintro e w' ⟨rfl,rfl⟩
 go_wp2_with fail
 refine (KC1.out _ HB2.out).mono ?_
 rintro e w3 ⟨rfl,hb⟩
 have HB3:=Lib.hid (HB2.out.then hb); have H43:=Lib.hid (H42.out.below hb); clear hb HB2 H42 KC1 KC2 KL1 KL2
 go_wp2_with fail
 refine (KX.out _ HB3.out).mono ?_
 rintro e w5 ⟨v,rfl,gx,cx,rfl,hix,hgx,hcx,hcx2,hb⟩
 have HIX:=Lib.hid hix; have HB5:=Lib.hid (HB3.out.then hb); have H45:=Lib.hid (H43.out.below hb)
 clear hix hb HB3 H43 KX hgx hcx hcx2
 go_wp2_with fail
 refine (KY.out _ HB5.out).mono ?_
 rintro e w6 ⟨v,rfl,gy,cy,rfl,hiy,hgy,hcy,hcy2,hb⟩
 have HIX6:=Lib.hid (HIX.out.below hb); have HIY6:=Lib.hid hiy; have HB6:=Lib.hid (HB5.out.then hb); have H46:=Lib.hid (H45.out.below hb)
 have KD2:=Lib.hid (KD.out _ gx cx gy cy HIX6.out HIY6.out)
 rw [HXY.out]
 generalize xs.length = xl at *
 clear hiy hb HB5 H45 KY HIX hgy hcy hcy2 KD HXY
 go_wp2_with fail
 refine KD2.out.mono ?_
 rintro e w7 ⟨rfl,hb⟩
 have HB7:=Lib.hid ((HB6.out.then hb).alloc (HB6.out.then hb).size (.cells #[.int .i64 vh,.int .u64 vl] 148))
 have HP:=Lib.hid (PAt.new w7 vh vl rfl)
 have H47:=Lib.hid ((H46.out.below hb).alloc (.cells #[.int .i64 vh,.int .u64 vl] 148))
 clear hb HB6 H46 KD2 HIX6 HIY6
 have p0:=HP.out.c0; have p1:=HP.out.c1
 have c0:=H47.out.c0; have c1:=H47.out.c1; have f0:=H47.out.f 0; have f1:=H47.out.f 1
 have HE:=Lib.hid (show PAt (((w7.alloc (.cells #[.int .i64 vh,.int .u64 vl] 148)).setCell ⟨w.heap.size,0,none⟩ (.int .i64 vh)).setCell ⟨w.heap.size,1,none⟩ (.int .u64 vl)) w.heap.size vh vl ∧ Below w.heap.size w (((w7.alloc (.cells #[.int .i64 vh,.int .u64 vl] 148)).setCell ⟨w.heap.size,0,none⟩ (.int .i64 vh)).setCell ⟨w.heap.size,1,none⟩ (.int .u64 vl)) from
   ⟨two_set H47.out,(HB7.out.setCell (p:=⟨w.heap.size,0,none⟩) (Nat.le_refl _) _).setCell (p:=⟨w.heap.size,1,none⟩) (Nat.le_refl _) _⟩)
 have r0:=HE.out.1.c0
 have r1:=HE.out.1.c1
 go_wp2_with fail
 exact bodyPost_ret (v:=.tuple #[.agg #[.int .i64 vh,.int .u64 vl],.int .i64 0]) (by simp [results,Tryz.results143,go_sem,r0,r1]) rfl ⟨rfl,HE.out.2⟩
theorem levinner_ok {w c n A B xs ys} (h : LevIs w c n A xs) (h2 : LevIs w c n B ys) (hm : c.mode = 1) (i1 : In64 xs) (i2 : In64 ys) (hf : InnFits c n xs ys) :
   Calls Tryz.prog 143 #[levV c n A,levV c n B] w fun e w' => e = .returned (.tuple #[W (innL c n xs ys),.int .i64 0]) ∧ Below w.heap.size w w':=by
 unfold InnFits at hf
 unfold innL
 cases hx : c.exact n with
 | true =>
   obtain ⟨ha,hv⟩:=h.arr hx
   obtain ⟨ha2,hv2⟩:=h2.arr hx
   rw [hx,if_pos rfl] at hf
   rw [if_pos rfl,hv,hv2]
   exact levinner_ex ha ha2 hm i1 i2 hf
 | false =>
   obtain ⟨ha,hv⟩:=h.sk hx
   obtain ⟨ha2,hv2⟩:=h2.sk hx
   rw [hx,if_neg (by decide)] at hf
   rw [if_neg (by decide),hv,hv2]
   exact levinner_sk ha ha2 hm i1 i2 hf
end Go.Proofs.YtejaocnhekjfiaaGreatDoor
namespace Go.Proofs.YtejaocnhekjfiaaGreatDoor
open Go.RowKit S02
set_option linter.unusedVariables false
set_option maxRecDepth 100000 in
set_option maxHeartbeats 4000000 in
theorem stinner_ok {w p q c L C p2 q2 L2 C2} (h : StackIs w p q c L C) (h2 : StackIs w p2 q2 c L2 C2) (hm : c.mode = 1) {xs ys : List Int} (hx : C[0]? = some xs) (hy : C2[0]? = some ys)
   (i1 : In64 xs) (i2 : In64 ys) (hf : InnFits c 0 xs ys) :
   Calls Tryz.prog 93 #[.pointer (some ⟨p,0,none⟩),.pointer (some ⟨p2,0,none⟩)] w fun e w' => e = .returned (.tuple #[W (innL c 0 xs ys),.int .i64 0]) ∧ Below w.heap.size w w':=by
 have H4:=Lib.hid (PAt.new w 0 0 rfl)
 have hb0:=(Below.refl w.heap.size w).alloc (Nat.le_refl _) (.cells #[.int .i64 0,.int .u64 0] 148)
 have HB:=Lib.hid hb0
 obtain ⟨A,hA⟩ : ∃ A,L[0]? = some A:=⟨_,List.getElem?_eq_getElem (by have:=h.len; omega)⟩
 obtain ⟨B,hB⟩ : ∃ B,L2[0]? = some B:=⟨_,List.getElem?_eq_getElem (by have:=h2.len; omega)⟩
 have KA:=Lib.hid (fun w' (hb : Below w.heap.size w w') => alike_ok (h.below hb) (h2.below hb))
 have KX:=Lib.hid (fun w' (hb : Below w.heap.size w w') => stat_ok (h.below hb) 0 A xs hA hx)
 have KY:=Lib.hid (fun w' (hb : Below w.heap.size w w') => stat_ok (h2.below hb) 0 B ys hB hy)
 have KI:=Lib.hid (fun w' A B (h : LevIs w' c 0 A xs) (h2 : LevIs w' c 0 B ys) => levinner_ok h h2 hm i1 i2 hf)
 generalize innL c 0 xs ys = v at *
 unfold W at *
 generalize hh : hiOf v = vh at *
 generalize hl : loOf v = vl at *
 clear h h2 hm i1 i2 hf hb0 hh hl hx hy hA hB
 go_enter Tryz.func93,Tryz.ntmps93
 go_wp2_with fail
 refine (KA.out _ HB.out).mono ?_
 rintro e w1 ⟨rfl,hb⟩
 have HB1:=Lib.hid (HB.out.then hb); have H41:=Lib.hid (H4.out.below hb); clear hb HB H4 KA
 go_wp2_with fail
 refine (KX.out _ HB1.out).mono ?_
 rintro e w2 ⟨v1,rfl,A1,rfl,hA,_,_,_,hb⟩
 have HA:=Lib.hid hA
 have HB2:=Lib.hid (HB1.out.then hb); have H42:=Lib.hid (H41.out.below hb); clear hA hb HB1 H41 KX
 generalize hlv : levV c 0 A1 = lv at *
 have HLV:=Lib.hid hlv; clear hlv
 go_wp2_with fail
 refine (KY.out _ HB2.out).mono ?_
 rintro e w3 ⟨v2,rfl,B1,rfl,hB,_,_,_,hb⟩
 have KI2:=Lib.hid (KI.out _ A1 B1 (HA.out.below hb) hB)
 rw [HLV.out] at KI2
 have HB3:=Lib.hid (HB2.out.then hb); have H43:=Lib.hid (H42.out.below hb); clear hB hb HB2 H42 KY
 generalize hlv2 : levV c 0 B1 = lv2 at *
 clear hlv2
 go_wp2_with fail
 refine KI2.out.mono ?_
 rintro e w4 ⟨rfl,hb⟩
 have HB4:=Lib.hid (HB3.out.then hb); have H44:=Lib.hid (H43.out.below hb); clear hb HB3 H43 KI2 KI
 have c0:=H44.out.c0; have c1:=H44.out.c1; have f0:=H44.out.f 0; have f1:=H44.out.f 1
 have HE:=Lib.hid (show PAt ((w4.setCell ⟨w.heap.size,0,none⟩ (.int .i64 vh)).setCell ⟨w.heap.size,1,none⟩ (.int .u64 vl)) w.heap.size vh vl ∧ Below w.heap.size w ((w4.setCell ⟨w.heap.size,0,none⟩ (.int .i64 vh)).setCell ⟨w.heap.size,1,none⟩ (.int .u64 vl)) from
   ⟨two_set H44.out,(HB4.out.setCell (p:=⟨w.heap.size,0,none⟩) (Nat.le_refl _) _).setCell (p:=⟨w.heap.size,1,none⟩) (Nat.le_refl _) _⟩)
 have r0:=HE.out.1.c0
 have r1:=HE.out.1.c1
 go_wp2_with fail
 exact bodyPost_ret (v:=.tuple #[.agg #[.int .i64 vh,.int .u64 vl],.int .i64 0]) (by simp [results,Tryz.results93,go_sem,r0,r1]) rfl ⟨rfl,HE.out.2⟩
end Go.Proofs.YtejaocnhekjfiaaGreatDoor
namespace Go.RowKit
section
variable {P : Program} {ops : Array Oper} {Q : Exit → Act → World → Prop} {md : Region.Mode} {S T : World → Prop}
theorem wp_region_phase {id : Nat} {a : Act} {w : World} (hm : P.follows .mixedOrders = true)
   (h : wpAnyH P .any ops Q (fun w' => Below w.heap.size w w') ops.size (Array.replicate ops.size false) a w.drew) : (Code.region id ops true).wp P Q a w:=
 wp_region_held hm h
end
end Go.RowKit
namespace Go.Proofs.YtejaocnhekjfiaaGreatDoor
open Go.RowKit
set_option linter.unusedVariables false
structure RegS (w : World) (x y p q : Nat) : Prop where
 a : w.heap[x]? = some (.cells #[.pointer (some ⟨p,0,none⟩),.pointer none] 114 (0,0))
 b : w.heap[y]? = some (.cells #[.pointer (some ⟨q,0,none⟩),.pointer none] 114 (0,0))
theorem RegS.c0 {w x y p q} (h : RegS w x y p q) : w.cell? ⟨x,0,none⟩ = some (.pointer (some ⟨p,0,none⟩)):=(cell_of_row _ _ _ _ _ _ h.a).trans rfl
theorem RegS.t0 {w x y p q} (h : RegS w x y p q) : w.cell? ⟨y,0,none⟩ = some (.pointer (some ⟨q,0,none⟩)):=(cell_of_row _ _ _ _ _ _ h.b).trans rfl
theorem RegS.t1 {w x y p q} (h : RegS w x y p q) : w.cell? ⟨y,1,none⟩ = some (.pointer none):=(cell_of_row _ _ _ _ _ _ h.b).trans rfl
theorem RegS.make {w x y p q} (h : RegS w x y p q) (o : Obj) : RegS (w.alloc o) x y p q:=⟨(Below.heap_alloc _ _ _ (lt_of_block h.a)).trans h.a,(Below.heap_alloc _ _ _ (lt_of_block h.b)).trans h.b⟩
theorem RegS.upd {S : Nat → Prop} {w w' : World} {x y p q} (h : RegS w x y p q) (hx : ¬ S x) (hy : ¬ S y) (hu : Upd S w w') : RegS w' x y p q:=⟨hu.heap h.a hx,hu.heap h.b hy⟩
def pairW (v : ByteArray) (i j : Nat) : Value:=.agg #[.string v,.int .i64 ((i : Int) + 1),.int .i64 ((j : Int) + 1)]
set_option maxRecDepth 100000 in
set_option maxHeartbeats 4000000 in
theorem pair_merge {w : World} {base a m : Nat} {c : Cfg} {S : List SI} (h : AggIs w base a m c S) {i j : Nat} {s t : SI} (hs : S[i]? = some s) (ht : S[j]? = some t)
   (f1 : ∀ zs ∈ s.C,FitL 4611686018427387903 zs) (f2 : ∀ zs ∈ t.C,FitL 4611686018427387903 zs) :
   Calls Tryz.prog 55 #[.pointer (some ⟨a,0,none⟩),pairW ⟨#[109,101,114,103,101]⟩ i j] w fun e w' => e = .returned (.tuple #[.iface 138 (.agg #[]),.int .i64 0]) ∧ AggIs w' base a m c (S.set i { s with C:=List.zipWith (List.zipWith (· + ·)) s.C t.C }) ∧ Upd (AggB a m S) w w':=by
 have hb1:=(Below.refl w.heap.size w).alloc (Nat.le_refl _) (.cells #[.string ⟨#[109,101,114,103,101]⟩,.int .i64 ((i : Int) + 1),.int .i64 ((j : Int) + 1)] 130)
 have hbx:=heap_alloc_new w (.cells #[.string ⟨#[109,101,114,103,101]⟩,.int .i64 ((i : Int) + 1),.int .i64 ((j : Int) + 1)] 130)
 have hA:=h.keep hb1
 generalize hW : w.alloc (.cells #[.string ⟨#[109,101,114,103,101]⟩,.int .i64 ((i : Int) + 1),.int .i64 ((j : Int) + 1)] 130) = W1 at hb1 hbx hA
 have HW:=Lib.hid hW
 have hc0:=hA.c0
 have d0 : W1.cell? ⟨w.heap.size,0,none⟩ = some (.string ⟨#[109,101,114,103,101]⟩):=(cell_of_row _ _ _ _ _ _ hbx).trans rfl
 have d1 : W1.cell? ⟨w.heap.size,1,none⟩ = some (.int .i64 ((i : Int) + 1)):=(cell_of_row _ _ _ _ _ _ hbx).trans rfl
 have d2 : W1.cell? ⟨w.heap.size,2,none⟩ = some (.int .i64 ((j : Int) + 1)):=(cell_of_row _ _ _ _ _ _ hbx).trans rfl
 have hsp : (S.map SI.p)[i]? = some s.p:=by rw [List.getElem?_map,hs]; rfl
 have htp : (S.map SI.p)[j]? = some t.p:=by rw [List.getElem?_map,ht]; rfl
 have hlook:=fun (w' : World) (hw : w'.heap[m]? = some (.map (ents (S.map SI.p)) S.length)) => look_yes hw hsp
 have klook:=fun (w' : World) (hw : w'.heap[m]? = some (.map (ents (S.map SI.p)) S.length)) => look_yes hw htp
 unfold thingV at hlook klook
 have hmm:=hA.map
 have hm1 : ((W1.alloc (.cells #[.pointer none,.pointer none] 114)).drew).heap[m]? = some (.map (ents (S.map SI.p)) S.length):=(Below.heap_alloc _ _ _ (lt_of_block hmm)).trans hmm
 have l1:=hlook W1.drew hmm
 have l2:=hlook (W1.alloc (.cells #[.pointer none,.pointer none] 114)).drew hm1
 have hb2:=((Below.refl W1.heap.size W1).alloc (Nat.le_refl _) (.cells #[.pointer (some ⟨s.p,0,none⟩),.pointer none] 114)).drew
 have hbm : ((W1.alloc (.cells #[.pointer (some ⟨s.p,0,none⟩),.pointer none] 114)).drew).heap[W1.heap.size]? = some (.cells #[.pointer (some ⟨s.p,0,none⟩),.pointer none] 114 (0,0)):=heap_alloc_new W1 (.cells #[.pointer (some ⟨s.p,0,none⟩),.pointer none] 114)
 have hc0':=fun o => cell_make hc0 o
 have d1':=fun o => cell_make d1 o
 have KU:=Lib.hid (fun (w' : World) (hbw : Below W1.heap.size W1 w') => merge_ok ((hA.st i s hs).below hbw) ((hA.st j t ht).below hbw) f1 f2)
 have HA:=Lib.hid hA
 have HS:=Lib.hid hs
 have HB1:=Lib.hid hb1
 have HX:=Lib.hid hbx
 have HKL:=Lib.hid klook
 have HB2:=Lib.hid hb2
 have HBM:=Lib.hid hbm
 have DD:=Lib.hid (And.intro d0 d2)
 clear hlook klook hmm hm1 h hs ht hb1 hbx hA hsp htp hb2 hbm d0 d2
 unfold pairW
 go_enter Tryz.func55,Tryz.ntmps55
 go_wp2_with fail
 clear hW
 go_region
 all_goals
   clear l1 l2 hc0 hc0' d1 d1'
   have hs2 : W1.heap.size + 1 = ((W1.alloc (.cells #[.pointer (some ⟨s.p,0,none⟩),.pointer none] 114)).drew).heap.size:=by simp
   have hA2:=HA.out.keep HB2.out
   have hc0:=hA2.c0
   have d0:=((HB2.out).cell (p:=⟨w.heap.size,0,none⟩) (lt_of_block HX.out)).trans DD.out.1
   have d2:=((HB2.out).cell (p:=⟨w.heap.size,2,none⟩) (lt_of_block HX.out)).trans DD.out.2
   have e0 : ((W1.alloc (.cells #[.pointer (some ⟨s.p,0,none⟩),.pointer none] 114)).drew).cell? ⟨W1.heap.size,0,none⟩ = some (.pointer (some ⟨s.p,0,none⟩)):=(cell_of_row _ _ _ _ _ _ HBM.out).trans rfl
   have e1 : ((W1.alloc (.cells #[.pointer (some ⟨s.p,0,none⟩),.pointer none] 114)).drew).cell? ⟨W1.heap.size,1,none⟩ = some (.pointer none):=(cell_of_row _ _ _ _ _ _ HBM.out).trans rfl
   have hmm:=hA2.map
   have HA2:=Lib.hid hA2
   clear hA2
   generalize hW2 : (W1.alloc (.cells #[.pointer (some ⟨s.p,0,none⟩),.pointer none] 114)).drew = W2 at *
   have HW2:=Lib.hid hW2
   have HS2:=Lib.hid hs2
   have l1:=HKL.out W2.drew hmm
   have l2:=HKL.out (W2.alloc (.cells #[.pointer none,.pointer none] 114)).drew ((Below.heap_alloc _ _ _ (lt_of_block hmm)).trans hmm)
   have hc0':=fun o => cell_make hc0 o
   have d0':=fun o => cell_make d0 o
   have d2':=fun o => cell_make d2 o
   have e0':=fun o => cell_make e0 o
   have e1':=fun o => cell_make e1 o
   clear hmm hW2 hs2
   go_wp2_with fail
   go_region
   all_goals
     clear l1 l2 hc0 hc0'
     go_wp2_with fail
     have hb3:=HB2.out.alloc HB2.out.size (.cells #[.pointer (some ⟨t.p,0,none⟩),.pointer none] 114)
     have x0:=(cell_make e0 (.cells #[.pointer (some ⟨t.p,0,none⟩),.pointer none] 114))
     have hbt:=heap_alloc_new W2 (.cells #[.pointer (some ⟨t.p,0,none⟩),.pointer none] 114)
     have hbm2:=(Below.heap_alloc W2 (.cells #[.pointer (some ⟨t.p,0,none⟩),.pointer none] 114) _ (lt_of_block HBM.out)).trans HBM.out
     generalize hW3 : W2.alloc (.cells #[.pointer (some ⟨t.p,0,none⟩),.pointer none] 114) = W3 at *
     have HW3:=Lib.hid hW3
     have HB3:=Lib.hid hb3
     have HBT:=Lib.hid hbt
     have HBM2:=Lib.hid hbm2
     clear hW3 hb3 e0 e1 e0' e1' d0 d2 d0' d2' hbt hbm2 x0
     have T0:=Lib.hid (show RegS W3.drew.drew W1.heap.size W2.heap.size s.p t.p from ⟨HBM2.out,HBT.out⟩)
     refine wp_region_held (S:=fun w' => RegS w' W1.heap.size W2.heap.size s.p t.p) (by kernel_rfl) ?_
     refine wpAnyH_take (i:=0) (oi:=⟨_,_,_,_,_,_⟩) (v:=?vv0) rfl (by kernel_rfl) (by kernel_rfl) (by kernel_rfl) (fun _ _ _ h => h) (Or.inl ⟨by rfl,?yy0⟩) T0.out ?_
     case yy0 => (intro w' hw'; go_simp; try with_reducible rfl)
     try simp only [Act.put,List.setIfInBounds_toArray,List.set_cons_zero,List.set_cons_succ]
     refine wpAnyH_take (i:=1) (oi:=⟨_,_,_,_,_,_⟩) (v:=?vv1) rfl (by kernel_rfl) (by kernel_rfl) (by kernel_rfl) (fun _ _ _ h => h) (Or.inl ⟨by rfl,?yy1⟩) T0.out ?_
     case yy1 => (intro w' hw'; have c0:=(hw'.c0 : _); have c1:=(hw'.t0 : _); have c2:=(hw'.t1 : _); go_simp; try with_reducible rfl)
     try simp only [Act.put,List.setIfInBounds_toArray,List.set_cons_zero,List.set_cons_succ]
     refine wpAnyH_take (i:=2) (oi:=⟨_,_,_,_,_,_⟩) (v:=?vv2) rfl (by kernel_rfl) (by kernel_rfl) (by kernel_rfl) (fun _ _ _ h => h) (Or.inl ⟨by rfl,?yy2⟩) T0.out ?_
     case yy2 => (intro w' hw'; have c0:=(hw'.c0 : _); have c1:=(hw'.t0 : _); have c2:=(hw'.t1 : _); go_simp; try with_reducible rfl)
     try simp only [Act.put,List.setIfInBounds_toArray,List.set_cons_zero,List.set_cons_succ]
     refine wpAnyH_ready (rs:=[3]) (by kernel_rfl) (by simp) ?_
     refine AllReadyH.cons (o:=⟨_,_,_,_,_,_⟩) rfl (fun K hK => ?_) AllReadyH.nil
     go_simp
     refine (tstack_any t.p _).mono ?_
     rintro e w2 ⟨rfl,rfl⟩
     refine hK.out _ _ (T0.out.make _) (fun hHeld => ?_)
     clear hK K hHeld
     try simp only [Act.put,List.setIfInBounds_toArray,List.set_cons_zero,List.set_cons_succ]
     have HBC:=Lib.hid (HB3.out.drew.drew.alloc (show W1.heap.size ≤ W3.drew.drew.heap.size from HB3.out.size) (.cells #[.pointer (some ⟨t.p,0,none⟩),.pointer none] 114))
     have T1:=Lib.hid (T0.out.make (.cells #[.pointer (some ⟨t.p,0,none⟩),.pointer none] 114))
     refine wpAnyH_ready (rs:=[4]) (by kernel_rfl) (by simp) ?_
     refine AllReadyH.cons (o:=⟨_,_,_,_,_,_⟩) rfl (fun K hK => ?_) AllReadyH.nil
     go_simp
     refine (KU.out _ HBC.out).mono ?_
     rintro e w3 ⟨rfl,hu,hst⟩
     have HU:=Lib.hid hu
     have HST:=Lib.hid hst
     have T2:=Lib.hid (T1.out.upd (((HA.out.keep HBC.out).st i s HS.out).rowsNo _ T1.out.a (by decide)) (((HA.out.keep HBC.out).st i s HS.out).rowsNo _ T1.out.b (by decide)) hu)
     clear hu hst
     refine hK.out _ _ T2.out (fun hHeld => ?_)
     clear hK K hHeld
     try simp only [Act.put,List.setIfInBounds_toArray,List.set_cons_zero,List.set_cons_succ]
     refine wpAnyH_ready (rs:=[5]) (by kernel_rfl) (by simp) ?_
     refine AllReadyH.cons (o:=⟨_,_,_,_,_,_⟩) rfl (fun K hK => ?_) AllReadyH.nil
     go_simp
     refine (done_ok _).mono ?_
     rintro e w4 ⟨rfl,rfl⟩
     refine hK.out _ _ T2.out (fun hHeld => ?_)
     clear hK K hHeld
     try simp only [Act.put,List.setIfInBounds_toArray,List.set_cons_zero,List.set_cons_succ]
     refine wpAnyH_take (i:=6) (oi:=⟨_,_,_,_,_,_⟩) (v:=?vv6) rfl (by kernel_rfl) (by kernel_rfl) (by kernel_rfl) (fun _ _ _ h => h) (Or.inl ⟨by rfl,?yy6⟩) T2.out ?_
     case yy6 => (intro w' hw'; go_simp; try with_reducible rfl)
     try simp only [Act.put,List.setIfInBounds_toArray,List.set_cons_zero,List.set_cons_succ]
     refine wpAnyH_take (i:=7) (oi:=⟨_,_,_,_,_,_⟩) (v:=?vv7) rfl (by kernel_rfl) (by kernel_rfl) (by kernel_rfl) (fun _ _ _ h => h) (Or.inl ⟨by rfl,?yy7⟩) T2.out ?_
     case yy7 => (intro w' hw'; go_simp; try with_reducible rfl)
     try simp only [Act.put,List.setIfInBounds_toArray,List.set_cons_zero,List.set_cons_succ]
     refine wpAnyH_take (i:=8) (oi:=⟨_,_,_,_,_,_⟩) (v:=?vv8) rfl (by kernel_rfl) (by kernel_rfl) (by kernel_rfl) (fun _ _ _ h => h) (Or.inl ⟨by rfl,?yy8⟩) T2.out ?_
     case yy8 => (intro w' hw'; go_simp; try with_reducible rfl)
     try simp only [Act.put,List.setIfInBounds_toArray,List.set_cons_zero,List.set_cons_succ]
     refine wpAnyH_take (i:=9) (oi:=⟨_,_,_,_,_,_⟩) (v:=?vv9) rfl (by kernel_rfl) (by kernel_rfl) (by kernel_rfl) (fun _ _ _ h => h) (Or.inl ⟨by rfl,?yy9⟩) T2.out ?_
     case yy9 => (intro w' hw'; go_simp; try with_reducible rfl)
     try simp only [Act.put,List.setIfInBounds_toArray,List.set_cons_zero,List.set_cons_succ]
     refine wpAnyH_done (by kernel_rfl) ?_ _
     go_wp2_with fail
     go_ret2
     have hput:=(HA.out.keep HBC.out).put HS.out HU.out HST.out
     exact ⟨rfl,hput.1,(Upd.of_below HB1.out).trans ((Upd.of_below HBC.out).trans hput.2)⟩
set_option maxRecDepth 100000 in
set_option maxHeartbeats 4000000 in
theorem pair_subtract {w : World} {base a m : Nat} {c : Cfg} {S : List SI} (h : AggIs w base a m c S) {i j : Nat} {s t : SI} (hs : S[i]? = some s) (ht : S[j]? = some t)
   (f1 : ∀ zs ∈ s.C,FitL 4611686018427387903 zs) (f2 : ∀ zs ∈ t.C,FitL 4611686018427387903 zs) (hm : c.mode ≠ 2) :
   Calls Tryz.prog 55 #[.pointer (some ⟨a,0,none⟩),pairW ⟨#[115,117,98,116,114,97,99,116]⟩ i j] w fun e w' => e = .returned (.tuple #[.iface 138 (.agg #[]),.int .i64 0]) ∧ AggIs w' base a m c (S.set i { s with C:=List.zipWith (List.zipWith (· - ·)) s.C t.C }) ∧ Upd (AggB a m S) w w':=by
 have hb1:=(Below.refl w.heap.size w).alloc (Nat.le_refl _) (.cells #[.string ⟨#[115,117,98,116,114,97,99,116]⟩,.int .i64 ((i : Int) + 1),.int .i64 ((j : Int) + 1)] 130)
 have hbx:=heap_alloc_new w (.cells #[.string ⟨#[115,117,98,116,114,97,99,116]⟩,.int .i64 ((i : Int) + 1),.int .i64 ((j : Int) + 1)] 130)
 have hA:=h.keep hb1
 generalize hW : w.alloc (.cells #[.string ⟨#[115,117,98,116,114,97,99,116]⟩,.int .i64 ((i : Int) + 1),.int .i64 ((j : Int) + 1)] 130) = W1 at hb1 hbx hA
 have HW:=Lib.hid hW
 have hc0:=hA.c0
 have d0 : W1.cell? ⟨w.heap.size,0,none⟩ = some (.string ⟨#[115,117,98,116,114,97,99,116]⟩):=(cell_of_row _ _ _ _ _ _ hbx).trans rfl
 have d1 : W1.cell? ⟨w.heap.size,1,none⟩ = some (.int .i64 ((i : Int) + 1)):=(cell_of_row _ _ _ _ _ _ hbx).trans rfl
 have d2 : W1.cell? ⟨w.heap.size,2,none⟩ = some (.int .i64 ((j : Int) + 1)):=(cell_of_row _ _ _ _ _ _ hbx).trans rfl
 have hsp : (S.map SI.p)[i]? = some s.p:=by rw [List.getElem?_map,hs]; rfl
 have htp : (S.map SI.p)[j]? = some t.p:=by rw [List.getElem?_map,ht]; rfl
 have hlook:=fun (w' : World) (hw : w'.heap[m]? = some (.map (ents (S.map SI.p)) S.length)) => look_yes hw hsp
 have klook:=fun (w' : World) (hw : w'.heap[m]? = some (.map (ents (S.map SI.p)) S.length)) => look_yes hw htp
 unfold thingV at hlook klook
 have hmm:=hA.map
 have hm1 : ((W1.alloc (.cells #[.pointer none,.pointer none] 114)).drew).heap[m]? = some (.map (ents (S.map SI.p)) S.length):=(Below.heap_alloc _ _ _ (lt_of_block hmm)).trans hmm
 have l1:=hlook W1.drew hmm
 have l2:=hlook (W1.alloc (.cells #[.pointer none,.pointer none] 114)).drew hm1
 have hb2:=((Below.refl W1.heap.size W1).alloc (Nat.le_refl _) (.cells #[.pointer (some ⟨s.p,0,none⟩),.pointer none] 114)).drew
 have hbm : ((W1.alloc (.cells #[.pointer (some ⟨s.p,0,none⟩),.pointer none] 114)).drew).heap[W1.heap.size]? = some (.cells #[.pointer (some ⟨s.p,0,none⟩),.pointer none] 114 (0,0)):=heap_alloc_new W1 (.cells #[.pointer (some ⟨s.p,0,none⟩),.pointer none] 114)
 have hc0':=fun o => cell_make hc0 o
 have d1':=fun o => cell_make d1 o
 have KU:=Lib.hid (fun (w' : World) (hbw : Below W1.heap.size W1 w') => subtract_ok ((hA.st i s hs).below hbw) ((hA.st j t ht).below hbw) f1 f2 hm)
 have HA:=Lib.hid hA
 have HS:=Lib.hid hs
 have HB1:=Lib.hid hb1
 have HX:=Lib.hid hbx
 have HKL:=Lib.hid klook
 have HB2:=Lib.hid hb2
 have HBM:=Lib.hid hbm
 have DD:=Lib.hid (And.intro d0 d2)
 clear hlook klook hmm hm1 h hs ht hb1 hbx hA hsp htp hb2 hbm d0 d2
 unfold pairW
 go_enter Tryz.func55,Tryz.ntmps55
 go_wp2_with fail
 clear hW
 go_region
 all_goals
   clear l1 l2 hc0 hc0' d1 d1'
   have hs2 : W1.heap.size + 1 = ((W1.alloc (.cells #[.pointer (some ⟨s.p,0,none⟩),.pointer none] 114)).drew).heap.size:=by simp
   have hA2:=HA.out.keep HB2.out
   have hc0:=hA2.c0
   have d0:=((HB2.out).cell (p:=⟨w.heap.size,0,none⟩) (lt_of_block HX.out)).trans DD.out.1
   have d2:=((HB2.out).cell (p:=⟨w.heap.size,2,none⟩) (lt_of_block HX.out)).trans DD.out.2
   have e0 : ((W1.alloc (.cells #[.pointer (some ⟨s.p,0,none⟩),.pointer none] 114)).drew).cell? ⟨W1.heap.size,0,none⟩ = some (.pointer (some ⟨s.p,0,none⟩)):=(cell_of_row _ _ _ _ _ _ HBM.out).trans rfl
   have e1 : ((W1.alloc (.cells #[.pointer (some ⟨s.p,0,none⟩),.pointer none] 114)).drew).cell? ⟨W1.heap.size,1,none⟩ = some (.pointer none):=(cell_of_row _ _ _ _ _ _ HBM.out).trans rfl
   have hmm:=hA2.map
   have HA2:=Lib.hid hA2
   clear hA2
   generalize hW2 : (W1.alloc (.cells #[.pointer (some ⟨s.p,0,none⟩),.pointer none] 114)).drew = W2 at *
   have HW2:=Lib.hid hW2
   have HS2:=Lib.hid hs2
   have l1:=HKL.out W2.drew hmm
   have l2:=HKL.out (W2.alloc (.cells #[.pointer none,.pointer none] 114)).drew ((Below.heap_alloc _ _ _ (lt_of_block hmm)).trans hmm)
   have hc0':=fun o => cell_make hc0 o
   have d0':=fun o => cell_make d0 o
   have d2':=fun o => cell_make d2 o
   have e0':=fun o => cell_make e0 o
   have e1':=fun o => cell_make e1 o
   clear hmm hW2 hs2
   go_wp2_with fail
   go_region
   all_goals
     clear l1 l2 hc0 hc0'
     go_wp2_with fail
     have hb3:=HB2.out.alloc HB2.out.size (.cells #[.pointer (some ⟨t.p,0,none⟩),.pointer none] 114)
     have x0:=(cell_make e0 (.cells #[.pointer (some ⟨t.p,0,none⟩),.pointer none] 114))
     have hbt:=heap_alloc_new W2 (.cells #[.pointer (some ⟨t.p,0,none⟩),.pointer none] 114)
     have hbm2:=(Below.heap_alloc W2 (.cells #[.pointer (some ⟨t.p,0,none⟩),.pointer none] 114) _ (lt_of_block HBM.out)).trans HBM.out
     generalize hW3 : W2.alloc (.cells #[.pointer (some ⟨t.p,0,none⟩),.pointer none] 114) = W3 at *
     have HW3:=Lib.hid hW3
     have HB3:=Lib.hid hb3
     have HBT:=Lib.hid hbt
     have HBM2:=Lib.hid hbm2
     clear hW3 hb3 e0 e1 e0' e1' d0 d2 d0' d2' hbt hbm2 x0
     have T0:=Lib.hid (show RegS W3.drew.drew W1.heap.size W2.heap.size s.p t.p from ⟨HBM2.out,HBT.out⟩)
     refine wp_region_held (S:=fun w' => RegS w' W1.heap.size W2.heap.size s.p t.p) (by kernel_rfl) ?_
     refine wpAnyH_take (i:=0) (oi:=⟨_,_,_,_,_,_⟩) (v:=?vv0) rfl (by kernel_rfl) (by kernel_rfl) (by kernel_rfl) (fun _ _ _ h => h) (Or.inl ⟨by rfl,?yy0⟩) T0.out ?_
     case yy0 => (intro w' hw'; go_simp; try with_reducible rfl)
     try simp only [Act.put,List.setIfInBounds_toArray,List.set_cons_zero,List.set_cons_succ]
     refine wpAnyH_take (i:=1) (oi:=⟨_,_,_,_,_,_⟩) (v:=?vv1) rfl (by kernel_rfl) (by kernel_rfl) (by kernel_rfl) (fun _ _ _ h => h) (Or.inl ⟨by rfl,?yy1⟩) T0.out ?_
     case yy1 => (intro w' hw'; have c0:=(hw'.c0 : _); have c1:=(hw'.t0 : _); have c2:=(hw'.t1 : _); go_simp; try with_reducible rfl)
     try simp only [Act.put,List.setIfInBounds_toArray,List.set_cons_zero,List.set_cons_succ]
     refine wpAnyH_take (i:=2) (oi:=⟨_,_,_,_,_,_⟩) (v:=?vv2) rfl (by kernel_rfl) (by kernel_rfl) (by kernel_rfl) (fun _ _ _ h => h) (Or.inl ⟨by rfl,?yy2⟩) T0.out ?_
     case yy2 => (intro w' hw'; have c0:=(hw'.c0 : _); have c1:=(hw'.t0 : _); have c2:=(hw'.t1 : _); go_simp; try with_reducible rfl)
     try simp only [Act.put,List.setIfInBounds_toArray,List.set_cons_zero,List.set_cons_succ]
     refine wpAnyH_ready (rs:=[3]) (by kernel_rfl) (by simp) ?_
     refine AllReadyH.cons (o:=⟨_,_,_,_,_,_⟩) rfl (fun K hK => ?_) AllReadyH.nil
     go_simp
     refine (tstack_any t.p _).mono ?_
     rintro e w2 ⟨rfl,rfl⟩
     refine hK.out _ _ (T0.out.make _) (fun hHeld => ?_)
     clear hK K hHeld
     try simp only [Act.put,List.setIfInBounds_toArray,List.set_cons_zero,List.set_cons_succ]
     have HBC:=Lib.hid (HB3.out.drew.drew.alloc (show W1.heap.size ≤ W3.drew.drew.heap.size from HB3.out.size) (.cells #[.pointer (some ⟨t.p,0,none⟩),.pointer none] 114))
     have T1:=Lib.hid (T0.out.make (.cells #[.pointer (some ⟨t.p,0,none⟩),.pointer none] 114))
     refine wpAnyH_ready (rs:=[4]) (by kernel_rfl) (by simp) ?_
     refine AllReadyH.cons (o:=⟨_,_,_,_,_,_⟩) rfl (fun K hK => ?_) AllReadyH.nil
     go_simp
     refine (KU.out _ HBC.out).mono ?_
     rintro e w3 ⟨rfl,hu,hst⟩
     have HU:=Lib.hid hu
     have HST:=Lib.hid hst
     have T2:=Lib.hid (T1.out.upd (((HA.out.keep HBC.out).st i s HS.out).rowsNo _ T1.out.a (by decide)) (((HA.out.keep HBC.out).st i s HS.out).rowsNo _ T1.out.b (by decide)) hu)
     clear hu hst
     refine hK.out _ _ T2.out (fun hHeld => ?_)
     clear hK K hHeld
     try simp only [Act.put,List.setIfInBounds_toArray,List.set_cons_zero,List.set_cons_succ]
     refine wpAnyH_ready (rs:=[5]) (by kernel_rfl) (by simp) ?_
     refine AllReadyH.cons (o:=⟨_,_,_,_,_,_⟩) rfl (fun K hK => ?_) AllReadyH.nil
     go_simp
     refine (done_ok _).mono ?_
     rintro e w4 ⟨rfl,rfl⟩
     refine hK.out _ _ T2.out (fun hHeld => ?_)
     clear hK K hHeld
     try simp only [Act.put,List.setIfInBounds_toArray,List.set_cons_zero,List.set_cons_succ]
     refine wpAnyH_take (i:=6) (oi:=⟨_,_,_,_,_,_⟩) (v:=?vv6) rfl (by kernel_rfl) (by kernel_rfl) (by kernel_rfl) (fun _ _ _ h => h) (Or.inl ⟨by rfl,?yy6⟩) T2.out ?_
     case yy6 => (intro w' hw'; go_simp; try with_reducible rfl)
     try simp only [Act.put,List.setIfInBounds_toArray,List.set_cons_zero,List.set_cons_succ]
     refine wpAnyH_take (i:=7) (oi:=⟨_,_,_,_,_,_⟩) (v:=?vv7) rfl (by kernel_rfl) (by kernel_rfl) (by kernel_rfl) (fun _ _ _ h => h) (Or.inl ⟨by rfl,?yy7⟩) T2.out ?_
     case yy7 => (intro w' hw'; go_simp; try with_reducible rfl)
     try simp only [Act.put,List.setIfInBounds_toArray,List.set_cons_zero,List.set_cons_succ]
     refine wpAnyH_take (i:=8) (oi:=⟨_,_,_,_,_,_⟩) (v:=?vv8) rfl (by kernel_rfl) (by kernel_rfl) (by kernel_rfl) (fun _ _ _ h => h) (Or.inl ⟨by rfl,?yy8⟩) T2.out ?_
     case yy8 => (intro w' hw'; go_simp; try with_reducible rfl)
     try simp only [Act.put,List.setIfInBounds_toArray,List.set_cons_zero,List.set_cons_succ]
     refine wpAnyH_take (i:=9) (oi:=⟨_,_,_,_,_,_⟩) (v:=?vv9) rfl (by kernel_rfl) (by kernel_rfl) (by kernel_rfl) (fun _ _ _ h => h) (Or.inl ⟨by rfl,?yy9⟩) T2.out ?_
     case yy9 => (intro w' hw'; go_simp; try with_reducible rfl)
     try simp only [Act.put,List.setIfInBounds_toArray,List.set_cons_zero,List.set_cons_succ]
     refine wpAnyH_done (by kernel_rfl) ?_ _
     go_wp2_with fail
     go_ret2
     have hput:=(HA.out.keep HBC.out).put HS.out HU.out HST.out
     exact ⟨rfl,hput.1,(Upd.of_below HB1.out).trans ((Upd.of_below HBC.out).trans hput.2)⟩
set_option maxRecDepth 100000 in
set_option maxHeartbeats 4000000 in
theorem pair_subtract_no {w : World} {base a m : Nat} {c : Cfg} {S : List SI} (h : AggIs w base a m c S) {i j : Nat} {s t : SI} (hs : S[i]? = some s) (ht : S[j]? = some t) (hm : c.mode = 2) :
   Calls Tryz.prog 55 #[.pointer (some ⟨a,0,none⟩),pairW ⟨#[115,117,98,116,114,97,99,116]⟩ i j] w fun e w' => e = .returned (.tuple #[.nilIface,.int .i64 3]) ∧ AggIs w' base a m c S ∧ Below w.heap.size w w':=by
 have hb1:=(Below.refl w.heap.size w).alloc (Nat.le_refl _) (.cells #[.string ⟨#[115,117,98,116,114,97,99,116]⟩,.int .i64 ((i : Int) + 1),.int .i64 ((j : Int) + 1)] 130)
 have hbx:=heap_alloc_new w (.cells #[.string ⟨#[115,117,98,116,114,97,99,116]⟩,.int .i64 ((i : Int) + 1),.int .i64 ((j : Int) + 1)] 130)
 have hA:=h.keep hb1
 generalize hW : w.alloc (.cells #[.string ⟨#[115,117,98,116,114,97,99,116]⟩,.int .i64 ((i : Int) + 1),.int .i64 ((j : Int) + 1)] 130) = W1 at hb1 hbx hA
 have HW:=Lib.hid hW
 have hc0:=hA.c0
 have d0 : W1.cell? ⟨w.heap.size,0,none⟩ = some (.string ⟨#[115,117,98,116,114,97,99,116]⟩):=(cell_of_row _ _ _ _ _ _ hbx).trans rfl
 have d1 : W1.cell? ⟨w.heap.size,1,none⟩ = some (.int .i64 ((i : Int) + 1)):=(cell_of_row _ _ _ _ _ _ hbx).trans rfl
 have d2 : W1.cell? ⟨w.heap.size,2,none⟩ = some (.int .i64 ((j : Int) + 1)):=(cell_of_row _ _ _ _ _ _ hbx).trans rfl
 have hsp : (S.map SI.p)[i]? = some s.p:=by rw [List.getElem?_map,hs]; rfl
 have htp : (S.map SI.p)[j]? = some t.p:=by rw [List.getElem?_map,ht]; rfl
 have hlook:=fun (w' : World) (hw : w'.heap[m]? = some (.map (ents (S.map SI.p)) S.length)) => look_yes hw hsp
 have klook:=fun (w' : World) (hw : w'.heap[m]? = some (.map (ents (S.map SI.p)) S.length)) => look_yes hw htp
 unfold thingV at hlook klook
 have hmm:=hA.map
 have hm1 : ((W1.alloc (.cells #[.pointer none,.pointer none] 114)).drew).heap[m]? = some (.map (ents (S.map SI.p)) S.length):=(Below.heap_alloc _ _ _ (lt_of_block hmm)).trans hmm
 have l1:=hlook W1.drew hmm
 have l2:=hlook (W1.alloc (.cells #[.pointer none,.pointer none] 114)).drew hm1
 have hb2:=((Below.refl W1.heap.size W1).alloc (Nat.le_refl _) (.cells #[.pointer (some ⟨s.p,0,none⟩),.pointer none] 114)).drew
 have hbm : ((W1.alloc (.cells #[.pointer (some ⟨s.p,0,none⟩),.pointer none] 114)).drew).heap[W1.heap.size]? = some (.cells #[.pointer (some ⟨s.p,0,none⟩),.pointer none] 114 (0,0)):=heap_alloc_new W1 (.cells #[.pointer (some ⟨s.p,0,none⟩),.pointer none] 114)
 have hc0':=fun o => cell_make hc0 o
 have d1':=fun o => cell_make d1 o
 have KU:=Lib.hid (fun (w' : World) (hbw : Below W1.heap.size W1 w') => subtract_no ((hA.st i s hs).below hbw) ((hA.st j t ht).below hbw) hm)
 have HA:=Lib.hid hA
 have HS:=Lib.hid hs
 have HB1:=Lib.hid hb1
 have HX:=Lib.hid hbx
 have HKL:=Lib.hid klook
 have HB2:=Lib.hid hb2
 have HBM:=Lib.hid hbm
 have DD:=Lib.hid (And.intro d0 d2)
 clear hlook klook hmm hm1 h hs ht hb1 hbx hA hsp htp hb2 hbm d0 d2
 unfold pairW
 go_enter Tryz.func55,Tryz.ntmps55
 go_wp2_with fail
 clear hW
 go_region
 all_goals
   clear l1 l2 hc0 hc0' d1 d1'
   have hs2 : W1.heap.size + 1 = ((W1.alloc (.cells #[.pointer (some ⟨s.p,0,none⟩),.pointer none] 114)).drew).heap.size:=by simp
   have hA2:=HA.out.keep HB2.out
   have hc0:=hA2.c0
   have d0:=((HB2.out).cell (p:=⟨w.heap.size,0,none⟩) (lt_of_block HX.out)).trans DD.out.1
   have d2:=((HB2.out).cell (p:=⟨w.heap.size,2,none⟩) (lt_of_block HX.out)).trans DD.out.2
   have e0 : ((W1.alloc (.cells #[.pointer (some ⟨s.p,0,none⟩),.pointer none] 114)).drew).cell? ⟨W1.heap.size,0,none⟩ = some (.pointer (some ⟨s.p,0,none⟩)):=(cell_of_row _ _ _ _ _ _ HBM.out).trans rfl
   have e1 : ((W1.alloc (.cells #[.pointer (some ⟨s.p,0,none⟩),.pointer none] 114)).drew).cell? ⟨W1.heap.size,1,none⟩ = some (.pointer none):=(cell_of_row _ _ _ _ _ _ HBM.out).trans rfl
   have hmm:=hA2.map
   have HA2:=Lib.hid hA2
   clear hA2
   generalize hW2 : (W1.alloc (.cells #[.pointer (some ⟨s.p,0,none⟩),.pointer none] 114)).drew = W2 at *
   have HW2:=Lib.hid hW2
   have HS2:=Lib.hid hs2
   have l1:=HKL.out W2.drew hmm
   have l2:=HKL.out (W2.alloc (.cells #[.pointer none,.pointer none] 114)).drew ((Below.heap_alloc _ _ _ (lt_of_block hmm)).trans hmm)
   have hc0':=fun o => cell_make hc0 o
   have d0':=fun o => cell_make d0 o
   have d2':=fun o => cell_make d2 o
   have e0':=fun o => cell_make e0 o
   have e1':=fun o => cell_make e1 o
   clear hmm hW2 hs2
   go_wp2_with fail
   go_region
   all_goals
     clear l1 l2 hc0 hc0'
     go_wp2_with fail
     have hb3:=HB2.out.alloc HB2.out.size (.cells #[.pointer (some ⟨t.p,0,none⟩),.pointer none] 114)
     have x0:=(cell_make e0 (.cells #[.pointer (some ⟨t.p,0,none⟩),.pointer none] 114))
     have hbt:=heap_alloc_new W2 (.cells #[.pointer (some ⟨t.p,0,none⟩),.pointer none] 114)
     have hbm2:=(Below.heap_alloc W2 (.cells #[.pointer (some ⟨t.p,0,none⟩),.pointer none] 114) _ (lt_of_block HBM.out)).trans HBM.out
     generalize hW3 : W2.alloc (.cells #[.pointer (some ⟨t.p,0,none⟩),.pointer none] 114) = W3 at *
     have HW3:=Lib.hid hW3
     have HB3:=Lib.hid hb3
     have HBT:=Lib.hid hbt
     have HBM2:=Lib.hid hbm2
     clear hW3 hb3 e0 e1 e0' e1' d0 d2 d0' d2' hbt hbm2 x0
     have T0:=Lib.hid (show RegS W3.drew.drew W1.heap.size W2.heap.size s.p t.p from ⟨HBM2.out,HBT.out⟩)
     refine wp_region_held (S:=fun w' => RegS w' W1.heap.size W2.heap.size s.p t.p) (by kernel_rfl) ?_
     refine wpAnyH_take (i:=0) (oi:=⟨_,_,_,_,_,_⟩) (v:=?vv0) rfl (by kernel_rfl) (by kernel_rfl) (by kernel_rfl) (fun _ _ _ h => h) (Or.inl ⟨by rfl,?yy0⟩) T0.out ?_
     case yy0 => (intro w' hw'; go_simp; try with_reducible rfl)
     try simp only [Act.put,List.setIfInBounds_toArray,List.set_cons_zero,List.set_cons_succ]
     refine wpAnyH_take (i:=1) (oi:=⟨_,_,_,_,_,_⟩) (v:=?vv1) rfl (by kernel_rfl) (by kernel_rfl) (by kernel_rfl) (fun _ _ _ h => h) (Or.inl ⟨by rfl,?yy1⟩) T0.out ?_
     case yy1 => (intro w' hw'; have c0:=(hw'.c0 : _); have c1:=(hw'.t0 : _); have c2:=(hw'.t1 : _); go_simp; try with_reducible rfl)
     try simp only [Act.put,List.setIfInBounds_toArray,List.set_cons_zero,List.set_cons_succ]
     refine wpAnyH_take (i:=2) (oi:=⟨_,_,_,_,_,_⟩) (v:=?vv2) rfl (by kernel_rfl) (by kernel_rfl) (by kernel_rfl) (fun _ _ _ h => h) (Or.inl ⟨by rfl,?yy2⟩) T0.out ?_
     case yy2 => (intro w' hw'; have c0:=(hw'.c0 : _); have c1:=(hw'.t0 : _); have c2:=(hw'.t1 : _); go_simp; try with_reducible rfl)
     try simp only [Act.put,List.setIfInBounds_toArray,List.set_cons_zero,List.set_cons_succ]
     refine wpAnyH_ready (rs:=[3]) (by kernel_rfl) (by simp) ?_
     refine AllReadyH.cons (o:=⟨_,_,_,_,_,_⟩) rfl (fun K hK => ?_) AllReadyH.nil
     go_simp
     refine (tstack_any t.p _).mono ?_
     rintro e w2 ⟨rfl,rfl⟩
     refine hK.out _ _ (T0.out.make _) (fun hHeld => ?_)
     clear hK K hHeld
     try simp only [Act.put,List.setIfInBounds_toArray,List.set_cons_zero,List.set_cons_succ]
     have HBC:=Lib.hid (HB3.out.drew.drew.alloc (show W1.heap.size ≤ W3.drew.drew.heap.size from HB3.out.size) (.cells #[.pointer (some ⟨t.p,0,none⟩),.pointer none] 114))
     have T1:=Lib.hid (T0.out.make (.cells #[.pointer (some ⟨t.p,0,none⟩),.pointer none] 114))
     refine wpAnyH_ready (rs:=[4]) (by kernel_rfl) (by simp) ?_
     refine AllReadyH.cons (o:=⟨_,_,_,_,_,_⟩) rfl (fun K hK => ?_) AllReadyH.nil
     go_simp
     refine (KU.out _ HBC.out).mono ?_
     rintro e w3 ⟨rfl,hb⟩
     have HU:=Lib.hid (HBC.out.then hb)
     have T2:=Lib.hid (T1.out.upd (S:=fun _ => False) id id (Upd.of_below hb))
     clear hb
     refine hK.out _ _ T2.out (fun hHeld => ?_)
     clear hK K hHeld
     try simp only [Act.put,List.setIfInBounds_toArray,List.set_cons_zero,List.set_cons_succ]
     refine wpAnyH_ready (rs:=[5]) (by kernel_rfl) (by simp) ?_
     refine AllReadyH.cons (o:=⟨_,_,_,_,_,_⟩) rfl (fun K hK => ?_) AllReadyH.nil
     go_simp
     refine (done_no 3 (by decide) _).mono ?_
     rintro e w4 ⟨rfl,rfl⟩
     refine hK.out _ _ T2.out (fun hHeld => ?_)
     clear hK K hHeld
     try simp only [Act.put,List.setIfInBounds_toArray,List.set_cons_zero,List.set_cons_succ]
     refine wpAnyH_take (i:=6) (oi:=⟨_,_,_,_,_,_⟩) (v:=?vv6) rfl (by kernel_rfl) (by kernel_rfl) (by kernel_rfl) (fun _ _ _ h => h) (Or.inl ⟨by rfl,?yy6⟩) T2.out ?_
     case yy6 => (intro w' hw'; go_simp; try with_reducible rfl)
     try simp only [Act.put,List.setIfInBounds_toArray,List.set_cons_zero,List.set_cons_succ]
     refine wpAnyH_take (i:=7) (oi:=⟨_,_,_,_,_,_⟩) (v:=?vv7) rfl (by kernel_rfl) (by kernel_rfl) (by kernel_rfl) (fun _ _ _ h => h) (Or.inl ⟨by rfl,?yy7⟩) T2.out ?_
     case yy7 => (intro w' hw'; go_simp; try with_reducible rfl)
     try simp only [Act.put,List.setIfInBounds_toArray,List.set_cons_zero,List.set_cons_succ]
     refine wpAnyH_take (i:=8) (oi:=⟨_,_,_,_,_,_⟩) (v:=?vv8) rfl (by kernel_rfl) (by kernel_rfl) (by kernel_rfl) (fun _ _ _ h => h) (Or.inl ⟨by rfl,?yy8⟩) T2.out ?_
     case yy8 => (intro w' hw'; go_simp; try with_reducible rfl)
     try simp only [Act.put,List.setIfInBounds_toArray,List.set_cons_zero,List.set_cons_succ]
     refine wpAnyH_take (i:=9) (oi:=⟨_,_,_,_,_,_⟩) (v:=?vv9) rfl (by kernel_rfl) (by kernel_rfl) (by kernel_rfl) (fun _ _ _ h => h) (Or.inl ⟨by rfl,?yy9⟩) T2.out ?_
     case yy9 => (intro w' hw'; go_simp; try with_reducible rfl)
     try simp only [Act.put,List.setIfInBounds_toArray,List.set_cons_zero,List.set_cons_succ]
     refine wpAnyH_done (by kernel_rfl) ?_ _
     go_wp2_with fail
     go_ret2
     exact ⟨rfl,HA.out.keep HU.out,HB1.out.then HU.out⟩
end Go.Proofs.YtejaocnhekjfiaaGreatDoor
namespace Go.Proofs.YtejaocnhekjfiaaGreatDoor.S21
def enc (u : Nat) : List Int:=if u < 128 then [(u : Int)] else (128 + ((u % 128 : Nat) : Int)) :: enc (u / 128)
decreasing_by omega
theorem enc_small {u : Nat} (h : u < 128) : enc u = [(u : Int)]:=by rw [enc,if_pos h]
theorem enc_big {u : Nat} (h : ¬ u < 128) : enc u = (128 + ((u % 128 : Nat) : Int)) :: enc (u / 128):=by rw [enc,if_neg h]
theorem enc_pos (u : Nat) : 1 ≤ (enc u).length:=by
 rw [enc]; split <;> simp
theorem enc_len (k : Nat) : ∀ u : Nat,u < 128 ^ (k + 1) → (enc u).length ≤ k + 1:=by
 induction k with
 | zero => intro u h; rw [enc_small (by simpa using h)]; simp
 | succ k ih =>
   intro u h
   by_cases h1 : u < 128
   · rw [enc_small h1]; simp
   · rw [enc_big h1,List.length_cons]
     have:=ih (u / 128) (by rw [Nat.pow_succ] at h; omega)
     omega
theorem enc_ten {u : Nat} (h : u < 18446744073709551616) : (enc u).length ≤ 10:=by
 refine enc_len 9 u ?_
 have : (128 : Nat) ^ (9 + 1) = 1180591620717411303424:=by decide
 omega
end Go.Proofs.YtejaocnhekjfiaaGreatDoor.S21
namespace Go.Proofs.YtejaocnhekjfiaaGreatDoor.S21
open Go.RowKit
set_option linter.unusedVariables false
def bv (n : Int) : Value:=.int .u8 n
def iv (n : Int) : Value:=.int .i64 n
theorem iv_one (l : List Int) : ∀ u ∈ l.map iv,u.oneCell' = true:=by
 intro u hu
 obtain ⟨x,_,rfl⟩:=List.mem_map.1 hu
 rfl
theorem info5 : (Tryz.prog.info? 5).map (fun i => (i.zero,i.size,i.bytes)) = some (some (.int .u8 0),1,1):=by kernel_rfl
theorem info2 : (Tryz.prog.info? 2).map (fun i => (i.zero,i.size,i.bytes)) = some (some (.int .i64 0),1,8):=by kernel_rfl
theorem own_below {w w' : World} {base : Nat} {e : TypeId} {size : Nat} {v : Value} {n : Nat} {xs : List Value} (h : w.ownsRow base e size v n xs) (hb : Below w.heap.size w w') : w'.ownsRow base e size v n xs:=by
 refine ⟨h.1,?_⟩
 rcases h.2 with h2 | ⟨g,cap,cur,e1,hg,hh,hr⟩
 · exact Or.inl h2
 · exact Or.inr ⟨g,cap,cur,e1,hg,(hb.block g (lt_of_block hh)).trans hh,hr⟩
theorem or128 {x : Int} (h : 0 ≤ x) : bits BinOp.or IntKind.u8 (IntKind.u8.wrap x) 128 = 128 + x % 128:=by
 show IntKind.u8.wrap ((BitVec.ofInt 8 (IntKind.u8.wrap x) ||| BitVec.ofInt 8 128).toNat : Int) = _
 have key : ∀ k : BitVec 8,(k ||| 128#8).toNat = 128 + k.toNat % 128:=by decide
 have e : BitVec.ofInt 8 128 = 128#8:=by decide
 rw [e,key,BitVec.toNat_ofInt,IntKind.wrap_u8,IntKind.wrap_u8]
 omega
end Go.Proofs.YtejaocnhekjfiaaGreatDoor.S21
namespace Go.Proofs.YtejaocnhekjfiaaGreatDoor.S21
open Go.RowKit
set_option linter.unusedVariables false
theorem grown_refl (w : World) (r : Option Nat) : w.grownBy w r:=⟨rfl,rfl,rfl,Nat.le_refl _,fun _ _ _ => rfl⟩
theorem grown_alloc {w w1 : World} {r : Option Nat} (h : w.grownBy w1 r) (o : Obj) : w.grownBy (w1.alloc o) r:=
 ⟨h.os,h.tape,h.output,by have:=h.size; rw [World.size_alloc]; omega,fun k hk hr => (heap_alloc_old w1 o (Nat.lt_of_lt_of_le hk h.size)).trans (h.block k hk hr)⟩
def Moved (w : World) (v v' : Value) : Prop:=v'.ownBlock = v.ownBlock ∨ ∃ k,v'.ownBlock = some k ∧ w.heap.size ≤ k
theorem grown_trans {w w1 w2 : World} {v v1 : Value} (h : w.grownBy w1 v.ownBlock) (hm : Moved w v v1) (h2 : w1.grownBy w2 v1.ownBlock) : w.grownBy w2 v.ownBlock:=
 ⟨h2.os.trans h.os,h2.tape.trans h.tape,h2.output.trans h.output,Nat.le_trans h.size h2.size,fun k hk hr => by
   refine (h2.block k (Nat.lt_of_lt_of_le hk h.size) ?_).trans (h.block k hk hr)
   rcases hm with hm | ⟨j,hj,hjk⟩
   · rw [hm]; exact hr
   · rw [hj]; simp; omega⟩
theorem Moved.step {w w1 : World} {v v1 v2 : Value} (hs : w.heap.size ≤ w1.heap.size) (h : Moved w v v1) (h2 : v2.ownBlock = v1.ownBlock ∨ v2.ownBlock = some w1.heap.size) : Moved w v v2:=by
 rcases h2 with h2 | h2
 · unfold Moved; rw [h2]; exact h
 · exact .inr ⟨_,h2,hs⟩
def Longer (B : Nat) (w : World) (v : Value) (xs : List Value) (e : Ending) (w' : World) : Prop:=∃ v',e = .returned v' ∧ w'.ownsRow B 5 1 v' xs.length xs ∧ w.grownBy w' v.ownBlock ∧ Moved w v v'
set_option maxRecDepth 100000 in
set_option maxHeartbeats 1000000 in
theorem clos_any (B : Nat) (v : Value) (xs : List Int) (u : Nat) (w : World) (hown0 : w.ownsRow B 5 1 v xs.length (xs.map bv)) (hx : xs.length ≤ 1048576) (hu : u < 18446744073709551616) (hB : B ≤ w.heap.size) :
   Calls Tryz.prog 173 #[v,.int .u64 u] w (Longer B w v ((xs ++ enc u).map bv)):=by
 obtain ⟨i0,hi,hz0,hz1,hz2⟩:=info_parts info5
 have HE:=Lib.hid (enc_ten hu)
 have HU:=Lib.hid hu; clear hu
 have HX:=Lib.hid hx; clear hx
 have O0:=Lib.hid hown0; clear hown0
 have HBB:=Lib.hid hB; clear hB
 go_enter Tryz.func173,Tryz.ntmps173
 go_wp2_with fail
 go_loopw [0,1] (fun y a wr => ∃ (M : Nat) (ds : List Int),a = .int .u64 M ∧ wr.ownsRow B 5 1 y (xs.length + ds.length) ((xs ++ ds).map bv) ∧ w.grownBy wr v.ownBlock ∧ Moved w v y ∧ ds ++ enc M = enc u ∧ M < 18446744073709551616) (fun _ a _ => (intOf a).toNat)
 case atStart => exact ⟨u,[],rfl,by simpa using O0.out,grown_refl _ _,.inl rfl,rfl,HU.out⟩
 case round =>
   obtain ⟨M,ds,rfl,hown,hb,hmv,hds,hM⟩:=hrel
   have HO:=Lib.hid hown; have HB:=Lib.hid hb; have HD:=Lib.hid hds; have HV:=Lib.hid hmv
   obtain ⟨va,vc,rfl,_⟩:=Row.own hown
   have hl:=congrArg List.length hds
   rw [List.length_append] at hl
   have hp:=enc_pos M
   have hE:=HE.out
   have hX:=HX.out
   have hm1 : xs.length + ds.length + 1 ≤ maxLen:=by unfold maxLen; omega
   have hm2 : (xs.length + ds.length + 1) * 1 ≤ 140737488355328:=by omega
   have hM2 : (M : Int) ≤ 18446744073709551615:=by omega
   have HM:=Lib.hid hM
   have hsz : ∀ o,B ≤ (wr.alloc o).heap.size:=fun o => by have h1:=HB.out.size; have h2:=HBB.out; rw [World.size_alloc]; omega
   clear hown hb hds hl hp hE hM hX O0 hmv
   by_cases hlt : M < 128
   · have hw : IntKind.u8.wrap (M : Int) = (M : Int):=by rw [IntKind.wrap_u8]; omega
     have hge : (M : Int) < 128:=by omega
     go_wp2_with (at_builtin; refine wpList_append_own_at _ rfl (.tmp 15) (.tmp 18) 92 rfl B 5 i0 (.int .u8 0) 1 1 Tryz.underlying92 hi hz0 hz1 hz2 rfl (by decide) _ (xs.length + ds.length) ((xs ++ ds).map bv) rfl (HO.out.alloc _) ⟨wr.heap.size,0,none⟩ 1 1 [bv M] rfl rfl (news_one wr (bv M) 5) (one_int .u8 _) hm1 hm2 (hsz _) ?_; intro v3 w3 hown3 hg3 hnil3 hat3)
     have HO3:=Lib.hid hown3
     have HG3:=Lib.hid (grown_trans (grown_alloc HB.out _) HV.out hg3)
     have HV3:=Lib.hid (HV.out.step (grown_alloc HB.out _).size hat3)
     clear hown3 hg3 hnil3 hat3
     go_wp2
     go_ret
     refine ⟨v3,rfl,?_,HG3.out,HV3.out⟩
     rw [← HD.out,enc_small hlt]
     have:=HO3.out
     simp only [List.length_map,List.length_append,List.length_singleton,← Nat.add_assoc] at this ⊢
     simpa using this
   · have hw : bits BinOp.or IntKind.u8 ((M : Int) % 256) 128 = 128 + (M : Int) % 128:=by have:=or128 (show (0 : Int) ≤ (M : Int) by omega); rwa [IntKind.wrap_u8] at this
     have hge : (128 : Int) ≤ (M : Int):=by omega
     go_wp2_with (at_builtin; refine wpList_append_own_at _ rfl (.tmp 9) (.tmp 13) 92 rfl B 5 i0 (.int .u8 0) 1 1 Tryz.underlying92 hi hz0 hz1 hz2 rfl (by decide) _ (xs.length + ds.length) ((xs ++ ds).map bv) rfl (HO.out.alloc _) ⟨wr.heap.size,0,none⟩ 1 1 [bv (128 + (M : Int) % 128)] rfl rfl (news_one wr (bv (128 + (M : Int) % 128)) 5) (one_int .u8 _) hm1 hm2 (hsz _) ?_; intro v3 w3 hown3 hg3 hnil3 hat3)
     have HO3:=Lib.hid hown3
     have HG3:=Lib.hid (grown_trans (grown_alloc HB.out _) HV.out hg3)
     have HV3:=Lib.hid (HV.out.step (grown_alloc HB.out _).size hat3)
     clear hown3 hg3 hnil3 hat3
     go_wp2
     go_roundw
     case rel =>
       refine ⟨M / 128,ds ++ [128 + (M : Int) % 128],by simp,?_,HG3.out,HV3.out,?_,by have:=HM.out; omega⟩
       · have:=HO3.out
         simp only [List.length_append,List.length_singleton,← Nat.add_assoc]
         simpa using this
       · rw [← HD.out,enc_big hlt]; simp
     case measure => simp [intOf]; omega
end Go.Proofs.YtejaocnhekjfiaaGreatDoor.S21
namespace Go.Proofs.YtejaocnhekjfiaaGreatDoor.S21
open Go.RowKit
set_option linter.unusedVariables false
def In64 (l : List Int) : Prop:=∀ x ∈ l,-9223372036854775808 ≤ x ∧ x ≤ 9223372036854775807
end Go.Proofs.YtejaocnhekjfiaaGreatDoor.S21
namespace Go.Proofs.YtejaocnhekjfiaaGreatDoor.S21
open Go.RowKit
set_option linter.unusedVariables false
end Go.Proofs.YtejaocnhekjfiaaGreatDoor.S21
namespace Go.Proofs.YtejaocnhekjfiaaGreatDoor
open Go.RowKit
set_option linter.unusedVariables false
set_option maxRecDepth 100000 in
set_option maxHeartbeats 1000000 in
theorem sum_any (a : Option Addr) (len cap : Nat) (l : List (BitVec 8)) (w : World) (hl : S22.Bytes w a len l) :
   Calls Tryz.prog 97 #[.slice a len cap] w fun e w' => e = .returned (.int .u32 ((Crc.extend 0#32 l).toNat : Int)) ∧ Below w.heap.size w w':=by
 go_enter Tryz.func97,Tryz.ntmps97
 go_wp2_with (go_at_call 147; refine (S22.extend_any 0#32 a len cap l _ hl).mono ?_; rintro e w1 ⟨rfl,hb1⟩)
 go_ret
 exact ⟨rfl,hb1⟩
end Go.Proofs.YtejaocnhekjfiaaGreatDoor
namespace Go.Proofs.YtejaocnhekjfiaaGreatDoor
open Go.RowKit
set_option linter.unusedVariables false
end Go.Proofs.YtejaocnhekjfiaaGreatDoor
namespace Go.Proofs.YtejaocnhekjfiaaGreatDoor
open Go.RowKit
set_option linter.unusedVariables false
end Go.Proofs.YtejaocnhekjfiaaGreatDoor
namespace Go.Proofs.YtejaocnhekjfiaaGreatDoor
open Go.RowKit
set_option linter.unusedVariables false
end Go.Proofs.YtejaocnhekjfiaaGreatDoor
namespace Go.Proofs.YtejaocnhekjfiaaGreatDoor
open Go.RowKit
set_option linter.unusedVariables false
end Go.Proofs.YtejaocnhekjfiaaGreatDoor
namespace Go.Proofs.YtejaocnhekjfiaaGreatDoor
open Go.RowKit
set_option linter.unusedVariables false
set_option maxRecDepth 100000 in
set_option maxHeartbeats 600000 in
theorem query_point {w : World} {base a m : Nat} {c : Cfg} {S : List SI} (h : AggIs w base a m c S) {i : Nat} {s : SI} (hs : S[i]? = some s) (al : Option Addr) (cl : Nat) (n k : Nat) (A : LA) (zs : List Int) (hr : Row w al 2 [.int .i64 n,.int .i64 k]) (hA : s.L[n]? = some A) (hz : s.C[n]? = some zs) (hk : k < 2 ^ (c.bits - n)) (hn : n ≤ 59) (hk2 : k ≤ 9223372036854775807) :
   Calls Tryz.prog 54 #[.pointer (some ⟨a,0,none⟩),.agg #[.string ⟨#[112,111,105,110,116]⟩,.int .i64 ((i : Int) + 1),.slice al 2 cl]] w fun e w' => e = .returned (.tuple #[.iface 142 (.agg #[.int .i64 (levPoint c n zs k)]),.int .i64 0]) ∧ AggIs w' base a m c S ∧ Below w.heap.size w w':=by
 have hb1:=(Below.refl w.heap.size w).alloc (Nat.le_refl _) (.cells #[.string ⟨#[112,111,105,110,116]⟩,.int .i64 ((i : Int) + 1),.slice al 2 cl] 127)
 have hbx:=heap_alloc_new w (.cells #[.string ⟨#[112,111,105,110,116]⟩,.int .i64 ((i : Int) + 1),.slice al 2 cl] 127)
 have hAA:=h.keep hb1
 generalize hW : w.alloc (.cells #[.string ⟨#[112,111,105,110,116]⟩,.int .i64 ((i : Int) + 1),.slice al 2 cl] 127) = W1 at hb1 hbx hAA
 have HW:=Lib.hid hW
 have hc0:=hAA.c0
 have d0 : W1.cell? ⟨w.heap.size,0,none⟩ = some (.string ⟨#[112,111,105,110,116]⟩):=(cell_of_row _ _ _ _ _ _ hbx).trans rfl
 have d1 : W1.cell? ⟨w.heap.size,1,none⟩ = some (.int .i64 ((i : Int) + 1)):=(cell_of_row _ _ _ _ _ _ hbx).trans rfl
 have hsp : (S.map SI.p)[i]? = some s.p:=by rw [List.getElem?_map,hs]; rfl
 have hlook:=fun (w' : World) (hw : w'.heap[m]? = some (.map (ents (S.map SI.p)) S.length)) => look_yes hw hsp
 have hkt:=fun w => tstack_any s.p w
 unfold thingV at hlook hkt
 have KT:=Lib.hid hkt
 have hmm:=hAA.map
 have hm1 : ((W1.alloc (.cells #[.pointer none,.pointer none] 114)).drew).heap[m]? = some (.map (ents (S.map SI.p)) S.length):=(Below.heap_alloc _ _ _ (lt_of_block hmm)).trans hmm
 have l1:=hlook W1.drew hmm
 have l2:=hlook (W1.alloc (.cells #[.pointer none,.pointer none] 114)).drew hm1
 have hb2:=((Below.refl W1.heap.size W1).alloc (Nat.le_refl _) (.cells #[.pointer (some ⟨s.p,0,none⟩),.pointer none] 114)).drew
 have hbm : ((W1.alloc (.cells #[.pointer (some ⟨s.p,0,none⟩),.pointer none] 114)).drew).heap[W1.heap.size]? = some (.cells #[.pointer (some ⟨s.p,0,none⟩),.pointer none] 114 (0,0)):=heap_alloc_new W1 (.cells #[.pointer (some ⟨s.p,0,none⟩),.pointer none] 114)
 have hc0':=fun o => cell_make hc0 o
 have d1':=fun o => cell_make d1 o
 have KP:=Lib.hid (fun (w' : World) (hbw : Below W1.heap.size W1 w') => stpoint_ok ((hAA.st i s hs).below hbw) n A zs hA hz k hk)
 obtain ⟨b0,o0,ha0,hr0,hl0⟩:=hr.2 0 (.int .i64 n) rfl
 obtain ⟨b1,o1,ha1,hr1,hl1⟩:=hr.2 1 (.int .i64 k) rfl
 rw [ha0] at ha1
 simp only [Option.some.injEq,Addr.mk.injEq,and_true] at ha1
 obtain ⟨rfl,rfl⟩:=ha1
 subst ha0
 have R0:=Lib.hid ((hb1.cell (p:=⟨b0,o0 + 0,none⟩) hl0).trans hr0)
 have R1:=Lib.hid ((hb1.cell (p:=⟨b0,o0 + 1,none⟩) hl1).trans hr1)
 have RL:=Lib.hid (Nat.lt_of_lt_of_le hl0 hb1.size)
 clear hr hr0 hr1 hl0 hl1 hA hz hk
 have HA:=Lib.hid hAA
 have HS:=Lib.hid hs
 have HB1:=Lib.hid hb1
 have HX:=Lib.hid hbx
 have HB2:=Lib.hid hb2
 have HBM:=Lib.hid hbm
 clear hkt hlook hmm hm1 h hs hb1 hbx hAA hsp hb2 hbm d0
 go_enter Tryz.func54,Tryz.ntmps54
 go_wp2_with fail
 clear hW
 go_cut [6,7] (fun s6 s7 wx => s6 = .pointer (some ⟨W1.heap.size,0,none⟩) ∧ s7 = .bool true ∧ wx = (W1.alloc (.cells #[.pointer (some ⟨s.p,0,none⟩),.pointer none] 114)).drew)
 case first =>
   go_region
   all_goals go_wp2_with fail
   all_goals go_meet
   all_goals exact ⟨rfl,rfl,rfl⟩
 case rest =>
   obtain ⟨rfl,rfl,hwc⟩:=hcut
   clear l1 l2 hc0 hc0' d1 d1'
   have d0:=((HB2.out).cell (p:=⟨w.heap.size,0,none⟩) (lt_of_block HX.out)).trans ((cell_of_row _ _ _ _ _ _ HX.out).trans rfl)
   have d2:=((HB2.out).cell (p:=⟨w.heap.size,2,none⟩) (lt_of_block HX.out)).trans ((cell_of_row _ _ _ _ _ _ HX.out).trans rfl)
   have e0 : ((W1.alloc (.cells #[.pointer (some ⟨s.p,0,none⟩),.pointer none] 114)).drew).cell? ⟨W1.heap.size,0,none⟩ = some (.pointer (some ⟨s.p,0,none⟩)):=(cell_of_row _ _ _ _ _ _ HBM.out).trans rfl
   have e1 : ((W1.alloc (.cells #[.pointer (some ⟨s.p,0,none⟩),.pointer none] 114)).drew).cell? ⟨W1.heap.size,1,none⟩ = some (.pointer none):=(cell_of_row _ _ _ _ _ _ HBM.out).trans rfl
   rw [← hwc] at d0 d2 e0 e1 HBM HB2
   clear hwc
   obtain ⟨X,hX⟩ : ∃ x : World,x = wc:=⟨_,rfl⟩
   subst hX
   go_wp2_with fail
   ((with_reducible refine (KT.out X).mono ?_); rintro e w2 ⟨rfl,rfl⟩)
   have hb3:=HB2.out.alloc HB2.out.size (.cells #[.pointer (some ⟨s.p,0,none⟩),.pointer none] 114)
   have c0:=cell_make d0 (.cells #[.pointer (some ⟨s.p,0,none⟩),.pointer none] 114)
   have c2:=cell_make d2 (.cells #[.pointer (some ⟨s.p,0,none⟩),.pointer none] 114)
   clear d0 d2 e0 e1
   generalize hY : X.alloc (.cells #[.pointer (some ⟨s.p,0,none⟩),.pointer none] 114) = Y at *
   have HB3:=Lib.hid hb3
   clear hY hb3
   go_upto_region 14 with fail
   have hc2:=c2
   have f2 : ∀ w',Below Y.heap.size Y w' → w'.cell? ⟨w.heap.size,2,none⟩ = some (.slice (some ⟨b0,o0,none⟩) 2 cl):=fun w' hb => (hb.cell (p:=⟨w.heap.size,2,none⟩) (block_lt_of_cell c2)).trans c2
   have g0 : ∀ w',Below Y.heap.size Y w' → w'.cell? ⟨b0,o0,none⟩ = some (.int .i64 n):=fun w' hb => ((HB3.out.then hb).cell (p:=⟨b0,o0,none⟩) RL.out).trans R0.out
   have g1 : ∀ w',Below Y.heap.size Y w' → w'.cell? ⟨b0,o0 + 1,none⟩ = some (.int .i64 k):=fun w' hb => ((HB3.out.then hb).cell (p:=⟨b0,o0 + 1,none⟩) RL.out).trans R1.out
   have kw : IntKind.u64.wrap (k : Int) = (k : Int):=IntWalk.u64_in _ (by omega)
   have F2:=Lib.hid f2; have G0:=Lib.hid g0; have G1:=Lib.hid g1
   clear f2 g0 g1 hc2 c2
   have T:=Lib.hid (Below.refl Y.heap.size Y).drew
   refine wp_region_phase (by kernel_rfl) ?_
   refine wpAnyH_take (i:=0) (oi:=⟨_,_,_,_,_,_⟩) (v:=?vv0) rfl (by kernel_rfl) (by kernel_rfl) (by kernel_rfl) (fun _ _ _ h => h) (Or.inl ⟨by rfl,?yy0⟩) T.out ?_
   case yy0 => (intro w' hw'; go_simp; try with_reducible rfl)
   try simp only [Act.put,List.setIfInBounds_toArray,List.set_cons_zero,List.set_cons_succ]
   refine wpAnyH_take (i:=1) (oi:=⟨_,_,_,_,_,_⟩) (v:=?vv1) rfl (by kernel_rfl) (by kernel_rfl) (by kernel_rfl) (fun _ _ _ h => h) (Or.inl ⟨by rfl,?yy1⟩) T.out ?_
   case yy1 => (intro w' hw'; go_simp; try with_reducible rfl)
   try simp only [Act.put,List.setIfInBounds_toArray,List.set_cons_zero,List.set_cons_succ]
   refine wpAnyH_take (i:=2) (oi:=⟨_,_,_,_,_,_⟩) (v:=?vv2) rfl (by kernel_rfl) (by kernel_rfl) (by kernel_rfl) (fun _ _ _ h => h) (Or.inl ⟨by rfl,?yy2⟩) T.out ?_
   case yy2 => (intro w' hw'; have c2:=F2.out w' hw'; have g0:=G0.out w' hw'; have g1:=G1.out w' hw'; go_simp; try with_reducible rfl)
   try simp only [Act.put,List.setIfInBounds_toArray,List.set_cons_zero,List.set_cons_succ]
   refine wpAnyH_take (i:=3) (oi:=⟨_,_,_,_,_,_⟩) (v:=?vv3) rfl (by kernel_rfl) (by kernel_rfl) (by kernel_rfl) (fun _ _ _ h => h) (Or.inl ⟨by rfl,?yy3⟩) T.out ?_
   case yy3 => (intro w' hw'; go_simp; try with_reducible rfl)
   try simp only [Act.put,List.setIfInBounds_toArray,List.set_cons_zero,List.set_cons_succ]
   refine wpAnyH_take (i:=4) (oi:=⟨_,_,_,_,_,_⟩) (v:=?vv4) rfl (by kernel_rfl) (by kernel_rfl) (by kernel_rfl) (fun _ _ _ h => h) (Or.inl ⟨by rfl,?yy4⟩) T.out ?_
   case yy4 => (intro w' hw'; have c2:=F2.out w' hw'; have g0:=G0.out w' hw'; have g1:=G1.out w' hw'; go_simp; try with_reducible rfl)
   try simp only [Act.put,List.setIfInBounds_toArray,List.set_cons_zero,List.set_cons_succ]
   refine wpAnyH_take (i:=5) (oi:=⟨_,_,_,_,_,_⟩) (v:=?vv5) rfl (by kernel_rfl) (by kernel_rfl) (by kernel_rfl) (fun _ _ _ h => h) (Or.inl ⟨by rfl,?yy5⟩) T.out ?_
   case yy5 => (intro w' hw'; go_simp; try with_reducible rfl)
   try simp only [Act.put,List.setIfInBounds_toArray,List.set_cons_zero,List.set_cons_succ]
   refine wpAnyH_take (i:=6) (oi:=⟨_,_,_,_,_,_⟩) (v:=?vv6) rfl (by kernel_rfl) (by kernel_rfl) (by kernel_rfl) (fun _ _ _ h => h) (Or.inl ⟨by rfl,?yy6⟩) T.out ?_
   case yy6 => (intro w' hw'; have c2:=F2.out w' hw'; have g0:=G0.out w' hw'; have g1:=G1.out w' hw'; go_simp; try with_reducible rfl)
   try simp only [Act.put,List.setIfInBounds_toArray,List.set_cons_zero,List.set_cons_succ]
   refine wpAnyH_take (i:=7) (oi:=⟨_,_,_,_,_,_⟩) (v:=?vv7) rfl (by kernel_rfl) (by kernel_rfl) (by kernel_rfl) (fun _ _ _ h => h) (Or.inl ⟨by rfl,?yy7⟩) T.out ?_
   case yy7 => (intro w' hw'; go_simp; try with_reducible rfl)
   try simp only [Act.put,List.setIfInBounds_toArray,List.set_cons_zero,List.set_cons_succ]
   refine wpAnyH_take (i:=8) (oi:=⟨_,_,_,_,_,_⟩) (v:=?vv8) rfl (by kernel_rfl) (by kernel_rfl) (by kernel_rfl) (fun _ _ _ h => h) (Or.inl ⟨by rfl,?yy8⟩) T.out ?_
   case yy8 => (intro w' hw'; have c2:=F2.out w' hw'; have g0:=G0.out w' hw'; have g1:=G1.out w' hw'; go_simp; try with_reducible rfl)
   try simp only [Act.put,List.setIfInBounds_toArray,List.set_cons_zero,List.set_cons_succ]
   refine wpAnyH_take (i:=9) (oi:=⟨_,_,_,_,_,_⟩) (v:=?vv9) rfl (by kernel_rfl) (by kernel_rfl) (by kernel_rfl) (fun _ _ _ h => h) (Or.inl ⟨by rfl,?yy9⟩) T.out ?_
   case yy9 => (intro w' hw'; go_simp; try with_reducible rfl)
   try simp only [Act.put,List.setIfInBounds_toArray,List.set_cons_zero,List.set_cons_succ]
   refine wpAnyH_take (i:=10) (oi:=⟨_,_,_,_,_,_⟩) (v:=?vv10) rfl (by kernel_rfl) (by kernel_rfl) (by kernel_rfl) (fun _ _ _ h => h) (Or.inl ⟨by rfl,?yy10⟩) T.out ?_
   case yy10 => (intro w' hw'; go_simp; try with_reducible rfl)
   try simp only [Act.put,List.setIfInBounds_toArray,List.set_cons_zero,List.set_cons_succ]
   refine wpAnyH_ready (rs:=[11]) (by kernel_rfl) (by simp) ?_
   refine AllReadyH.cons (o:=⟨_,_,_,_,_,_⟩) rfl (fun K hK => ?_) AllReadyH.nil
   go_simp
   with_reducible refine (KP.out _ (HB3.out.then T.out)).mono ?_
   rintro e w3 ⟨rfl,hb⟩
   have T:=Lib.hid (T.out.then hb)
   clear hb
   refine hK.out _ _ T.out (fun hHeld => ?_)
   clear hK K hHeld
   try simp only [Act.put,List.setIfInBounds_toArray,List.set_cons_zero,List.set_cons_succ]
   refine wpAnyH_take (i:=12) (oi:=⟨_,_,_,_,_,_⟩) (v:=?vv12) rfl (by kernel_rfl) (by kernel_rfl) (by kernel_rfl) (fun _ _ _ h => h) (Or.inl ⟨by rfl,?yy12⟩) T.out ?_
   case yy12 => (intro w' hw'; go_simp; try with_reducible rfl)
   try simp only [Act.put,List.setIfInBounds_toArray,List.set_cons_zero,List.set_cons_succ]
   refine wpAnyH_take (i:=13) (oi:=⟨_,_,_,_,_,_⟩) (v:=?vv13) rfl (by kernel_rfl) (by kernel_rfl) (by kernel_rfl) (fun _ _ _ h => h) (Or.inl ⟨by rfl,?yy13⟩) T.out ?_
   case yy13 => (intro w' hw'; go_simp; try with_reducible rfl)
   try simp only [Act.put,List.setIfInBounds_toArray,List.set_cons_zero,List.set_cons_succ]
   refine wpAnyH_ready (rs:=[14]) (by kernel_rfl) (by simp) ?_
   refine AllReadyH.cons (o:=⟨_,_,_,_,_,_⟩) rfl (fun K hK => ?_) AllReadyH.nil
   go_simp
   with_reducible refine (anumber_ok _ _).mono ?_
   rintro e w4 ⟨rfl,rfl⟩
   refine hK.out _ _ T.out (fun hHeld => ?_)
   clear hK K hHeld
   try simp only [Act.put,List.setIfInBounds_toArray,List.set_cons_zero,List.set_cons_succ]
   refine wpAnyH_take (i:=15) (oi:=⟨_,_,_,_,_,_⟩) (v:=?vv15) rfl (by kernel_rfl) (by kernel_rfl) (by kernel_rfl) (fun _ _ _ h => h) (Or.inl ⟨by rfl,?yy15⟩) T.out ?_
   case yy15 => (intro w' hw'; go_simp; try with_reducible rfl)
   try simp only [Act.put,List.setIfInBounds_toArray,List.set_cons_zero,List.set_cons_succ]
   refine wpAnyH_take (i:=16) (oi:=⟨_,_,_,_,_,_⟩) (v:=?vv16) rfl (by kernel_rfl) (by kernel_rfl) (by kernel_rfl) (fun _ _ _ h => h) (Or.inl ⟨by rfl,?yy16⟩) T.out ?_
   case yy16 => (intro w' hw'; go_simp; try with_reducible rfl)
   try simp only [Act.put,List.setIfInBounds_toArray,List.set_cons_zero,List.set_cons_succ]
   refine wpAnyH_take (i:=17) (oi:=⟨_,_,_,_,_,_⟩) (v:=?vv17) rfl (by kernel_rfl) (by kernel_rfl) (by kernel_rfl) (fun _ _ _ h => h) (Or.inl ⟨by rfl,?yy17⟩) T.out ?_
   case yy17 => (intro w' hw'; go_simp; try with_reducible rfl)
   try simp only [Act.put,List.setIfInBounds_toArray,List.set_cons_zero,List.set_cons_succ]
   refine wpAnyH_take (i:=18) (oi:=⟨_,_,_,_,_,_⟩) (v:=?vv18) rfl (by kernel_rfl) (by kernel_rfl) (by kernel_rfl) (fun _ _ _ h => h) (Or.inl ⟨by rfl,?yy18⟩) T.out ?_
   case yy18 => (intro w' hw'; go_simp; try with_reducible rfl)
   try simp only [Act.put,List.setIfInBounds_toArray,List.set_cons_zero,List.set_cons_succ]
   refine wpAnyH_done (by kernel_rfl) ?_ _
   go_wp2_with fail
   go_ret2
   exact ⟨rfl,HA.out.keep (HB3.out.then T.out),HB1.out.then (HB3.out.then T.out)⟩
end Go.Proofs.YtejaocnhekjfiaaGreatDoor
