/- Walks and plain laws, part 16: Md2 Cv1 Cv2. -/
import Derived.Test.YtejaocnhekjfiaaGreatDoorK12
import Derived.Test.YtejaocnhekjfiaaGreatDoorK15
import Derived.Deep.DeepCutAuto
namespace Go.Proofs.YtejaocnhekjfiaaGreatDoor
open Go.RowKit
set_option linter.unusedVariables false
open S25 (I64 numLine LineOk Tabs PlainW)
theorem and_255 (x : Nat) : bits BinOp.and IntKind.u64 (x : Int) 255 = ((x % 256 : Nat) : Int):=by
 show IntKind.u64.wrap ((BitVec.ofInt 64 (x : Int) &&& BitVec.ofInt 64 255).toNat : Int) = _
 have e : (BitVec.ofInt 64 255).toNat = 2 ^ 8 - 1:=by decide
 rw [BitVec.toNat_and,e,Nat.and_two_pow_sub_one_eq_mod,BitVec.toNat_ofInt,IntKind.wrap_u64]
 omega
theorem vPoint_sp : vPoint ++ (⟨#[32]⟩ : ByteArray) = ⟨#[112,111,105,110,116,32]⟩:=by decide
theorem bNumber_is : bNumber = ⟨#[110,117,109,98,101,114,32]⟩:=rfl
set_option maxRecDepth 100000 in
set_option maxHeartbeats 2000000 in
theorem median_any (b r wd m0 : Int) (sd : Nat) (w : World) (hT : Tabs w) (hs : sd < 18446744073709551616) (p : Option Addr) (l : List OpI) (cap : Nat) (hl : OpsAt w p l) (a0 a1 a2 : Nat) (ha0 : a0 < 18446744073709551616) (ha1 : a1 < 18446744073709551616) (ha2 : a2 < 18446744073709551616) :
   Calls Tryz.prog 5 #[.agg #[.int .i64 b,.int .i64 r,.int .i64 wd,.int .i64 m0,.int .u64 sd],.slice p l.length cap,.agg #[.int .u64 a0,.int .u64 a1,.int .u64 a2]] w fun e w' => e = .returned (.bool true) ∧ Below w.heap.size w w':=by
 have KW:=Lib.hid (fun (w' : World) (hb : Below w.heap.size w w') => works_any w' (hT.below hb))
 have KP:=Lib.hid (fun (w' : World) (hb : Below w.heap.size w w') => played_any b r wd m0 sd 3 w' (hT.below hb) hs (by decide) (by decide) p l cap (hl.below hb))
 have HC:=Lib.hid (cutCfg_ok r wd (sd:=sd) (md:=3) hs (by decide) (by decide))
 have H6:=Lib.hid (show (cutCfg r wd sd 3).bits = 6 from rfl)
 have HM:=Lib.hid (show (cutCfg r wd sd 3).mode = 3 from rfl)
 have HT:=Lib.hid hT
 generalize hcc : cutCfg r wd sd 3 = c at *
 clear hcc hT hl hs
 have hb1:=((Below.refl w.heap.size w).alloc (Nat.le_refl _) (.cells #[.int .i64 b,.int .i64 r,.int .i64 wd,.int .i64 m0,.int .u64 sd] 24)).alloc (by simp) (.cells #[.int .u64 a0,.int .u64 a1,.int .u64 a2] 53)
 have hx00:=heap_alloc_new w (.cells #[.int .i64 b,.int .i64 r,.int .i64 wd,.int .i64 m0,.int .u64 sd] 24)
 have hx0:=(Below.heap_alloc (w.alloc (.cells #[.int .i64 b,.int .i64 r,.int .i64 wd,.int .i64 m0,.int .u64 sd] 24)) (.cells #[.int .u64 a0,.int .u64 a1,.int .u64 a2] 53) _ (lt_of_block hx00)).trans hx00
 clear hx00
 have hx1:=heap_alloc_new (w.alloc (.cells #[.int .i64 b,.int .i64 r,.int .i64 wd,.int .i64 m0,.int .u64 sd] 24)) (.cells #[.int .u64 a0,.int .u64 a1,.int .u64 a2] 53)
 rw [World.size_alloc] at hx1
 generalize hX : (w.alloc (.cells #[.int .i64 b,.int .i64 r,.int .i64 wd,.int .i64 m0,.int .u64 sd] 24)).alloc (.cells #[.int .u64 a0,.int .u64 a1,.int .u64 a2] 53) = X at *
 have HX:=Lib.hid hX
 have HB0:=Lib.hid hb1
 have A:=Lib.hid (show ∀ w',Below X.heap.size X w' → w'.cell? ⟨w.heap.size + 1,0,none⟩ = some (.int .u64 a0) ∧ w'.cell? ⟨w.heap.size + 1,1,none⟩ = some (.int .u64 a1) ∧ w'.cell? ⟨w.heap.size + 1,2,none⟩ = some (.int .u64 a2) from fun w' hb =>
   ⟨(hb.cell (p:=⟨w.heap.size + 1,0,none⟩) (lt_of_block hx1)).trans ((cell_of_row _ _ _ _ _ _ hx1).trans rfl),(hb.cell (p:=⟨w.heap.size + 1,1,none⟩) (lt_of_block hx1)).trans ((cell_of_row _ _ _ _ _ _ hx1).trans rfl),(hb.cell (p:=⟨w.heap.size + 1,2,none⟩) (lt_of_block hx1)).trans ((cell_of_row _ _ _ _ _ _ hx1).trans rfl)⟩)
 have X0:=Lib.hid hx0
 clear hx0 hx1 hb1
 go_enter Tryz.func5,Tryz.ntmps5
 go_wp2_with fail
 clear hX HX
 refine (KW.out _ HB0.out).mono ?_
 rintro e w1 ⟨rfl,hb⟩
 have HB1:=Lib.hid (HB0.out.then hb)
 have HXB:=Lib.hid hb
 have hx0:=(hb.block _ (lt_of_block X0.out)).trans X0.out
 clear hb
 have c0 : w1.cell? ⟨w.heap.size,0,none⟩ = some (.int .i64 b):=(cell_of_row _ _ _ _ _ _ hx0).trans rfl
 have c1 : w1.cell? ⟨w.heap.size,1,none⟩ = some (.int .i64 r):=(cell_of_row _ _ _ _ _ _ hx0).trans rfl
 have c2 : w1.cell? ⟨w.heap.size,2,none⟩ = some (.int .i64 wd):=(cell_of_row _ _ _ _ _ _ hx0).trans rfl
 have c3 : w1.cell? ⟨w.heap.size,3,none⟩ = some (.int .i64 m0):=(cell_of_row _ _ _ _ _ _ hx0).trans rfl
 have c4 : w1.cell? ⟨w.heap.size,4,none⟩ = some (.int .u64 sd):=(cell_of_row _ _ _ _ _ _ hx0).trans rfl
 clear hx0
 go_wp2_with fail
 refine (KP.out _ HB1.out).mono ?_
 rintro e wP ⟨x,B,a,m,S,rfl,hW,hS,hsz1,hsz2,hb⟩
 have HB2:=Lib.hid (HB1.out.then hb)
 have HXP:=Lib.hid (HXB.out.then hb)
 have HW:=Lib.hid hW
 have HS:=Lib.hid hS
 clear c0 c1 c2 c3 c4 hb hW hS hsz1 hsz2 KW KP HB0 HB1 HXB X0
 have d0:=(A.out _ HXP.out).1
 have d1:=(A.out _ HXP.out).2.1
 have d2:=(A.out _ HXP.out).2.2
 have hi0 : (a0 : Int) ≤ 18446744073709551615:=by omega
 have hand:=and_255 (a0 / 256)
 have hdv : ((a0 : Int) / 256) = ((a0 / 256 : Nat) : Int):=by omega
 have hm3 : ((a0 : Int) % 3) = ((a0 % 3 : Nat) : Int):=by omega
 have hm3t : ((a0 : Int).tmod 3) = ((a0 % 3 : Nat) : Int):=by rw [Int.tmod_eq_emod_of_nonneg (by omega)]; omega
 have hmf : ((a2 : Int) % 1073741824) = ((a2 % 1073741824 : Nat) : Int):=by omega
 have hmft : ((a2 : Int).tmod 1073741824) = ((a2 % 1073741824 : Nat) : Int):=by rw [Int.tmod_eq_emod_of_nonneg (by omega)]; omega
 have hh3 : a0 % 3 < 3:=Nat.mod_lt _ (by decide)
 have hfar : a2 % 1073741824 < 1073741824:=Nat.mod_lt _ (by decide)
 have hl8 : a0 / 256 % 256 < 256:=Nat.mod_lt _ (by decide)
 generalize a0 / 256 = a08 at *
 generalize a08 % 256 = lv0 at *
 have KF:=Lib.hid (fun w => prefix_any (lv0 : Int) a1 ha1 w)
 have hpf:=pf_ok (lv0 : Int) a1
 generalize pfL (lv0 : Int) = lv at *
 generalize pfI (lv0 : Int) a1 = ix at *
 generalize a0 % 3 = h at *
 generalize a2 % 1073741824 = far at *
 have w1' : (h : Int) < 3:=by omega
 have w2' : (lv0 : Int) < 256:=by omega
 have w3' : (far : Int) < 1073741824:=by omega
 have HPF:=Lib.hid hpf
 have HH3:=Lib.hid hh3
 have HFAR:=Lib.hid hfar
 clear hpf hh3 hfar hl8
 go_wp2_with fail
 refine (KF.out _).mono ?_
 rintro e w3 ⟨rfl,hb⟩
 have HB3:=Lib.hid (HB2.out.then hb)
 have HX3:=Lib.hid (HXP.out.then hb)
 have HW3:=Lib.hid (HW.out.keep hb)
 have hb5:=(Below.refl w3.heap.size w3).alloc (Nat.le_refl _) (.cells #[.int .i64 lv,.int .u64 ix] 46)
 have HB4:=Lib.hid (HB3.out.then hb5)
 have HX4:=Lib.hid (HX3.out.then hb5)
 have HW4:=Lib.hid (HW3.out.keep hb5)
 have hpx:=heap_alloc_new w3 (.cells #[.int .i64 lv,.int .u64 ix] 46)
 have d2:=(A.out _ HX4.out).2.2
 clear hb hb5 HW HW3 HB3 HX3 HXP HB2 KF hand hdv hm3 hm3t hi0 d0 d1
 go_upto_region 8 with fail
 generalize hY : w3.alloc (.cells #[.int .i64 lv,.int .u64 ix] 46) = Y at *
 have P:=Lib.hid (show ∀ w',Below Y.heap.size Y w' → w'.cell? ⟨w3.heap.size,0,none⟩ = some (.int .i64 lv) ∧ w'.cell? ⟨w3.heap.size,1,none⟩ = some (.int .u64 ix) from fun w' hb =>
   ⟨(hb.cell (p:=⟨w3.heap.size,0,none⟩) (lt_of_block hpx)).trans ((cell_of_row _ _ _ _ _ _ hpx).trans rfl),(hb.cell (p:=⟨w3.heap.size,1,none⟩) (lt_of_block hpx)).trans ((cell_of_row _ _ _ _ _ _ hpx).trans rfl)⟩)
 clear hY hpx d2 A hmf hmft w2'
 have hlv6:=HPF.out.1
 have hix6:=HPF.out.2
 have hp6 : 2 ^ (6 - lv) ≤ 2 ^ 6:=Nat.pow_le_pow_right (by decide) (by omega)
 have e6 : (2 : Nat) ^ 6 = 64:=by decide
 rw [e6] at hp6
 have hix64 : ix < 64:=by omega
 have hbnd:=bound25 (show (l.take 25).length ≤ 25 by rw [List.length_take]; omega)
 have hinv:=inv_play HC.out H6.out _ (l.take 25) rfl
 have hfit:=hinv.fit.mono (show 1048576 * (2 : Int) ^ (l.take 25).length ≤ 35184372088832 by omega)
 have hF:=hfit.rowG (by decide) h
 have hh3:=HH3.out
 obtain ⟨s,hs⟩ : ∃ s,S[h]? = some s:=⟨_,List.getElem?_eq_getElem (by rw [HW4.out.three]; exact hh3)⟩
 have hC:=(hinv.rel _ hh3).not2 (by rw [HM.out]; decide)
 rw [← HS.out,map_getD hs] at hC
 have hz : s.C[lv]? = some (cellsOf c lv (rowG (playG c (l.take 25)) h)):=by rw [hC]; exact stackOf_get c _ lv (by rw [H6.out]; exact hlv6)
 have hzf : FitL 2251799813685248 (cellsOf c lv (rowG (playG c (l.take 25)) h)):=by
   have:=relC_fit (hinv.rel _ hh3) hF (by decide) (cellsOf c lv (rowG (playG c (l.take 25)) h)) (by rw [← HS.out,map_getD hs]; exact List.mem_of_getElem? hz)
   rw [H6.out] at this
   exact this
 have hpt:=point_fit HC.out (lv:=lv) _ hzf (by decide) ix
 have KL:=fun (w' : World) (hb' : Below Y.heap.size Y w') => line_point (HW4.out.keep hb').agg (HT.out.below (HB4.out.then hb')) (show h < 20 by omega) hs lv ix _ hz (by rw [H6.out]; exact hix6) ⟨by omega,by omega⟩
 have KM:=Lib.hid (fun (w' : World) (hb' : Below Y.heap.size Y w') => mass_any (HW4.out.keep hb') h hh3 lv ix hlv6 hix64 35184372088832 hfit (by decide) (by decide))
 have KO:=Lib.hid (fun (w' : World) (hb' : Below Y.heap.size Y w') row (hrow : row < c.rows) => others_any (HW4.out.keep hb') HC.out H6.out h hh3 lv ix row hlv6 hix6 hrow 35184372088832 hfit (by decide) (by decide))
 have KE:=Lib.hid (fun w' => exact18 c HC.out lv (by rw [H6.out]; exact hlv6) w')
 have HPE:=Lib.hid (fun hx => point_exact H6.out hlv6 hx (rowG (playG c (l.take 25)) h) hix6)
 have HPN:=Lib.hid (fun hx => point_near HC.out H6.out HM.out hlv6 hx (rowG (playG c (l.take 25)) h) ix (far : Int))
 have HMF:=Lib.hid (massF_fit hF (by decide) lv ix)
 have HOF:=Lib.hid (fun row => othF_fit (c:=c) hF (by decide) lv ix row hp6)
 have HCF:=Lib.hid (fun (w' : World) (hb' : Below Y.heap.size Y w') => (HW4.out.keep hb').cells)
 have HPT:=Lib.hid hpt
 have HR8:=Lib.hid HC.out.r8
 clear hbnd hinv hfit hF hC hz hzf hs HS hp6 e6 HW4 hlv6 hix6
 unfold ReadPost at KL
 generalize 2 ^ (6 - lv) = nn at *
 generalize rowG (playG c (l.take 25)) h = F at *
 generalize levPoint c lv (cellsOf c lv F) ix = pt at *
 generalize massF F lv ix = ms at *
 have KN:=Lib.hid (fun w' => number_any ⟨#[110,117,109,98,101,114,32]⟩ (by decide) (by decide) pt ⟨by omega,by omega⟩ w')
 rw [bNumber_is] at KL
 have KT1:=Lib.hid (fun w => text_any ((h : Int) + 1) (i64_handle (by omega)) w)
 have KT2:=Lib.hid (fun w => text_any (lv : Int) (i64_nat (by have:=HPF.out.1; omega)) w)
 have KT3:=Lib.hid (fun w => text_any (ix : Int) (i64_nat (by omega)) w)
 have hL:=numLine3 vPoint ((h : Int) + 1) (lv : Int) (ix : Int)
 rw [vPoint_sp] at hL
 simp only [hL] at KL
 have z1:=numT_size ((h : Int) + 1) ⟨by omega,by omega⟩
 have z2:=numT_size (lv : Int) ⟨by omega,by have:=HPF.out.1; omega⟩
 have z3:=numT_size (ix : Int) ⟨by omega,by omega⟩
 generalize (⟨#[110,117,109,98,101,114,32]⟩ : ByteArray) ++ numT pt = xx at *
 generalize numT ((h : Int) + 1) = s1 at *
 generalize numT (lv : Int) = s2 at *
 generalize numT (ix : Int) = s3 at *
 have n1 : ¬ 9223372036854775807 < 6 + s1.size:=by omega
 have n2 : ¬ 9223372036854775807 < 6 + s1.size + 1:=by omega
 have n3 : ¬ 9223372036854775807 < 6 + s1.size + 1 + s2.size:=by omega
 have n4 : ¬ 9223372036854775807 < 6 + s1.size + 1 + s2.size + 1:=by omega
 have n5 : ¬ 9223372036854775807 < 6 + s1.size + 1 + s2.size + 1 + s3.size:=by omega
 have hwr : IntKind.i64.wrap ((h : Int) + 1) = (h : Int) + 1:=IntWalk.i64_in _ (by omega)
 have hwr2 : wrap64 ((h : Int) + 1) = (h : Int) + 1:=by unfold wrap64; omega
 have hwi : IntKind.i64.wrap (ix : Int) = (ix : Int):=IntWalk.i64_in _ (by omega)
 have KL:=Lib.hid KL
 clear hL z1 z2 z3 hh3 hpt
 have A0:=Lib.hid (show ∀ w',Below Y.heap.size Y w' → w'.cell? ⟨x,0,none⟩ = some (.pointer (some ⟨a,0,none⟩)) ∧ w'.cell? ⟨w3.heap.size,0,none⟩ = some (.int .i64 lv) ∧ w'.cell? ⟨w3.heap.size,1,none⟩ = some (.int .u64 ix) from fun w' hb => ⟨(HCF.out w' hb).1,P.out w' hb⟩)
 have T:=Lib.hid (Below.refl Y.heap.size Y).drew
 refine wp_region_held (S:=fun w' => w'.cell? ⟨x,0,none⟩ = some (.pointer (some ⟨a,0,none⟩)) ∧ w'.cell? ⟨w3.heap.size,0,none⟩ = some (.int .i64 lv) ∧ w'.cell? ⟨w3.heap.size,1,none⟩ = some (.int .u64 ix)) (by kernel_rfl) ?_
 refine wpAnyH_take (i:=0) (oi:=⟨_,_,_,_,_,_⟩) (v:=?vvb0) rfl (by kernel_rfl) (by kernel_rfl) (by kernel_rfl) (fun _ _ _ h => h) (Or.inl ⟨by rfl,?yyb0⟩) (A0.out _ T.out) ?_
 case yyb0 => (intro w' hw'; go_simp; try with_reducible rfl)
 try simp only [Act.put,List.setIfInBounds_toArray,List.set_cons_zero,List.set_cons_succ]
 refine wpAnyH_take (i:=1) (oi:=⟨_,_,_,_,_,_⟩) (v:=?vvb1) rfl (by kernel_rfl) (by kernel_rfl) (by kernel_rfl) (fun _ _ _ h => h) (Or.inl ⟨by rfl,?yyb1⟩) (A0.out _ T.out) ?_
 case yyb1 => (intro w' hw'; go_simp; try with_reducible rfl)
 try simp only [Act.put,List.setIfInBounds_toArray,List.set_cons_zero,List.set_cons_succ]
 refine wpAnyH_take (i:=2) (oi:=⟨_,_,_,_,_,_⟩) (v:=?vvb2) rfl (by kernel_rfl) (by kernel_rfl) (by kernel_rfl) (fun _ _ _ h => h) (Or.inl ⟨by rfl,?yyb2⟩) (A0.out _ T.out) ?_
 case yyb2 => (intro w' hw'; go_simp; try with_reducible rfl)
 try simp only [Act.put,List.setIfInBounds_toArray,List.set_cons_zero,List.set_cons_succ]
 refine wpAnyH_take (i:=3) (oi:=⟨_,_,_,_,_,_⟩) (v:=?vvb3) rfl (by kernel_rfl) (by kernel_rfl) (by kernel_rfl) (fun _ _ _ h => h) (Or.inl ⟨by rfl,?yyb3⟩) (A0.out _ T.out) ?_
 case yyb3 => (intro w' hw'; obtain ⟨c0,c1,c2⟩:=hw'; go_simp; try with_reducible rfl)
 try simp only [Act.put,List.setIfInBounds_toArray,List.set_cons_zero,List.set_cons_succ]
 refine wpAnyH_take (i:=4) (oi:=⟨_,_,_,_,_,_⟩) (v:=?vvb4) rfl (by kernel_rfl) (by kernel_rfl) (by kernel_rfl) (fun _ _ _ h => h) (Or.inl ⟨by rfl,?yyb4⟩) (A0.out _ T.out) ?_
 case yyb4 => (intro w' hw'; go_simp; try with_reducible rfl)
 try simp only [Act.put,List.setIfInBounds_toArray,List.set_cons_zero,List.set_cons_succ]
 refine wpAnyH_take (i:=5) (oi:=⟨_,_,_,_,_,_⟩) (v:=?vvb5) rfl (by kernel_rfl) (by kernel_rfl) (by kernel_rfl) (fun _ _ _ h => h) (Or.inl ⟨by rfl,?yyb5⟩) (A0.out _ T.out) ?_
 case yyb5 => (intro w' hw'; go_simp; try with_reducible rfl)
 try simp only [Act.put,List.setIfInBounds_toArray,List.set_cons_zero,List.set_cons_succ]
 refine wpAnyH_take (i:=9) (oi:=⟨_,_,_,_,_,_⟩) (v:=?vvb9) rfl (by kernel_rfl) (by kernel_rfl) (by kernel_rfl) (fun _ _ _ h => h) (Or.inl ⟨by rfl,?yyb9⟩) (A0.out _ T.out) ?_
 case yyb9 => (intro w' hw'; go_simp; try with_reducible rfl)
 try simp only [Act.put,List.setIfInBounds_toArray,List.set_cons_zero,List.set_cons_succ]
 refine wpAnyH_take (i:=10) (oi:=⟨_,_,_,_,_,_⟩) (v:=?vvb10) rfl (by kernel_rfl) (by kernel_rfl) (by kernel_rfl) (fun _ _ _ h => h) (Or.inl ⟨by rfl,?yyb10⟩) (A0.out _ T.out) ?_
 case yyb10 => (intro w' hw'; obtain ⟨c0,c1,c2⟩:=hw'; go_simp; try with_reducible rfl)
 try simp only [Act.put,List.setIfInBounds_toArray,List.set_cons_zero,List.set_cons_succ]
 refine wpAnyH_take (i:=14) (oi:=⟨_,_,_,_,_,_⟩) (v:=?vvb14) rfl (by kernel_rfl) (by kernel_rfl) (by kernel_rfl) (fun _ _ _ h => h) (Or.inl ⟨by rfl,?yyb14⟩) (A0.out _ T.out) ?_
 case yyb14 => (intro w' hw'; go_simp; try with_reducible rfl)
 try simp only [Act.put,List.setIfInBounds_toArray,List.set_cons_zero,List.set_cons_succ]
 refine wpAnyH_take (i:=15) (oi:=⟨_,_,_,_,_,_⟩) (v:=?vvb15) rfl (by kernel_rfl) (by kernel_rfl) (by kernel_rfl) (fun _ _ _ h => h) (Or.inl ⟨by rfl,?yyb15⟩) (A0.out _ T.out) ?_
 case yyb15 => (intro w' hw'; obtain ⟨c0,c1,c2⟩:=hw'; go_simp; try with_reducible rfl)
 try simp only [Act.put,List.setIfInBounds_toArray,List.set_cons_zero,List.set_cons_succ]
 refine wpAnyH_take (i:=16) (oi:=⟨_,_,_,_,_,_⟩) (v:=?vvb16) rfl (by kernel_rfl) (by kernel_rfl) (by kernel_rfl) (fun _ _ _ h => h) (Or.inl ⟨by rfl,?yyb16⟩) (A0.out _ T.out) ?_
 case yyb16 => (intro w' hw'; go_simp; try with_reducible rfl)
 try simp only [Act.put,List.setIfInBounds_toArray,List.set_cons_zero,List.set_cons_succ]
 refine wpAnyH_ready (rs:=[6]) (by kernel_rfl) (by simp) ?_
 refine AllReadyH.cons (o:=⟨_,_,_,_,_,_⟩) rfl (fun K hK => ?_) AllReadyH.nil
 go_simp
 with_reducible refine (KT1.out _).mono ?_
 rintro e w4 ⟨rfl,hb⟩
 have T:=Lib.hid (T.out.then hb)
 clear hb
 refine hK.out _ _ (A0.out _ T.out) (fun hHeld => ?_)
 clear hK K hHeld
 try simp only [Act.put,List.setIfInBounds_toArray,List.set_cons_zero,List.set_cons_succ]
 refine wpAnyH_take (i:=7) (oi:=⟨_,_,_,_,_,_⟩) (v:=?vvb7) rfl (by kernel_rfl) (by kernel_rfl) (by kernel_rfl) (fun _ _ _ h => h) (Or.inl ⟨by rfl,?yyb7⟩) (A0.out _ T.out) ?_
 case yyb7 => (intro w' hw'; go_simp; try with_reducible rfl)
 try simp only [Act.put,List.setIfInBounds_toArray,List.set_cons_zero,List.set_cons_succ]
 refine wpAnyH_take (i:=8) (oi:=⟨_,_,_,_,_,_⟩) (v:=?vvb8) rfl (by kernel_rfl) (by kernel_rfl) (by kernel_rfl) (fun _ _ _ h => h) (Or.inl ⟨by rfl,?yyb8⟩) (A0.out _ T.out) ?_
 case yyb8 => (intro w' hw'; go_simp; try with_reducible rfl)
 try simp only [Act.put,List.setIfInBounds_toArray,List.set_cons_zero,List.set_cons_succ]
 refine wpAnyH_ready (rs:=[11]) (by kernel_rfl) (by simp) ?_
 refine AllReadyH.cons (o:=⟨_,_,_,_,_,_⟩) rfl (fun K hK => ?_) AllReadyH.nil
 go_simp
 with_reducible refine (KT2.out _).mono ?_
 rintro e w4 ⟨rfl,hb⟩
 have T:=Lib.hid (T.out.then hb)
 clear hb
 refine hK.out _ _ (A0.out _ T.out) (fun hHeld => ?_)
 clear hK K hHeld
 try simp only [Act.put,List.setIfInBounds_toArray,List.set_cons_zero,List.set_cons_succ]
 refine wpAnyH_take (i:=12) (oi:=⟨_,_,_,_,_,_⟩) (v:=?vvb12) rfl (by kernel_rfl) (by kernel_rfl) (by kernel_rfl) (fun _ _ _ h => h) (Or.inl ⟨by rfl,?yyb12⟩) (A0.out _ T.out) ?_
 case yyb12 => (intro w' hw'; go_simp; try with_reducible rfl)
 try simp only [Act.put,List.setIfInBounds_toArray,List.set_cons_zero,List.set_cons_succ]
 refine wpAnyH_take (i:=13) (oi:=⟨_,_,_,_,_,_⟩) (v:=?vvb13) rfl (by kernel_rfl) (by kernel_rfl) (by kernel_rfl) (fun _ _ _ h => h) (Or.inl ⟨by rfl,?yyb13⟩) (A0.out _ T.out) ?_
 case yyb13 => (intro w' hw'; go_simp; try with_reducible rfl)
 try simp only [Act.put,List.setIfInBounds_toArray,List.set_cons_zero,List.set_cons_succ]
 refine wpAnyH_ready (rs:=[17]) (by kernel_rfl) (by simp) ?_
 refine AllReadyH.cons (o:=⟨_,_,_,_,_,_⟩) rfl (fun K hK => ?_) AllReadyH.nil
 go_simp
 with_reducible refine (KT3.out _).mono ?_
 rintro e w4 ⟨rfl,hb⟩
 have T:=Lib.hid (T.out.then hb)
 clear hb
 refine hK.out _ _ (A0.out _ T.out) (fun hHeld => ?_)
 clear hK K hHeld
 try simp only [Act.put,List.setIfInBounds_toArray,List.set_cons_zero,List.set_cons_succ]
 refine wpAnyH_take (i:=18) (oi:=⟨_,_,_,_,_,_⟩) (v:=?vvb18) rfl (by kernel_rfl) (by kernel_rfl) (by kernel_rfl) (fun _ _ _ h => h) (Or.inl ⟨by rfl,?yyb18⟩) (A0.out _ T.out) ?_
 case yyb18 => (intro w' hw'; go_simp; try with_reducible rfl)
 try simp only [Act.put,List.setIfInBounds_toArray,List.set_cons_zero,List.set_cons_succ]
 refine wpAnyH_ready (rs:=[19]) (by kernel_rfl) (by simp) ?_
 refine AllReadyH.cons (o:=⟨_,_,_,_,_,_⟩) rfl (fun K hK => ?_) AllReadyH.nil
 go_simp
 with_reducible refine (KL.out _ T.out).mono ?_
 rintro e w5 ⟨rfl,hA5,hb5⟩
 have T:=Lib.hid (T.out.then hb5)
 clear hA5 hb5
 refine hK.out _ _ (A0.out _ T.out) (fun hHeld => ?_)
 clear hK K hHeld
 try simp only [Act.put,List.setIfInBounds_toArray,List.set_cons_zero,List.set_cons_succ]
 refine wpAnyH_take (i:=20) (oi:=⟨_,_,_,_,_,_⟩) (v:=?vvb20) rfl (by kernel_rfl) (by kernel_rfl) (by kernel_rfl) (fun _ _ _ h => h) (Or.inl ⟨by rfl,?yyb20⟩) (A0.out _ T.out) ?_
 case yyb20 => (intro w' hw'; go_simp; try with_reducible rfl)
 try simp only [Act.put,List.setIfInBounds_toArray,List.set_cons_zero,List.set_cons_succ]
 refine wpAnyH_take (i:=21) (oi:=⟨_,_,_,_,_,_⟩) (v:=?vvb21) rfl (by kernel_rfl) (by kernel_rfl) (by kernel_rfl) (fun _ _ _ h => h) (Or.inl ⟨by rfl,?yyb21⟩) (A0.out _ T.out) ?_
 case yyb21 => (intro w' hw'; go_simp; try with_reducible rfl)
 try simp only [Act.put,List.setIfInBounds_toArray,List.set_cons_zero,List.set_cons_succ]
 refine wpAnyH_take (i:=22) (oi:=⟨_,_,_,_,_,_⟩) (v:=?vvb22) rfl (by kernel_rfl) (by kernel_rfl) (by kernel_rfl) (fun _ _ _ h => h) (Or.inl ⟨by rfl,?yyb22⟩) (A0.out _ T.out) ?_
 case yyb22 => (intro w' hw'; go_simp; try with_reducible rfl)
 try simp only [Act.put,List.setIfInBounds_toArray,List.set_cons_zero,List.set_cons_succ]
 refine wpAnyH_take (i:=23) (oi:=⟨_,_,_,_,_,_⟩) (v:=?vvb23) rfl (by kernel_rfl) (by kernel_rfl) (by kernel_rfl) (fun _ _ _ h => h) (Or.inl ⟨by rfl,?yyb23⟩) (A0.out _ T.out) ?_
 case yyb23 => (intro w' hw'; go_simp; try with_reducible rfl)
 try simp only [Act.put,List.setIfInBounds_toArray,List.set_cons_zero,List.set_cons_succ]
 refine wpAnyH_take (i:=24) (oi:=⟨_,_,_,_,_,_⟩) (v:=?vvb24) rfl (by kernel_rfl) (by kernel_rfl) (by kernel_rfl) (fun _ _ _ h => h) (Or.inl ⟨by rfl,?yyb24⟩) (A0.out _ T.out) ?_
 case yyb24 => (intro w' hw'; go_simp; try with_reducible rfl)
 try simp only [Act.put,List.setIfInBounds_toArray,List.set_cons_zero,List.set_cons_succ]
 refine wpAnyH_done (by kernel_rfl) ?_ _
 clear A0 KL KT1 KT2 KT3 n1 n2 n3 n4 n5 hwr hwr2 hwi
 have T5:=Lib.hid T.out
 obtain ⟨W5,hW5⟩ : ∃ z : World,z = w5:=⟨_,rfl⟩
 subst hW5
 go_wp2_with fail
 refine (KN.out _).mono ?_
 rintro e W5 ⟨rfl,rfl⟩
 go_upto_region 10 with fail
 have P10:=Lib.hid (fun w' (hb : Below W5.heap.size W5 w') => P.out w' (T5.out.then hb))
 have C10:=Lib.hid (fun w' (hb : Below W5.heap.size W5 w') => (HCF.out w' (T5.out.then hb)).2)
 have T:=Lib.hid (Below.refl W5.heap.size W5).drew
 unfold cfgV at KE
 refine wp_region_phase (by kernel_rfl) ?_
 refine wpAnyH_take (i:=0) (oi:=⟨_,_,_,_,_,_⟩) (v:=?vvd0) rfl (by kernel_rfl) (by kernel_rfl) (by kernel_rfl) (fun _ _ _ h => h) (Or.inl ⟨by rfl,?yyd0⟩) T.out ?_
 case yyd0 => (intro w' hw'; go_simp; try with_reducible rfl)
 try simp only [Act.put,List.setIfInBounds_toArray,List.set_cons_zero,List.set_cons_succ]
 refine wpAnyH_take (i:=1) (oi:=⟨_,_,_,_,_,_⟩) (v:=?vvd1) rfl (by kernel_rfl) (by kernel_rfl) (by kernel_rfl) (fun _ _ _ h => h) (Or.inl ⟨by rfl,?yyd1⟩) T.out ?_
 case yyd1 => (intro w' hw'; go_simp; try with_reducible rfl)
 try simp only [Act.put,List.setIfInBounds_toArray,List.set_cons_zero,List.set_cons_succ]
 refine wpAnyH_take (i:=2) (oi:=⟨_,_,_,_,_,_⟩) (v:=?vvd2) rfl (by kernel_rfl) (by kernel_rfl) (by kernel_rfl) (fun _ _ _ h => h) (Or.inl ⟨by rfl,?yyd2⟩) T.out ?_
 case yyd2 => (intro w' hw'; go_simp; try with_reducible rfl)
 try simp only [Act.put,List.setIfInBounds_toArray,List.set_cons_zero,List.set_cons_succ]
 refine wpAnyH_take (i:=3) (oi:=⟨_,_,_,_,_,_⟩) (v:=?vvd3) rfl (by kernel_rfl) (by kernel_rfl) (by kernel_rfl) (fun _ _ _ h => h) (Or.inl ⟨by rfl,?yyd3⟩) T.out ?_
 case yyd3 => (intro w' hw'; have c1:=(C10.out w' hw').1; have c2:=(C10.out w' hw').2.1; have c3:=(C10.out w' hw').2.2.1; have c4:=(C10.out w' hw').2.2.2.1; have c5:=(C10.out w' hw').2.2.2.2; go_simp; try with_reducible rfl)
 try simp only [Act.put,List.setIfInBounds_toArray,List.set_cons_zero,List.set_cons_succ]
 refine wpAnyH_take (i:=4) (oi:=⟨_,_,_,_,_,_⟩) (v:=?vvd4) rfl (by kernel_rfl) (by kernel_rfl) (by kernel_rfl) (fun _ _ _ h => h) (Or.inl ⟨by rfl,?yyd4⟩) T.out ?_
 case yyd4 => (intro w' hw'; go_simp; try with_reducible rfl)
 try simp only [Act.put,List.setIfInBounds_toArray,List.set_cons_zero,List.set_cons_succ]
 refine wpAnyH_take (i:=5) (oi:=⟨_,_,_,_,_,_⟩) (v:=?vvd5) rfl (by kernel_rfl) (by kernel_rfl) (by kernel_rfl) (fun _ _ _ h => h) (Or.inl ⟨by rfl,?yyd5⟩) T.out ?_
 case yyd5 => (intro w' hw'; have p0:=(P10.out w' hw').1; go_simp; try with_reducible rfl)
 try simp only [Act.put,List.setIfInBounds_toArray,List.set_cons_zero,List.set_cons_succ]
 refine wpAnyH_ready (rs:=[6]) (by kernel_rfl) (by simp) ?_
 refine AllReadyH.cons (o:=⟨_,_,_,_,_,_⟩) rfl (fun K hK => ?_) AllReadyH.nil
 go_simp
 with_reducible refine (KE.out _).mono ?_
 rintro e w7 ⟨rfl,hb⟩
 have T:=Lib.hid (T.out.then hb)
 clear hb
 refine hK.out _ _ T.out (fun hHeld => ?_)
 clear hK K hHeld
 try simp only [Act.put,List.setIfInBounds_toArray,List.set_cons_zero,List.set_cons_succ]
 refine wpAnyH_done (by kernel_rfl) ?_ _
 have T7:=Lib.hid (T5.out.then T.out)
 obtain ⟨W7,hW7⟩ : ∃ z : World,z = w7:=⟨_,rfl⟩
 subst hW7
 clear P10 C10 KE
 have p0:=(P.out _ T7.out).1
 have p1:=(P.out _ T7.out).2
 cases hx : c.exact lv with
 | true =>
   have hpe:=HPE.out hx
   subst hpe
   clear HPN HOF KO
   go_wp2_with fail
   refine (KM.out _ T7.out).mono ?_
   rintro e w8 ⟨rfl,hb8⟩
   have HB8:=Lib.hid (HB4.out.then (T7.out.then hb8))
   clear hb8
   go_wp2_with fail
   go_ret
   exact ⟨rfl,HB8.out⟩
 | false =>
   have hpn:=HPN.out hx
   have HPNX:=Lib.hid hpn
   clear hpn HPE HPN
   obtain ⟨f,hf⟩ : ∃ f : Nat → Int,f = fun r => othF c F lv ix r nn:=⟨_,rfl⟩
   have hpn2 : c.rows < 2 * nearK f far c.rows → ms - far ≤ pt ∧ pt ≤ ms + far:=by rw [hf]; exact HPNX.out
   have HPN2:=Lib.hid hpn2
   have HFV:=Lib.hid (fun r => show othF c F lv ix r nn = f r by rw [hf])
   clear hf hpn2 HPNX
   have KO2:=Lib.hid (fun (w' : World) (hb' : Below Y.heap.size Y w') row (hrow : row < c.rows) => (show Calls Tryz.prog 19 #[.pointer (some ⟨x,0,none⟩),.int .i64 h,.agg #[.int .i64 lv,.int .u64 ix],.int .i64 row] w' fun e w2 => e = .returned (.int .i64 (f row)) ∧ Below w'.heap.size w' w2 from by
     have:=KO.out w' hb' row hrow
     rw [HFV.out] at this
     exact this))
   have HOF2:=Lib.hid (fun row => show -(4096 * 35184372088832) ≤ f row ∧ f row ≤ 4096 * 35184372088832 by rw [← HFV.out]; exact HOF.out row)
   clear KO HOF HFV p0 p1
   have hr8:=HR8.out
   go_wp2_with fail
   go_loopw [16,17,18] (fun near row _ wr => ∃ k : Nat,k ≤ c.rows ∧ near = .int .i64 (nearK f far k : Nat) ∧ row = .int .i64 k ∧ Hid (Below W7.heap.size W7 wr)) (fun _ row _ _ => c.rows - (intOf row).toNat)
   case atStart => exact ⟨0,Nat.zero_le _,rfl,rfl,Lib.hid (Below.refl _ _)⟩
   case round =>
     obtain ⟨k,hk,rfl,rfl,hbw⟩:=hrel
     have TR:=Lib.hid (T7.out.then hbw.out)
     have q2:=(HCF.out _ TR.out).2.2.1
     have p0:=(P.out _ TR.out).1
     have p1:=(P.out _ TR.out).2
     by_cases hlt : k < c.rows
     · have hltI : (k : Int) < (c.rows : Int):=by omega
       have HLT:=Lib.hid hlt
       go_wp2_with fail
       refine (KO2.out _ TR.out k hlt).mono ?_
       rintro e w8 ⟨rfl,hb8⟩
       have TW8:=Lib.hid (hbw.out.then hb8)
       have hof:=HOF2.out k
       have hnk:=nearK_le f far k
       have hn : nearK f far (k + 1) = nearK f far k + if -(far : Int) ≤ f k ∧ f k ≤ far then 1 else 0:=rfl
       clear hb8 q2 p0 p1
       generalize nearK f far k = nk at *
       have hnkI : (nk : Int) ≤ 8:=by omega
       by_cases h1 : -(far : Int) ≤ f k
       · by_cases h2 : f k ≤ far
         · rw [if_pos ⟨h1,h2⟩] at hn
           have HN:=Lib.hid hn
           generalize f k = ov at *
           clear hn
           go_wp2_with fail
           go_roundw
           case rel => exact ⟨k + 1,HLT.out,by rw [HN.out]; simp,by go_num,TW8⟩
           case measure => simp [intOf]; omega
         · rw [if_neg (fun h => h2 h.2)] at hn
           have HN:=Lib.hid hn
           generalize f k = ov at *
           have h2b : decide (ov ≤ (far : Int)) = false:=decide_eq_false h2
           clear hn h2 hof
           go_wp2_with fail
           go_roundw
           case rel => exact ⟨k + 1,HLT.out,by rw [HN.out]; simp,by go_num,TW8⟩
           case measure => simp [intOf]; omega
       · rw [if_neg (fun h => h1 h.1)] at hn
         have HN:=Lib.hid hn
         generalize f k = ov at *
         have h1b : decide (-(far : Int) ≤ ov) = false:=decide_eq_false h1
         clear hn h1 hof
         go_wp2_with fail
         go_roundw
         case rel => exact ⟨k + 1,HLT.out,by rw [HN.out]; simp,by go_num,TW8⟩
         case measure => simp [intOf]; omega
     · have hkr : k = c.rows:=by omega
       subst hkr
       have hltI : ¬ ((c.rows : Int) < (c.rows : Int)):=by omega
       have hpn:=HPN2.out
       have hnk:=nearK_le f far c.rows
       generalize nearK f far c.rows = nk at *
       have hnkI : (nk : Int) ≤ 8:=by omega
       have hmf:=HMF.out
       clear hlt hk
       by_cases hm : 2 * nk ≤ c.rows
       · have hmI : 2 * (nk : Int) ≤ (c.rows : Int):=by omega
         clear hpn
         go_wp2_with fail
         go_ret
         exact ⟨rfl,HB4.out.then TR.out⟩
       · have hmI : ¬ (2 * (nk : Int) ≤ (c.rows : Int)):=by omega
         obtain ⟨g1,g2⟩:=hpn (by omega)
         go_wp2_with fail
         refine (KM.out _ TR.out).mono ?_
         rintro e w8 ⟨rfl,hb8⟩
         have T8:=Lib.hid (TR.out.then hb8)
         have p0:=(P.out _ T8.out).1
         have p1:=(P.out _ T8.out).2
         clear hb8 q2
         go_wp2_with fail
         refine (KM.out _ T8.out).mono ?_
         rintro e w9 ⟨rfl,hb9⟩
         have T9:=Lib.hid (T8.out.then hb9)
         clear hb9 p0 p1
         go_wp2_with fail
         go_ret
         exact ⟨rfl,HB4.out.then T9.out⟩
end Go.Proofs.YtejaocnhekjfiaaGreatDoor
namespace Go.Proofs.YtejaocnhekjfiaaGreatDoor
open Go.RowKit
set_option linter.unusedVariables false
open S25 (Tabs)
theorem cons_point {c : Cfg} (hc : c.ok) (h6 : c.bits = 6) (hm : c.mode = 2) {F : List Int} {C : List (List Int)} (h : ConsOk c F C) {lv : Nat} (hlv : lv ≤ 6) {zs : List Int} (hz : C[lv]? = some zs) {ix : Nat} (hix : ix < 2 ^ (6 - lv)) :
   massF F lv ix ≤ levPoint c lv zs ix ∧ levPoint c lv zs ix ≤ levPoint { c with mode:=1 } lv (cellsOf { c with mode:=1 } lv F) ix:=by
 have hlen:=h.lens lv zs hz
 have hlo:=h.lo lv zs hz
 have hhi:=h.hi lv zs hz
 rw [massF_eq c h6]
 cases hx : c.exact lv with
 | true =>
   obtain ⟨e1,e2⟩:=RW_ex hx
   rw [e1,e2,h6,Nat.one_mul] at hlo hhi
   have hx1 : ({ c with mode:=1 } : Cfg).exact lv = true:=hx
   have p1 : levPoint c lv zs ix = zs.getD ix 0:=by unfold levPoint; rw [if_pos hx]
   have p2 : levPoint { c with mode:=1 } lv (cellsOf { c with mode:=1 } lv F) ix = cellOf c lv F ix:=by
     unfold levPoint
     rw [if_pos hx1]
     exact cellsOf_getD c lv F ix (by rw [e1,e2,h6,Nat.one_mul]; exact hix)
   rw [p1,p2]
   exact ⟨hlo ix ix hix hix (by unfold hitP; rw [if_pos hx]; simp),hhi ix hix⟩
 | false =>
   obtain ⟨e1,e2⟩:=RW_sk hx
   rw [e1,e2] at hlo hhi
   have hx1 : ({ c with mode:=1 } : Cfg).exact lv = false:=hx
   have hM:=colsN_meet c hc lv ix
   have p1 : levPoint c lv zs ix = minV (skRead c lv zs ix):=by
     unfold levPoint skPoint; rw [hx,if_neg Bool.false_ne_true,if_neg (by omega)]
   have p2 : levPoint { c with mode:=1 } lv (cellsOf { c with mode:=1 } lv F) ix = minV (skRead c lv (cellsOf c lv F) ix):=by
     unfold levPoint skPoint
     rw [hx1,if_neg Bool.false_ne_true]
     show (if (1 : Nat) = 3 then _ else _) = _
     rw [if_neg (by decide)]; rfl
   have hl1 : ∀ zs,(skRead c lv zs ix).length = c.rows:=fun zs => by unfold skRead; rw [readC_len,hM.len]
   have hne : skRead c lv zs ix ≠ []:=fun e => by
     have h1:=hl1 zs
     rw [e] at h1
     have:=hc.r1
     simp at h1
     omega
   have hrd : ∀ zs r,r < c.rows → (skRead c lv zs ix).getD r 0 = zs.getD (r * c.width + c.col lv r ix) 0:=fun zs r hr => by
     unfold skRead
     rw [readC_getD (by rw [hM.len]; exact hr),colsN_getD c lv ix r hr]
   rw [p1,p2]
   refine ⟨?_,minV_mono (by rw [hl1,hl1]) hne fun r hr => ?_⟩
   · obtain ⟨r,hr,e⟩:=List.mem_iff_getElem.1 (minV_mem hne)
     have hr2 : r < c.rows:=by rw [← hl1 zs]; exact hr
     obtain ⟨q1,q2,q3⟩:=sk_place (n:=lv) (i:=ix) hc hr2
     have h1:=hlo ix (r * c.width + c.col lv r ix) (by rw [h6]; exact hix) q3 (by unfold hitP; rw [hx,if_neg Bool.false_ne_true,q1,q2]; simp)
     have h2:=hrd zs r hr2
     rw [List.getD_eq_getElem?_getD,List.getElem?_eq_getElem hr,e] at h2
     rw [← h2] at h1
     exact h1
   · have hr2 : r < c.rows:=by rw [← hl1 zs]; exact hr
     obtain ⟨q1,q2,q3⟩:=sk_place (n:=lv) (i:=ix) hc hr2
     rw [hrd zs r hr2,hrd _ r hr2,cellsOf_getD c lv F _ (by rw [e1,e2]; exact q3)]
     exact hhi _ q3
def linOp (c : Cfg) (o : OpI) : OpI:=if o.kind = 3 then o else { o with d:=smallD c o.d }
theorem lin_step {c : Cfg} (hm : c.mode = 2) (o : OpI) (h4 : o.kind ≠ 4) (G : List Int) : stepG { c with mode:=1 } (linOp c o) G = stepG c o G:=by
 unfold linOp
 by_cases h3 : o.kind = 3
 · rw [if_pos h3]
   unfold stepG
   rw [if_pos h3,if_pos h3]
 · rw [if_neg h3]
   unfold stepG
   rw [if_neg h3,if_neg h4,if_neg h3,if_neg h4]
   have h0:=smallD_nn c o.d hm
   have h1:=smallD_le c o.d
   have e : smallD { c with mode:=1 } (smallD c o.d) = smallD c o.d:=by
     show (if (1 : Nat) = 2 then _ else _) = _
     rw [if_neg (by decide),Int.tmod_eq_emod_of_nonneg h0]
     omega
   show bump G (64 * hd o.h + o.key % 64) (smallD { c with mode:=1 } (smallD c o.d)) = _
   rw [e]
theorem lin_skip {c : Cfg} (hm : c.mode = 2) (o : OpI) (h4 : o.kind = 4) (G : List Int) : stepG c o G = G:=by
 unfold stepG
 rw [if_neg (by omega),if_pos h4,if_pos hm]
def Vw (w : World) (base x a m : Nat) (c : Cfg) (G : List Int) (b : Int) : Prop:=∃ S,WIs w base x a m c S G ∧ Inv c b G (S.map (·.C))
theorem Vw.keep {w w' : World} {base x a m : Nat} {c : Cfg} {G : List Int} {b : Int} (h : Vw w base x a m c G b) (hb : Below w.heap.size w w') : Vw w' base x a m c G b:=by
 obtain ⟨S,hW,hI⟩:=h
 exact ⟨S,hW.keep hb,hI⟩
theorem Vw.wide {w : World} {base x a m : Nat} {c : Cfg} {G : List Int} {b : Int} (h : Vw w base x a m c G b) : Vw w base x a m c G (2 * b):=by
 obtain ⟨S,hW,hI⟩:=h
 have:=hI.nn
 exact ⟨S,hW,⟨hI.len,hI.fit.mono (by omega),by omega,hI.lenC,hI.rel⟩⟩
theorem Vw.does {w : World} {base x a m : Nat} {c : Cfg} {G : List Int} {b : Int} (h : Vw w base x a m c G b) (hc : c.ok) (hT : Tabs w) (hb10 : 10 ≤ base) (hbw : base ≤ w.heap.size) (h6 : c.bits = 6) (hb : 1048576 ≤ b) (hbD : b ≤ 36028797018963967) (o : OpI) :
   Calls Tryz.prog 14 #[.pointer (some ⟨x,0,none⟩),opV o] w fun e w' => e = .returned (.bool true) ∧ Vw w' base x a m c (stepG c o G) (2 * b) ∧ Below base w w':=by
 obtain ⟨S,hW,hI⟩:=h
 refine (does_any hW hT hb10 hbw h6 hI hb hbD o).mono ?_
 rintro e w' ⟨rfl,⟨S',hW',hS'⟩,hb'⟩
 have:=inv_step hc h6 hb hI o
 rw [← hS'] at this
 exact ⟨rfl,⟨S',hW',this⟩,hb'⟩
theorem vw_made {w : World} {base x a m : Nat} {c : Cfg} {S : List SI} (h : WIs w base x a m c S (List.replicate 192 0)) (hz : ∀ s ∈ S,s.C = zeroC c) : Vw w base x a m c (List.replicate 192 0) 1048576:=by
 refine ⟨S,h,?_⟩
 have e : S.map (·.C) = List.replicate 3 (zeroC c):=by
   rw [List.eq_replicate_iff]
   exact ⟨by rw [List.length_map,h.three],fun C hC => by obtain ⟨s,hs,rfl⟩:=List.mem_map.1 hC; exact hz s hs⟩
 rw [e]
 exact inv_zero c
theorem pow_b (n : Nat) : (1048576 : Int) * 2 ^ (n + 1) = 2 * (1048576 * 2 ^ n):=by rw [Int.pow_succ]; omega
theorem sub_line : S25.numLine vSubtract [1,2] = ⟨#[115,117,98,116,114,97,99,116,32,49,32,50]⟩:=by kernel_rfl
theorem neg_line : S25.numLine vAdd [1,0,-1] = ⟨#[97,100,100,32,49,32,48,32,45,49]⟩:=by kernel_rfl
end Go.Proofs.YtejaocnhekjfiaaGreatDoor
namespace Go.Proofs.YtejaocnhekjfiaaGreatDoor
open Go.RowKit
set_option linter.unusedVariables false
open S25 (I64 numLine LineOk Tabs PlainW)
theorem errT3_is : (errT 3).toList = [101,114,114,111,114,32,51]:=eq_of_beq errT3_eq
theorem take_all {l : List OpI} {n : Nat} (hn : n ≤ 25) (hl : n ≤ l.length) (h : ¬ (n < l.length ∧ n < 25)) : l.take n = l.take 25:=by
 by_cases e : n = 25
 · rw [e]
 · have : n = l.length:=by omega
   rw [List.take_of_length_le (show l.length ≤ n by omega),List.take_of_length_le (show l.length ≤ 25 by omega)]
set_option maxRecDepth 100000 in
set_option maxHeartbeats 4000000 in
theorem conserves_any (b r wd m0 : Int) (sd : Nat) (w : World) (hT : Tabs w) (hs : sd < 18446744073709551616) (p : Option Addr) (l : List OpI) (cap : Nat) (hl : OpsAt w p l) (a0 a1 : Nat) (ha0 : a0 < 18446744073709551616) (ha1 : a1 < 18446744073709551616) :
   Calls Tryz.prog 4 #[.agg #[.int .i64 b,.int .i64 r,.int .i64 wd,.int .i64 m0,.int .u64 sd],.slice p l.length cap,.agg #[.int .u64 a0,.int .u64 a1]] w fun e w' => e = .returned (.bool true) ∧ Below w.heap.size w w':=by
 have KW:=Lib.hid (fun (w' : World) (hb : Below w.heap.size w w') => works_any w' (hT.below hb))
 have KP:=Lib.hid (fun (w' : World) (hb : Below w.heap.size w w') => played_any b r wd m0 sd 2 w' (hT.below hb) hs (by decide) (by decide) p l cap (hl.below hb))
 have KM:=Lib.hid (fun (w' : World) (hb : Below w.heap.size w w') => made_any b r wd m0 sd 1 w' (hT.below hb) hs (by decide) (by decide))
 have HC:=Lib.hid (cutCfg_ok r wd (sd:=sd) (md:=2) hs (by decide) (by decide))
 have HC1:=Lib.hid (cutCfg_ok r wd (sd:=sd) (md:=1) hs (by decide) (by decide))
 have H6:=Lib.hid (show (cutCfg r wd sd 2).bits = 6 from rfl)
 have HM:=Lib.hid (show (cutCfg r wd sd 2).mode = 2 from rfl)
 have HCC:=show cutCfg r wd sd 1 = { cutCfg r wd sd 2 with mode:=1 } from rfl
 rw [HCC] at KM HC1
 have HT:=Lib.hid hT
 have HL:=Lib.hid hl
 generalize hcc : cutCfg r wd sd 2 = c at *
 clear hcc HCC hT hl hs
 have hb1:=((Below.refl w.heap.size w).alloc (Nat.le_refl _) (.cells #[.int .i64 b,.int .i64 r,.int .i64 wd,.int .i64 m0,.int .u64 sd] 24)).alloc (by simp) (.cells #[.int .u64 a0,.int .u64 a1] 40)
 have hx00:=heap_alloc_new w (.cells #[.int .i64 b,.int .i64 r,.int .i64 wd,.int .i64 m0,.int .u64 sd] 24)
 have hx0:=(Below.heap_alloc (w.alloc (.cells #[.int .i64 b,.int .i64 r,.int .i64 wd,.int .i64 m0,.int .u64 sd] 24)) (.cells #[.int .u64 a0,.int .u64 a1] 40) _ (lt_of_block hx00)).trans hx00
 clear hx00
 have hx1:=heap_alloc_new (w.alloc (.cells #[.int .i64 b,.int .i64 r,.int .i64 wd,.int .i64 m0,.int .u64 sd] 24)) (.cells #[.int .u64 a0,.int .u64 a1] 40)
 rw [World.size_alloc] at hx1
 generalize hX : (w.alloc (.cells #[.int .i64 b,.int .i64 r,.int .i64 wd,.int .i64 m0,.int .u64 sd] 24)).alloc (.cells #[.int .u64 a0,.int .u64 a1] 40) = X at *
 have HB0:=Lib.hid hb1
 have A:=Lib.hid (show ∀ w',Below X.heap.size X w' → w'.cell? ⟨w.heap.size + 1,0,none⟩ = some (.int .u64 a0) ∧ w'.cell? ⟨w.heap.size + 1,1,none⟩ = some (.int .u64 a1) from fun w' hb =>
   ⟨(hb.cell (p:=⟨w.heap.size + 1,0,none⟩) (lt_of_block hx1)).trans ((cell_of_row _ _ _ _ _ _ hx1).trans rfl),(hb.cell (p:=⟨w.heap.size + 1,1,none⟩) (lt_of_block hx1)).trans ((cell_of_row _ _ _ _ _ _ hx1).trans rfl)⟩)
 have X0:=Lib.hid (show ∀ w',Below X.heap.size X w' → w'.heap[w.heap.size]? = some (.cells #[.int .i64 b,.int .i64 r,.int .i64 wd,.int .i64 m0,.int .u64 sd] 24 (0,0)) from fun w' hb => (hb.block _ (lt_of_block hx0)).trans hx0)
 clear hx0 hx1 hb1
 go_enter Tryz.func4,Tryz.ntmps4
 go_wp2_with fail
 clear hX
 refine (KW.out _ HB0.out).mono ?_
 rintro e w1 ⟨rfl,hb⟩
 have HB1:=Lib.hid (HB0.out.then hb)
 have HXB:=Lib.hid hb
 have hx0:=X0.out _ hb
 clear hb
 have c0 : w1.cell? ⟨w.heap.size,0,none⟩ = some (.int .i64 b):=(cell_of_row _ _ _ _ _ _ hx0).trans rfl
 have c1 : w1.cell? ⟨w.heap.size,1,none⟩ = some (.int .i64 r):=(cell_of_row _ _ _ _ _ _ hx0).trans rfl
 have c2 : w1.cell? ⟨w.heap.size,2,none⟩ = some (.int .i64 wd):=(cell_of_row _ _ _ _ _ _ hx0).trans rfl
 have c3 : w1.cell? ⟨w.heap.size,3,none⟩ = some (.int .i64 m0):=(cell_of_row _ _ _ _ _ _ hx0).trans rfl
 have c4 : w1.cell? ⟨w.heap.size,4,none⟩ = some (.int .u64 sd):=(cell_of_row _ _ _ _ _ _ hx0).trans rfl
 clear hx0
 go_wp2_with fail
 refine (KP.out _ HB1.out).mono ?_
 rintro e wP ⟨x1,B1,a1',m1,S1,rfl,hW1,hS1,hsz1,hsz2,hb⟩
 have HB2:=Lib.hid (HB1.out.then hb)
 have HXP:=Lib.hid (HXB.out.then hb)
 have HW1:=Lib.hid hW1
 have HS1:=Lib.hid hS1
 have hx0:=X0.out _ HXP.out
 clear c0 c1 c2 c3 c4 hb hW1 hS1 hsz1 hsz2
 have c0 : wP.cell? ⟨w.heap.size,0,none⟩ = some (.int .i64 b):=(cell_of_row _ _ _ _ _ _ hx0).trans rfl
 have c1 : wP.cell? ⟨w.heap.size,1,none⟩ = some (.int .i64 r):=(cell_of_row _ _ _ _ _ _ hx0).trans rfl
 have c2 : wP.cell? ⟨w.heap.size,2,none⟩ = some (.int .i64 wd):=(cell_of_row _ _ _ _ _ _ hx0).trans rfl
 have c3 : wP.cell? ⟨w.heap.size,3,none⟩ = some (.int .i64 m0):=(cell_of_row _ _ _ _ _ _ hx0).trans rfl
 have c4 : wP.cell? ⟨w.heap.size,4,none⟩ = some (.int .u64 sd):=(cell_of_row _ _ _ _ _ _ hx0).trans rfl
 clear hx0
 go_wp2_with fail
 refine (KM.out _ HB2.out).mono ?_
 rintro e wM ⟨x2,a2,m2,S2,rfl,hW2,hz2,hb⟩
 have HBM:=Lib.hid hb
 have HV:=Lib.hid (vw_made hW2 hz2)
 clear c0 c1 c2 c3 c4 hb hW2 hz2 KW KP KM X0 HXB HB0 HB1
 obtain ⟨len,hlen⟩ : ∃ q,l.length = q:=⟨_,rfl⟩
 have HLN:=Lib.hid hlen
 rw [hlen]
 clear hlen
 have HTP:=Lib.hid (HT.out.below HB2.out)
 have HLP:=Lib.hid (HL.out.below HB2.out)
 have hb10 : 10 ≤ wP.heap.size:=HTP.out.low
 have HB10:=Lib.hid hb10
 clear hb10
 generalize hc1 : ({ c with mode:=1 } : Cfg) = cl at *
 have HC1E:=Lib.hid hc1
 have H61:=Lib.hid (show cl.bits = 6 by rw [← hc1]; exact H6.out)
 clear hc1
 go_wp2_with fail
 go_loopw [10,11] (fun u _ wr => ∃ n : Nat,n ≤ 25 ∧ n ≤ len ∧ u = .int .i64 (n : Int) ∧ Hid (Vw wr wP.heap.size x2 a2 m2 cl (playG c (l.take n)) (1048576 * 2 ^ n)) ∧ Hid (Below wP.heap.size wP wr)) (fun u _ _ => 26 - (intOf u).toNat)
 case atStart => exact ⟨0,by omega,by omega,rfl,Lib.hid (by rw [List.take_zero]; exact HV.out),HBM⟩
 case round =>
   obtain ⟨n,hn,hnl,rfl,hv,hbw⟩:=hrel
   by_cases hgo : n < len ∧ n < 25
   · obtain ⟨hlt,h25⟩:=hgo
     have hltI : (n : Int) < len:=by omega
     have h25I : (n : Int) < 25:=by omega
     have HN25:=Lib.hid h25
     have HNL:=Lib.hid hlt
     obtain ⟨o,ho⟩ : ∃ o,l[n]? = some o:=⟨l[n]'(by rw [HLN.out]; exact hlt),List.getElem?_eq_getElem _⟩
     obtain ⟨k,off,rfl,hk,d0,d1,d2,d3,d4⟩:=HLP.out.below hbw.out n o ho
     have HTK:=Lib.hid (take_succ ho)
     have HPL:=Lib.hid ((play_snoc c (l.take n) o).1)
     have hbd:=bound25 hn
     have KD:=Lib.hid (fun (w' : World) (hb' : Below wr.heap.size wr w') o' => (hv.out.keep hb').does HC1.out (HTP.out.below (hbw.out.then hb')) HB10.out (hbw.out.then hb').size H61.out hbd.1 (by omega) o')
     clear ho hk hbd
     by_cases hk4 : o.kind = 4
     · have hk4b : (o.kind == 4) = true:=by simp [hk4]
       have hsk:=lin_skip HM.out o hk4 (playG c (l.take n))
       have hv2:=hv.out.wide
       rw [← hsk,← HPL.out,← HTK.out,← pow_b] at hv2
       have hbx:=(Below.refl wr.heap.size wr).alloc (Nat.le_refl _) (.cells #[.int .i64 o.kind,.int .i64 o.h,.int .i64 o.o,.int .u64 o.key,.int .i64 o.d] 42)
       have hx:=heap_alloc_new wr (.cells #[.int .i64 o.kind,.int .i64 o.h,.int .i64 o.o,.int .u64 o.key,.int .i64 o.d] 42)
       have HV2:=Lib.hid (hv2.keep hbx)
       have HB2:=Lib.hid (hbw.out.then hbx)
       generalize hX : wr.alloc (.cells #[.int .i64 o.kind,.int .i64 o.h,.int .i64 o.o,.int .u64 o.key,.int .i64 o.d] 42) = X2 at *
       have e0 : X2.cell? ⟨wr.heap.size,0,none⟩ = some (.int .i64 o.kind):=(cell_of_row _ _ _ _ _ _ hx).trans rfl
       clear hsk hv2 hbx hx KD hk4
       go_wp2_with fail
       go_roundw
       case rel => exact ⟨n + 1,HN25.out,HNL.out,by go_num,HV2,HB2⟩
       case measure => simp [intOf]; omega
     · have hk4b : (o.kind == 4) = false:=by simpa using hk4
       have hst:=lin_step HM.out o hk4 (playG c (l.take n))
       rw [HC1E.out,← HPL.out,← HTK.out] at hst
       have HST:=Lib.hid hst
       clear hst
       have hbx:=(Below.refl wr.heap.size wr).alloc (Nat.le_refl _) (.cells #[.int .i64 o.kind,.int .i64 o.h,.int .i64 o.o,.int .u64 o.key,.int .i64 o.d] 42)
       have hx:=heap_alloc_new wr (.cells #[.int .i64 o.kind,.int .i64 o.h,.int .i64 o.o,.int .u64 o.key,.int .i64 o.d] 42)
       have HBX:=Lib.hid hbx
       by_cases hk3 : o.kind = 3
       · have hk3b : (o.kind == 3) = true:=by simp [hk3]
         have hk3n : (o.kind != 3) = false:=by simp [hk3]
         have KD2:=KD.out _ HBX.out (linOp c o)
         rw [HST.out,← pow_b] at KD2
         rw [show linOp c o = o by unfold linOp; rw [if_pos hk3]] at KD2
         unfold opV at KD2
         generalize hX : wr.alloc (.cells #[.int .i64 o.kind,.int .i64 o.h,.int .i64 o.o,.int .u64 o.key,.int .i64 o.d] 42) = X2 at *
         have e0 : X2.cell? ⟨wr.heap.size,0,none⟩ = some (.int .i64 o.kind):=(cell_of_row _ _ _ _ _ _ hx).trans rfl
         have e1 : X2.cell? ⟨wr.heap.size,1,none⟩ = some (.int .i64 o.h):=(cell_of_row _ _ _ _ _ _ hx).trans rfl
         have e2 : X2.cell? ⟨wr.heap.size,2,none⟩ = some (.int .i64 o.o):=(cell_of_row _ _ _ _ _ _ hx).trans rfl
         have e3 : X2.cell? ⟨wr.heap.size,3,none⟩ = some (.int .u64 o.key):=(cell_of_row _ _ _ _ _ _ hx).trans rfl
         have e4 : X2.cell? ⟨wr.heap.size,4,none⟩ = some (.int .i64 o.d):=(cell_of_row _ _ _ _ _ _ hx).trans rfl
         have KD2:=Lib.hid KD2
         clear hbx hx KD hk3 hk4
         go_wp2_with fail
         refine KD2.out.mono ?_
         rintro e w4 ⟨rfl,hv4,hb4⟩
         have HV4:=Lib.hid hv4
         have HB4:=Lib.hid ((hbw.out.then HBX.out).trans hb4)
         clear hv4 hb4 KD2 e0 e1 e2 e3 e4 d0 d1 d2 d3 d4
         go_wp2_with fail
         go_roundw
         case rel => exact ⟨n + 1,HN25.out,HNL.out,by go_num,HV4,HB4⟩
         case measure => simp [intOf]; omega
       · have hk3b : (o.kind == 3) = false:=by simpa using hk3
         have hk3n : (o.kind != 3) = true:=by simpa using hk3
         have HLO:=Lib.hid (show linOp c o = { o with d:=smallD c o.d } by unfold linOp; rw [if_neg hk3])
         have KS:=fun w => small_any c o.d w
         unfold cfgV at KS
         have KS:=Lib.hid KS
         generalize hsd : smallD c o.d = sdd at *
         clear hsd
         have C1:=Lib.hid (show ∀ w',Below wr.heap.size wr w' → w'.cell? ⟨x1,1,none⟩ = some (.int .i64 c.bits) ∧ w'.cell? ⟨x1,2,none⟩ = some (.int .i64 c.rows) ∧ w'.cell? ⟨x1,3,none⟩ = some (.int .i64 c.width) ∧ w'.cell? ⟨x1,4,none⟩ = some (.int .i64 c.mode) ∧ w'.cell? ⟨x1,5,none⟩ = some (.int .u64 c.seed) from fun w' hb => (HW1.out.keep (hbw.out.then hb)).cells.2)
         generalize hX : wr.alloc (.cells #[.int .i64 o.kind,.int .i64 o.h,.int .i64 o.o,.int .u64 o.key,.int .i64 o.d] 42) = X2 at *
         have HX2:=Lib.hid hx
         have e0 : X2.cell? ⟨wr.heap.size,0,none⟩ = some (.int .i64 o.kind):=(cell_of_row _ _ _ _ _ _ hx).trans rfl
         clear hbx hx hk3 hk4
         go_upto_region 12 with fail
         clear e0 d0 d1 d2 d3 d4 hX
         have T:=Lib.hid (Below.refl X2.heap.size X2).drew
         refine wp_region_held (S:=fun w' => w'.cell? ⟨x1,1,none⟩ = some (.int .i64 c.bits) ∧ w'.cell? ⟨x1,2,none⟩ = some (.int .i64 c.rows) ∧ w'.cell? ⟨x1,3,none⟩ = some (.int .i64 c.width) ∧ w'.cell? ⟨x1,4,none⟩ = some (.int .i64 c.mode) ∧ w'.cell? ⟨x1,5,none⟩ = some (.int .u64 c.seed)) (by kernel_rfl) ?_
         refine wpAnyH_take (i:=0) (oi:=⟨_,_,_,_,_,_⟩) (v:=?vva0) rfl (by kernel_rfl) (by kernel_rfl) (by kernel_rfl) (fun _ _ _ h => h) (Or.inl ⟨by rfl,?yya0⟩) (C1.out _ (HBX.out.then T.out)) ?_
         case yya0 => (intro w' hw'; go_simp; try with_reducible rfl)
         try simp only [Act.put,List.setIfInBounds_toArray,List.set_cons_zero,List.set_cons_succ]
         refine wpAnyH_take (i:=1) (oi:=⟨_,_,_,_,_,_⟩) (v:=?vva1) rfl (by kernel_rfl) (by kernel_rfl) (by kernel_rfl) (fun _ _ _ h => h) (Or.inl ⟨by rfl,?yya1⟩) (C1.out _ (HBX.out.then T.out)) ?_
         case yya1 => (intro w' hw'; go_simp; try with_reducible rfl)
         try simp only [Act.put,List.setIfInBounds_toArray,List.set_cons_zero,List.set_cons_succ]
         refine wpAnyH_take (i:=2) (oi:=⟨_,_,_,_,_,_⟩) (v:=?vva2) rfl (by kernel_rfl) (by kernel_rfl) (by kernel_rfl) (fun _ _ _ h => h) (Or.inl ⟨by rfl,?yya2⟩) (C1.out _ (HBX.out.then T.out)) ?_
         case yya2 => (intro w' hw'; go_simp; try with_reducible rfl)
         try simp only [Act.put,List.setIfInBounds_toArray,List.set_cons_zero,List.set_cons_succ]
         refine wpAnyH_take (i:=3) (oi:=⟨_,_,_,_,_,_⟩) (v:=?vva3) rfl (by kernel_rfl) (by kernel_rfl) (by kernel_rfl) (fun _ _ _ h => h) (Or.inl ⟨by rfl,?yya3⟩) (C1.out _ (HBX.out.then T.out)) ?_
         case yya3 => (intro w' hw'; obtain ⟨c1,c2,c3,c4,c5⟩:=hw'; go_simp; try with_reducible rfl)
         try simp only [Act.put,List.setIfInBounds_toArray,List.set_cons_zero,List.set_cons_succ]
         refine wpAnyH_take (i:=4) (oi:=⟨_,_,_,_,_,_⟩) (v:=?vva4) rfl (by kernel_rfl) (by kernel_rfl) (by kernel_rfl) (fun _ _ _ h => h) (Or.inl ⟨by rfl,?yya4⟩) (C1.out _ (HBX.out.then T.out)) ?_
         case yya4 => (intro w' hw'; go_simp; try with_reducible rfl)
         try simp only [Act.put,List.setIfInBounds_toArray,List.set_cons_zero,List.set_cons_succ]
         have q4 : X2.drew.cell? ⟨wr.heap.size,4,none⟩ = some (.int .i64 o.d):=(cell_of_row _ _ _ _ _ _ HX2.out).trans rfl
         refine wpAnyH_ready (rs:=[5]) (by kernel_rfl) (by simp) ?_
         refine AllReadyH.cons (o:=⟨_,_,_,_,_,_⟩) rfl (fun K hK => ?_) AllReadyH.nil
         go_simp
         refine hK.out _ _ (C1.out _ (HBX.out.then T.out)) (fun hHeld => ?_)
         clear hK K hHeld
         try simp only [Act.put,List.setIfInBounds_toArray,List.set_cons_zero,List.set_cons_succ]
         clear q4
         refine wpAnyH_ready (rs:=[6]) (by kernel_rfl) (by simp) ?_
         refine AllReadyH.cons (o:=⟨_,_,_,_,_,_⟩) rfl (fun K hK => ?_) AllReadyH.nil
         go_simp
         with_reducible refine (KS.out _).mono ?_
         rintro e w5 ⟨rfl,hb⟩
         have T:=Lib.hid (T.out.then hb)
         clear hb
         refine hK.out _ _ (C1.out _ (HBX.out.then T.out)) (fun hHeld => ?_)
         clear hK K hHeld
         try simp only [Act.put,List.setIfInBounds_toArray,List.set_cons_zero,List.set_cons_succ]
         refine wpAnyH_take (i:=7) (oi:=⟨_,_,_,_,_,_⟩) (v:=?vva7) rfl (by kernel_rfl) (by kernel_rfl) (by kernel_rfl) (fun _ _ _ h => h) (Or.inl ⟨by rfl,?yya7⟩) (C1.out _ (HBX.out.then T.out)) ?_
         case yya7 => (intro w' hw'; go_simp; try with_reducible rfl)
         try simp only [Act.put,List.setIfInBounds_toArray,List.set_cons_zero,List.set_cons_succ]
         have HX5:=Lib.hid ((T.out.block _ (lt_of_block HX2.out)).trans HX2.out)
         have f4:=frozen_of_row w5 wr.heap.size 4 _ _ HX5.out
         have q4 : w5.cell? ⟨wr.heap.size,4,none⟩ = some (.int .i64 o.d):=(cell_of_row _ _ _ _ _ _ HX5.out).trans rfl
         have HX6 : Hid ((w5.setCell ⟨wr.heap.size,4,none⟩ (.int .i64 sdd)).heap[wr.heap.size]? = some (.cells #[.int .i64 o.kind,.int .i64 o.h,.int .i64 o.o,.int .u64 o.key,.int .i64 sdd] 42 (0,0))):=Lib.hid (by rw [heap_setCell_same _ _ _ _ _ _ HX5.out]; rfl)
         have TB6:=Lib.hid ((HBX.out.then T.out).setCell (p:=⟨wr.heap.size,4,none⟩) (Nat.le_refl _) (.int .i64 sdd))
         have SS:=Lib.hid (C1.out _ TB6.out)
         refine wpAnyH_ready (rs:=[8]) (by kernel_rfl) (by simp) ?_
         refine AllReadyH.cons (o:=⟨_,_,_,_,_,_⟩) rfl (fun K hK => ?_) AllReadyH.nil
         go_simp
         refine hK.out _ _ SS.out (fun hHeld => ?_)
         clear hK K hHeld
         try simp only [Act.put,List.setIfInBounds_toArray,List.set_cons_zero,List.set_cons_succ]
         generalize hw6 : w5.setCell ⟨wr.heap.size,4,none⟩ (.int .i64 sdd) = w6 at *
         clear hw6 SS q4 f4 HX5
         refine wpAnyH_done (by kernel_rfl) ?_ _
         clear C1 KS T
         obtain ⟨W6,hW6⟩ : ∃ z : World,z = w6:=⟨_,rfl⟩
         subst hW6
         have KD2:=KD.out _ TB6.out (linOp c o)
         rw [HST.out,← pow_b,HLO.out] at KD2
         unfold opV at KD2
         have e0 : W6.cell? ⟨wr.heap.size,0,none⟩ = some (.int .i64 o.kind):=(cell_of_row _ _ _ _ _ _ HX6.out).trans rfl
         have e1 : W6.cell? ⟨wr.heap.size,1,none⟩ = some (.int .i64 o.h):=(cell_of_row _ _ _ _ _ _ HX6.out).trans rfl
         have e2 : W6.cell? ⟨wr.heap.size,2,none⟩ = some (.int .i64 o.o):=(cell_of_row _ _ _ _ _ _ HX6.out).trans rfl
         have e3 : W6.cell? ⟨wr.heap.size,3,none⟩ = some (.int .u64 o.key):=(cell_of_row _ _ _ _ _ _ HX6.out).trans rfl
         have e4 : W6.cell? ⟨wr.heap.size,4,none⟩ = some (.int .i64 sdd):=(cell_of_row _ _ _ _ _ _ HX6.out).trans rfl
         have KD2:=Lib.hid KD2
         clear KD
         go_wp2_with fail
         refine KD2.out.mono ?_
         rintro e w7 ⟨rfl,hv4,hb4⟩
         have HV4:=Lib.hid hv4
         have HB4:=Lib.hid ((hbw.out.then TB6.out).trans hb4)
         clear hv4 hb4 KD2 e0 e1 e2 e3 e4
         go_wp2_with fail
         go_roundw
         case rel => exact ⟨n + 1,HN25.out,HNL.out,by go_num,HV4,HB4⟩
         case measure => simp [intOf]; omega
   · have htk:=take_all hn (by rw [HLN.out]; exact hnl) (by rw [HLN.out]; exact hgo)
     have hbd:=bound25 hn
     rw [htk] at hv
     have hv3:=hv.out
     have HBD:=Lib.hid (show (1048576 : Int) * 2 ^ n ≤ 35184372088832 by omega)
     go_upto_region 7 with fail
     go_cut [46] (fun q wx => q = .bool false ∧ wx = wr)
     case first =>
       by_cases hlt : n < len
       · have hltI : (n : Int) < len:=by omega
         have h25 : ¬ ((n : Int) < 25):=by omega
         go_wp2_with fail
         go_meet
         exact ⟨rfl,rfl⟩
       · have hltI : ¬ ((n : Int) < len):=by omega
         go_wp2_with fail
         go_meet
         exact ⟨rfl,rfl⟩
     case rest =>
       obtain ⟨rfl,rfl⟩:=hcut
       have TXC:=Lib.hid (HXP.out.then hbw.out)
       have d0:=(A.out _ TXC.out).1
       have d1:=(A.out _ TXC.out).2
       have hi0 : (a0 : Int) ≤ 18446744073709551615:=by omega
       have hand:=and_255 (a0 / 256)
       have hdv : ((a0 : Int) / 256) = ((a0 / 256 : Nat) : Int):=by omega
       have hm3 : ((a0 : Int) % 3) = ((a0 % 3 : Nat) : Int):=by omega
       have hm3t : ((a0 : Int).tmod 3) = ((a0 % 3 : Nat) : Int):=by rw [Int.tmod_eq_emod_of_nonneg (by omega)]; omega
       have hh3 : a0 % 3 < 3:=Nat.mod_lt _ (by decide)
       have hl8 : a0 / 256 % 256 < 256:=Nat.mod_lt _ (by decide)
       generalize a0 / 256 = a08 at *
       generalize a08 % 256 = lv0 at *
       have KF:=Lib.hid (fun w => prefix_any (lv0 : Int) a1 ha1 w)
       have hpf:=pf_ok (lv0 : Int) a1
       generalize pfL (lv0 : Int) = lv at *
       generalize pfI (lv0 : Int) a1 = ix at *
       generalize a0 % 3 = h at *
       have w1' : (h : Int) < 3:=by omega
       have w2' : (lv0 : Int) < 256:=by omega
       have HPF:=Lib.hid hpf
       have HH3:=Lib.hid hh3
       clear hpf hh3 hl8 hgo hn hnl htk hbd HLP HLN HL HV
       go_wp2_with fail
       refine (KF.out _).mono ?_
       rintro e w3 ⟨rfl,hb⟩
       have TC3:=Lib.hid (hbw.out.then hb)
       have hb5:=(Below.refl w3.heap.size w3).alloc (Nat.le_refl _) (.cells #[.int .i64 lv,.int .u64 ix] 46)
       have TCY:=Lib.hid (TC3.out.then hb5)
       have HVY:=Lib.hid ((hv3.keep hb).keep hb5)
       have hpx:=heap_alloc_new w3 (.cells #[.int .i64 lv,.int .u64 ix] 46)
       clear hb hb5 TC3 KF hand hdv hm3 hm3t hi0 d0 d1 w2' hv hv3 A TXC HXP
       go_upto_region 17 with fail
       generalize hY : w3.alloc (.cells #[.int .i64 lv,.int .u64 ix] 46) = Y at *
       have P:=Lib.hid (show ∀ w',Below Y.heap.size Y w' → w'.cell? ⟨w3.heap.size,0,none⟩ = some (.int .i64 lv) ∧ w'.cell? ⟨w3.heap.size,1,none⟩ = some (.int .u64 ix) from fun w' hb =>
         ⟨(hb.cell (p:=⟨w3.heap.size,0,none⟩) (lt_of_block hpx)).trans ((cell_of_row _ _ _ _ _ _ hpx).trans rfl),(hb.cell (p:=⟨w3.heap.size,1,none⟩) (lt_of_block hpx)).trans ((cell_of_row _ _ _ _ _ _ hpx).trans rfl)⟩)
       clear hY hpx
       have hlv6:=HPF.out.1
       have hix6:=HPF.out.2
       have hp6 : 2 ^ (6 - lv) ≤ 2 ^ 6:=Nat.pow_le_pow_right (by decide) (by omega)
       have e6 : (2 : Nat) ^ 6 = 64:=by decide
       rw [e6] at hp6
       have hix64 : ix < 64:=by omega
       have hbnd:=bound25 (show (l.take 25).length ≤ 25 by rw [List.length_take]; omega)
       have hinv:=inv_play HC.out H6.out _ (l.take 25) rfl
       have hfit:=hinv.fit.mono (show 1048576 * (2 : Int) ^ (l.take 25).length ≤ 35184372088832 by omega)
       have hF:=hfit.rowG (by decide) h
       have hh3:=HH3.out
       obtain ⟨s1,hs1⟩ : ∃ s,S1[h]? = some s:=⟨_,List.getElem?_eq_getElem (by rw [HW1.out.three]; exact hh3)⟩
       obtain ⟨s0,hs0⟩ : ∃ s,S1[0]? = some s:=⟨_,List.getElem?_eq_getElem (by rw [HW1.out.three]; decide)⟩
       obtain ⟨sj,hsj⟩ : ∃ s,S1[1]? = some s:=⟨_,List.getElem?_eq_getElem (by rw [HW1.out.three]; decide)⟩
       have hCC:=(hinv.rel _ hh3).is2 HM.out
       have hcf:=relC_fit (hinv.rel _ hh3) hF (by decide)
       have hcf0:=relC_fit (hinv.rel 0 (by decide)) (hfit.rowG (by decide) 0) (by decide)
       rw [← HS1.out,map_getD hs1,H6.out] at hcf
       rw [← HS1.out,map_getD hs0,H6.out] at hcf0
       rw [← HS1.out,map_getD hs1] at hCC
       obtain ⟨zs1,hz1⟩ : ∃ zs,s1.C[lv]? = some zs:=⟨_,List.getElem?_eq_getElem (by rw [hCC.1.len,H6.out]; omega)⟩
       have hcp:=cons_point HC.out H6.out HM.out hCC.1 hlv6 hz1 hix6
       rw [HC1E.out] at hcp
       have hzf1 : FitL 2251799813685248 zs1:=hcf zs1 (List.mem_of_getElem? hz1)
       have hpt1:=point_fit HC.out (lv:=lv) _ hzf1 (by decide) ix
       obtain ⟨Sv,hWv,hIv⟩:=HVY.out
       obtain ⟨sv,hsv⟩ : ∃ s,Sv[h]? = some s:=⟨_,List.getElem?_eq_getElem (by rw [hWv.three]; exact hh3)⟩
       have hCv:=(hIv.rel _ hh3).not2 (by rw [← HC1E.out]; exact (by decide : (1 : Nat) ≠ 2))
       rw [map_getD hsv] at hCv
       have hzv : sv.C[lv]? = some (cellsOf cl lv (rowG (playG c (l.take 25)) h)):=by rw [hCv]; exact stackOf_get cl _ lv (by rw [H61.out]; exact hlv6)
       have hzfv : FitL 2251799813685248 (cellsOf cl lv (rowG (playG c (l.take 25)) h)):=by
         have:=relC_fit (hIv.rel _ hh3) hF (by decide) (cellsOf cl lv (rowG (playG c (l.take 25)) h)) (by rw [map_getD hsv]; exact List.mem_of_getElem? hzv)
         rw [H61.out] at this
         exact this
       have hptv:=point_fit HC1.out (lv:=lv) _ hzfv (by decide) ix
       have HWv:=Lib.hid hWv
       have KL1:=fun (w' : World) (hb' : Below Y.heap.size Y w') => line_point (HW1.out.keep (TCY.out.then hb')).agg (HTP.out.below (TCY.out.then hb')) (show h < 20 by omega) hs1 lv ix _ hz1 (by rw [H6.out]; exact hix6) ⟨by omega,by omega⟩
       have KL2:=fun (w' : World) (hb' : Below Y.heap.size Y w') => line_point (HWv.out.keep hb').agg (HTP.out.below (TCY.out.then hb')) (show h < 20 by omega) hsv lv ix _ hzv (by rw [H61.out]; exact hix6) ⟨by omega,by omega⟩
       have KL3:=fun (w' : World) (hb' : Below Y.heap.size Y w') => line_subtract_no (HW1.out.keep (TCY.out.then hb')).agg (HTP.out.below (TCY.out.then hb')) (i:=0) (j:=1) (by decide) (by decide) hs0 hsj HM.out
       have KL4:=fun (w' : World) (hb' : Below Y.heap.size Y w') => line_add_no (HW1.out.keep (TCY.out.then hb')).agg (HTP.out.below (TCY.out.then hb')) (i:=0) (by decide) hs0 0 (Nat.pow_pos (by decide)) (-1) 2251799813685248 1 hcf0 (by decide) ⟨by decide,by decide⟩ (by decide) (by decide) (by unfold errOf; rw [if_pos ⟨HM.out,by decide⟩]) (by decide)
       have q0 : (((0 : Nat) : Int) + 1) = 1:=rfl
       have q1 : (((1 : Nat) : Int) + 1) = 2:=rfl
       have q2 : ((0 : Nat) : Int) = 0:=rfl
       rw [q0,q1,sub_line] at KL3
       rw [q0,q2,neg_line] at KL4
       have KMM:=Lib.hid (fun (w' : World) (hb' : Below Y.heap.size Y w') => mass_any (HW1.out.keep (TCY.out.then hb')) h hh3 lv ix hlv6 hix64 35184372088832 hfit (by decide) (by decide))
       have X1C:=Lib.hid (fun (w' : World) (hb' : Below Y.heap.size Y w') => (HW1.out.keep (TCY.out.then hb')).cells.1)
       have X2C:=Lib.hid (fun (w' : World) (hb' : Below Y.heap.size Y w') => (HWv.out.keep hb').cells.1)
       have HBY:=Lib.hid (HB2.out.then TCY.out)
       clear hbnd hinv hfit hF hCC hcf hcf0 hz1 hzf1 hIv hsv hCv hzv hzfv hWv HWv hs0 hs1 hsj hp6 e6 hlv6 hix6 q0 q1 q2 HVY
       unfold ReadPost at KL1 KL2 KL3 KL4
       generalize levPoint c lv zs1 ix = pt at *
       generalize levPoint cl lv (cellsOf cl lv (rowG (playG c (l.take 25)) h)) ix = pv at *
       generalize massF (rowG (playG c (l.take 25)) h) lv ix = ms at *
       obtain ⟨hg1,hg2⟩:=hcp
       have KN1:=Lib.hid (fun w' => number_any ⟨#[110,117,109,98,101,114,32]⟩ (by decide) (by decide) pt ⟨by omega,by omega⟩ w')
       have KN2:=Lib.hid (fun w' => number_any ⟨#[110,117,109,98,101,114,32]⟩ (by decide) (by decide) pv ⟨by omega,by omega⟩ w')
       rw [bNumber_is] at KL1 KL2
       have KT1:=Lib.hid (fun w => text_any ((h : Int) + 1) (i64_handle (by omega)) w)
       have KT2:=Lib.hid (fun w => text_any (lv : Int) (i64_nat (by have:=HPF.out.1; omega)) w)
       have KT3:=Lib.hid (fun w => text_any (ix : Int) (i64_nat (by omega)) w)
       have hL:=numLine3 vPoint ((h : Int) + 1) (lv : Int) (ix : Int)
       rw [vPoint_sp] at hL
       simp only [hL] at KL1 KL2
       have z1:=numT_size ((h : Int) + 1) ⟨by omega,by omega⟩
       have z2:=numT_size (lv : Int) ⟨by omega,by have:=HPF.out.1; omega⟩
       have z3:=numT_size (ix : Int) ⟨by omega,by omega⟩
       generalize (⟨#[110,117,109,98,101,114,32]⟩ : ByteArray) ++ numT pt = xx at *
       generalize (⟨#[110,117,109,98,101,114,32]⟩ : ByteArray) ++ numT pv = yy at *
       generalize numT ((h : Int) + 1) = t1 at *
       generalize numT (lv : Int) = t2 at *
       generalize numT (ix : Int) = t3 at *
       have n1 : ¬ 9223372036854775807 < 6 + t1.size:=by omega
       have n2 : ¬ 9223372036854775807 < 6 + t1.size + 1:=by omega
       have n3 : ¬ 9223372036854775807 < 6 + t1.size + 1 + t2.size:=by omega
       have n4 : ¬ 9223372036854775807 < 6 + t1.size + 1 + t2.size + 1:=by omega
       have n5 : ¬ 9223372036854775807 < 6 + t1.size + 1 + t2.size + 1 + t3.size:=by omega
       have hwr : IntKind.i64.wrap ((h : Int) + 1) = (h : Int) + 1:=IntWalk.i64_in _ (by omega)
       have hwi : IntKind.i64.wrap (ix : Int) = (ix : Int):=IntWalk.i64_in _ (by omega)
       have her:=errT3_is
       have herb:=errT3_eq
       generalize errT 3 = er at *
       have HER:=Lib.hid her
       have HERB:=Lib.hid herb
       have HG1:=Lib.hid hg1
       have HG2:=Lib.hid hg2
       have KL1:=Lib.hid KL1
       have KL2:=Lib.hid KL2
       have KL3:=Lib.hid KL3
       have KL4:=Lib.hid KL4
       clear hL z1 z2 z3 hh3 hpt1 hptv her herb hg1 hg2
       have T:=Lib.hid (Below.refl Y.heap.size Y).drew
       refine wp_region_held (S:=fun w' => w'.cell? ⟨w3.heap.size,0,none⟩ = some (.int .i64 lv) ∧ w'.cell? ⟨w3.heap.size,1,none⟩ = some (.int .u64 ix)) (by kernel_rfl) ?_
       refine wpAnyH_take (i:=0) (oi:=⟨_,_,_,_,_,_⟩) (v:=?vvb0) rfl (by kernel_rfl) (by kernel_rfl) (by kernel_rfl) (fun _ _ _ h => h) (Or.inl ⟨by rfl,?yyb0⟩) (P.out _ T.out) ?_
       case yyb0 => (intro w' hw'; go_simp; try with_reducible rfl)
       try simp only [Act.put,List.setIfInBounds_toArray,List.set_cons_zero,List.set_cons_succ]
       refine wpAnyH_take (i:=1) (oi:=⟨_,_,_,_,_,_⟩) (v:=?vvb1) rfl (by kernel_rfl) (by kernel_rfl) (by kernel_rfl) (fun _ _ _ h => h) (Or.inl ⟨by rfl,?yyb1⟩) (P.out _ T.out) ?_
       case yyb1 => (intro w' hw'; go_simp; try with_reducible rfl)
       try simp only [Act.put,List.setIfInBounds_toArray,List.set_cons_zero,List.set_cons_succ]
       refine wpAnyH_take (i:=5) (oi:=⟨_,_,_,_,_,_⟩) (v:=?vvb5) rfl (by kernel_rfl) (by kernel_rfl) (by kernel_rfl) (fun _ _ _ h => h) (Or.inl ⟨by rfl,?yyb5⟩) (P.out _ T.out) ?_
       case yyb5 => (intro w' hw'; go_simp; try with_reducible rfl)
       try simp only [Act.put,List.setIfInBounds_toArray,List.set_cons_zero,List.set_cons_succ]
       refine wpAnyH_take (i:=6) (oi:=⟨_,_,_,_,_,_⟩) (v:=?vvb6) rfl (by kernel_rfl) (by kernel_rfl) (by kernel_rfl) (fun _ _ _ h => h) (Or.inl ⟨by rfl,?yyb6⟩) (P.out _ T.out) ?_
       case yyb6 => (intro w' hw'; obtain ⟨c1,c2⟩:=hw'; go_simp; try with_reducible rfl)
       try simp only [Act.put,List.setIfInBounds_toArray,List.set_cons_zero,List.set_cons_succ]
       refine wpAnyH_take (i:=10) (oi:=⟨_,_,_,_,_,_⟩) (v:=?vvb10) rfl (by kernel_rfl) (by kernel_rfl) (by kernel_rfl) (fun _ _ _ h => h) (Or.inl ⟨by rfl,?yyb10⟩) (P.out _ T.out) ?_
       case yyb10 => (intro w' hw'; go_simp; try with_reducible rfl)
       try simp only [Act.put,List.setIfInBounds_toArray,List.set_cons_zero,List.set_cons_succ]
       refine wpAnyH_take (i:=11) (oi:=⟨_,_,_,_,_,_⟩) (v:=?vvb11) rfl (by kernel_rfl) (by kernel_rfl) (by kernel_rfl) (fun _ _ _ h => h) (Or.inl ⟨by rfl,?yyb11⟩) (P.out _ T.out) ?_
       case yyb11 => (intro w' hw'; obtain ⟨c1,c2⟩:=hw'; go_simp; try with_reducible rfl)
       try simp only [Act.put,List.setIfInBounds_toArray,List.set_cons_zero,List.set_cons_succ]
       refine wpAnyH_take (i:=12) (oi:=⟨_,_,_,_,_,_⟩) (v:=?vvb12) rfl (by kernel_rfl) (by kernel_rfl) (by kernel_rfl) (fun _ _ _ h => h) (Or.inl ⟨by rfl,?yyb12⟩) (P.out _ T.out) ?_
       case yyb12 => (intro w' hw'; go_simp; try with_reducible rfl)
       try simp only [Act.put,List.setIfInBounds_toArray,List.set_cons_zero,List.set_cons_succ]
       refine wpAnyH_ready (rs:=[2]) (by kernel_rfl) (by simp) ?_
       refine AllReadyH.cons (o:=⟨_,_,_,_,_,_⟩) rfl (fun K hK => ?_) AllReadyH.nil
       go_simp
       with_reducible refine (KT1.out _).mono ?_
       rintro e w4 ⟨rfl,hb⟩
       have T:=Lib.hid (T.out.then hb)
       clear hb
       refine hK.out _ _ (P.out _ T.out) (fun hHeld => ?_)
       clear hK K hHeld
       try simp only [Act.put,List.setIfInBounds_toArray,List.set_cons_zero,List.set_cons_succ]
       refine wpAnyH_take (i:=3) (oi:=⟨_,_,_,_,_,_⟩) (v:=?vvb3) rfl (by kernel_rfl) (by kernel_rfl) (by kernel_rfl) (fun _ _ _ h => h) (Or.inl ⟨by rfl,?yyb3⟩) (P.out _ T.out) ?_
       case yyb3 => (intro w' hw'; go_simp; try with_reducible rfl)
       try simp only [Act.put,List.setIfInBounds_toArray,List.set_cons_zero,List.set_cons_succ]
       refine wpAnyH_take (i:=4) (oi:=⟨_,_,_,_,_,_⟩) (v:=?vvb4) rfl (by kernel_rfl) (by kernel_rfl) (by kernel_rfl) (fun _ _ _ h => h) (Or.inl ⟨by rfl,?yyb4⟩) (P.out _ T.out) ?_
       case yyb4 => (intro w' hw'; go_simp; try with_reducible rfl)
       try simp only [Act.put,List.setIfInBounds_toArray,List.set_cons_zero,List.set_cons_succ]
       refine wpAnyH_ready (rs:=[7]) (by kernel_rfl) (by simp) ?_
       refine AllReadyH.cons (o:=⟨_,_,_,_,_,_⟩) rfl (fun K hK => ?_) AllReadyH.nil
       go_simp
       with_reducible refine (KT2.out _).mono ?_
       rintro e w4 ⟨rfl,hb⟩
       have T:=Lib.hid (T.out.then hb)
       clear hb
       refine hK.out _ _ (P.out _ T.out) (fun hHeld => ?_)
       clear hK K hHeld
       try simp only [Act.put,List.setIfInBounds_toArray,List.set_cons_zero,List.set_cons_succ]
       refine wpAnyH_take (i:=8) (oi:=⟨_,_,_,_,_,_⟩) (v:=?vvb8) rfl (by kernel_rfl) (by kernel_rfl) (by kernel_rfl) (fun _ _ _ h => h) (Or.inl ⟨by rfl,?yyb8⟩) (P.out _ T.out) ?_
       case yyb8 => (intro w' hw'; go_simp; try with_reducible rfl)
       try simp only [Act.put,List.setIfInBounds_toArray,List.set_cons_zero,List.set_cons_succ]
       refine wpAnyH_take (i:=9) (oi:=⟨_,_,_,_,_,_⟩) (v:=?vvb9) rfl (by kernel_rfl) (by kernel_rfl) (by kernel_rfl) (fun _ _ _ h => h) (Or.inl ⟨by rfl,?yyb9⟩) (P.out _ T.out) ?_
       case yyb9 => (intro w' hw'; go_simp; try with_reducible rfl)
       try simp only [Act.put,List.setIfInBounds_toArray,List.set_cons_zero,List.set_cons_succ]
       refine wpAnyH_ready (rs:=[13]) (by kernel_rfl) (by simp) ?_
       refine AllReadyH.cons (o:=⟨_,_,_,_,_,_⟩) rfl (fun K hK => ?_) AllReadyH.nil
       go_simp
       with_reducible refine (KT3.out _).mono ?_
       rintro e w4 ⟨rfl,hb⟩
       have T:=Lib.hid (T.out.then hb)
       clear hb
       refine hK.out _ _ (P.out _ T.out) (fun hHeld => ?_)
       clear hK K hHeld
       try simp only [Act.put,List.setIfInBounds_toArray,List.set_cons_zero,List.set_cons_succ]
       refine wpAnyH_take (i:=14) (oi:=⟨_,_,_,_,_,_⟩) (v:=?vvb14) rfl (by kernel_rfl) (by kernel_rfl) (by kernel_rfl) (fun _ _ _ h => h) (Or.inl ⟨by rfl,?yyb14⟩) (P.out _ T.out) ?_
       case yyb14 => (intro w' hw'; go_simp; try with_reducible rfl)
       try simp only [Act.put,List.setIfInBounds_toArray,List.set_cons_zero,List.set_cons_succ]
       refine wpAnyH_take (i:=15) (oi:=⟨_,_,_,_,_,_⟩) (v:=?vvb15) rfl (by kernel_rfl) (by kernel_rfl) (by kernel_rfl) (fun _ _ _ h => h) (Or.inl ⟨by rfl,?yyb15⟩) (P.out _ T.out) ?_
       case yyb15 => (intro w' hw'; go_simp; try with_reducible rfl)
       try simp only [Act.put,List.setIfInBounds_toArray,List.set_cons_zero,List.set_cons_succ]
       refine wpAnyH_done (by kernel_rfl) ?_ _
       clear KT1 KT2 KT3 n1 n2 n3 n4 n5 hwr hwi
       have T5:=Lib.hid T.out
       obtain ⟨W5,hW5⟩ : ∃ z : World,z = w4:=⟨_,rfl⟩
       subst hW5
       have g1:=X1C.out _ T5.out
       go_wp2_with fail
       refine (KL1.out _ T5.out).mono ?_
       rintro e W6 ⟨rfl,hA6,hb6⟩
       have T6:=Lib.hid (T5.out.then hb6)
       clear hA6 hb6 g1
       have g1:=X2C.out _ T6.out
       go_wp2_with fail
       refine (KL2.out _ T6.out).mono ?_
       rintro e W7 ⟨rfl,hA7,hb7⟩
       have T7:=Lib.hid (T6.out.then hb7)
       clear hA7 hb7 g1
       go_wp2_with fail
       refine (KN1.out _).mono ?_
       rintro e W7 ⟨rfl,rfl⟩
       go_wp2_with fail
       refine (KN2.out _).mono ?_
       rintro e W7 ⟨rfl,rfl⟩
       have g1:=X1C.out _ T7.out
       go_wp2_with fail
       refine (KL3.out _ T7.out).mono ?_
       rintro e W8 ⟨rfl,hA8,hb8⟩
       have T8:=Lib.hid (T7.out.then hb8)
       clear hA8 hb8 g1
       have g1:=X1C.out _ T8.out
       go_wp2_with fail
       refine (KL4.out _ T8.out).mono ?_
       rintro e W9 ⟨rfl,hA9,hb9⟩
       have T9:=Lib.hid (T8.out.then hb9)
       clear hA9 hb9 g1
       have p0:=(P.out _ T9.out).1
       have p1:=(P.out _ T9.out).2
       have hg1:=HG1.out
       have hg2:=HG2.out
       have her:=HER.out
       have herb:=HERB.out
       go_wp2_with fail
       refine (KMM.out _ T9.out).mono ?_
       rintro e W10 ⟨rfl,hb10⟩
       have HBE:=Lib.hid (HBY.out.then (T9.out.then hb10))
       clear hb10 p0 p1
       go_wp2_with fail
       go_ret
       exact ⟨rfl,HBE.out⟩
end Go.Proofs.YtejaocnhekjfiaaGreatDoor
