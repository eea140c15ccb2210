/- Walks and plain laws, part 16: In2. -/
import Derived.Test.YtejaocnhekjfiaaGreatDoorK01
import Derived.Test.YtejaocnhekjfiaaGreatDoorK02
import Derived.Test.YtejaocnhekjfiaaGreatDoorK03
import Derived.Test.YtejaocnhekjfiaaGreatDoorK04
import Derived.Test.YtejaocnhekjfiaaGreatDoorK05
import Derived.Test.YtejaocnhekjfiaaGreatDoorK06
import Derived.Test.YtejaocnhekjfiaaGreatDoorK07
import Derived.Test.YtejaocnhekjfiaaGreatDoorK08
import Derived.Test.YtejaocnhekjfiaaGreatDoorK09
import Derived.Test.YtejaocnhekjfiaaGreatDoorK10
import Derived.Test.YtejaocnhekjfiaaGreatDoorK11
import Derived.Test.YtejaocnhekjfiaaGreatDoorK12
import Derived.Test.YtejaocnhekjfiaaGreatDoorK13
import Derived.Test.YtejaocnhekjfiaaGreatDoorK14
import Derived.Test.YtejaocnhekjfiaaGreatDoorI01
import Derived.Deep.DeepCutAuto
namespace Go.Proofs.YtejaocnhekjfiaaGreatDoor
open Go.RowKit
set_option linter.unusedVariables false
set_option linter.unusedSimpArgs false
open S25 (I64 numLine LineOk Tabs PlainW)
theorem put3 : (∀ (l : List Value) (i : Nat) (a : Value),l.toArray.setIfInBounds i a = (l.set i a).toArray) ∧ (∀ (a b : Value) (l : List Value),(a :: l).set 0 b = b :: l) ∧ (∀ (a b : Value) (l : List Value) (n : Nat),(a :: l).set (n + 1) b = a :: l.set n b):=⟨fun _ _ _ => List.setIfInBounds_toArray ..,fun _ _ _ => rfl,fun _ _ _ _ => rfl⟩
theorem sz63 (v : Int) : (Tryz.prog.info? 63).map (·.size) = some (S02.arr (S02.dg v)).size:=by rw [S02.arr_size]; exact S02.info30
theorem szl (v : Int) : (Tryz.prog.info? 63).map (·.size) = some (lc v).length:=by rw [lc_len]; exact S02.info30
theorem szz (f g : Nat → Int) : (S02.arr f).size = (S02.arr g).size:=by rw [S02.arr_size,S02.arr_size]
theorem plusC (a b : Int) (w : World) : Calls Tryz.prog 24 #[.agg (S02.arr (S02.dg a)),.agg (S02.arr (S02.dg b))] w fun e w' => e = .returned (.agg (S02.arr (S02.dg (a + b)))) ∧ Below w.heap.size w w':=S02.lplus_any a b w
theorem lofC (a : Int) (h : -9223372036854775808 ≤ a ∧ a ≤ 9223372036854775807) (w : World) : Calls Tryz.prog 23 #[.int .i64 a] w fun e w' => e = .returned (.agg (S02.arr (S02.dg a))) ∧ Below w.heap.size w w':=S02.lofint_any a w h.1 h.2
theorem vInner_sp : vInner ++ (⟨#[32]⟩ : ByteArray) = ⟨#[105,110,110,101,114,32]⟩:=by decide
theorem take12 {l : List OpI} {n : Nat} (hn : n ≤ 12) (hl : n ≤ l.length) (h : ¬ (n < l.length ∧ n < 12)) : l.take n = l.take 12:=by
 by_cases e : n = 12
 · rw [e]
 · have : n = l.length:=by omega
   rw [List.take_of_length_le (show l.length ≤ n by omega),List.take_of_length_le (show l.length ≤ 12 by omega)]
theorem bound12 {n : Nat} (h : n ≤ 12) : (1048576 : Int) * 2 ^ n ≤ 4294967296:=by
 have h1 : (2 ^ n : Nat) ≤ 2 ^ 12:=Nat.pow_le_pow_right (by decide) h
 have e : ((2 ^ n : Nat) : Int) = (2 : Int) ^ n:=by simp
 have h3 : (2 ^ 12 : Nat) = 4096:=by decide
 omega
theorem wide_front (s : ByteArray) : (bWide ++ s).extract 0 5 = bWide:=by
 have l1 : bWide.data.toList.length ≤ bWide.size:=Nat.le_of_eq (by simp)
 apply ByteArray.ext
 simp only [ByteArray.data_extract,ByteArray.data_append]
 apply Array.ext'
 have e : (5 : Nat) = bWide.size:=rfl
 rw [e]
 simp
 exact List.take_of_length_le l1
theorem numT_pos (n : Int) : 1 ≤ (numT n).size:=by
 unfold numT Lib.itoa
 split
 · show 1 ≤ (List.toArray _).size
   simp
 · have:=List.length_pos_iff.2 (S25.decDigits_ne n.toNat)
   show 1 ≤ (List.toArray _).size
   simp
   omega
set_option maxRecDepth 100000 in
set_option maxHeartbeats 8000000 in
theorem topinner_any (b r wd m0 : Int) (sd : Nat) (w : World) (hT : Tabs w) (hs : sd < 18446744073709551616) (p : Option Addr) (l : List OpI) (cap : Nat) (hl : OpsAt w p l) (p0 p1 : Int) :
 Calls Tryz.prog 6 #[.agg #[.int .i64 b,.int .i64 r,.int .i64 wd,.int .i64 m0,.int .u64 sd],.slice p l.length cap,.agg #[.int .i64 p0,.int .i64 p1]] w fun e w' => e = .returned (.bool true) ∧ Below w.heap.size w w':=by
 have KW:=Lib.hid (fun (w' : World) (hb : Below w.heap.size w w') => works_any w' (hT.below hb))
 have KP:=Lib.hid (fun (w' : World) (hb : Below w.heap.size w w') p l cap (hl : OpsAt w' p l) => played_any b r wd m0 sd 1 w' (hT.below hb) hs (by decide) (by decide) p l cap hl)
 have HC:=Lib.hid (cutCfg_ok r wd (sd:=sd) (md:=1) hs (by decide) (by decide))
 have H6:=Lib.hid (show (cutCfg r wd sd 1).bits = 6 from rfl)
 have HM:=Lib.hid (show (cutCfg r wd sd 1).mode = 1 from rfl)
 have HT:=Lib.hid hT
 have HL:=Lib.hid hl
 generalize hcc : cutCfg r wd sd 1 = c at *
 clear hcc hT hl hs
 have hb1:=((Below.refl w.heap.size w).alloc (Nat.le_refl _) (.cells #[.int .i64 b,.int .i64 r,.int .i64 wd,.int .i64 m0,.int .u64 sd] 24)).alloc (by simp) (.cells #[.int .i64 p0,.int .i64 p1] 57)
 have hx00:=heap_alloc_new w (.cells #[.int .i64 b,.int .i64 r,.int .i64 wd,.int .i64 m0,.int .u64 sd] 24)
 have hx0:=(Below.heap_alloc (w.alloc (.cells #[.int .i64 b,.int .i64 r,.int .i64 wd,.int .i64 m0,.int .u64 sd] 24)) (.cells #[.int .i64 p0,.int .i64 p1] 57) _ (lt_of_block hx00)).trans hx00
 clear hx00
 have hx1:=heap_alloc_new (w.alloc (.cells #[.int .i64 b,.int .i64 r,.int .i64 wd,.int .i64 m0,.int .u64 sd] 24)) (.cells #[.int .i64 p0,.int .i64 p1] 57)
 rw [World.size_alloc] at hx1
 generalize hX : (w.alloc (.cells #[.int .i64 b,.int .i64 r,.int .i64 wd,.int .i64 m0,.int .u64 sd] 24)).alloc (.cells #[.int .i64 p0,.int .i64 p1] 57) = X at *
 have HB0:=Lib.hid hb1
 have A:=Lib.hid (show ∀ w',Below X.heap.size X w' → w'.cell? ⟨w.heap.size + 1,0,none⟩ = some (.int .i64 p0) ∧ w'.cell? ⟨w.heap.size + 1,1,none⟩ = some (.int .i64 p1) from fun w' hb =>
  ⟨(hb.cell (p:=⟨w.heap.size + 1,0,none⟩) (lt_of_block hx1)).trans ((cell_of_row _ _ _ _ _ _ hx1).trans rfl),(hb.cell (p:=⟨w.heap.size + 1,1,none⟩) (lt_of_block hx1)).trans ((cell_of_row _ _ _ _ _ _ hx1).trans rfl)⟩)
 have X0:=Lib.hid (show ∀ w',Below X.heap.size X w' → w'.heap[w.heap.size]? = some (.cells #[.int .i64 b,.int .i64 r,.int .i64 wd,.int .i64 m0,.int .u64 sd] 24 (0,0)) from fun w' hb => (hb.block _ (lt_of_block hx0)).trans hx0)
 clear hx0 hx1 hb1
 have hz60:=zero60
 have hz63:=S02.zero30
 have hz64:=zero64
 go_enter Tryz.func6,Tryz.ntmps6
 go_wp2_with fail
 clear hX
 refine (KW.out _ HB0.out).mono ?_
 rintro e w1 ⟨rfl,hb⟩
 have HB1:=Lib.hid (HB0.out.then hb)
 have HXB:=Lib.hid hb
 clear hb
 obtain ⟨len,hlen⟩ : ∃ q,l.length = q:=⟨_,rfl⟩
 have HLN:=Lib.hid hlen
 rw [hlen]
 clear hlen
 have HL1:=Lib.hid (HL.out.below HB1.out)
 go_wp2_with fail
 go_loopw [8,9,10] (fun v u _ wr => ∃ n : Nat,n ≤ 12 ∧ n ≤ len ∧ u = .int .i64 (n : Int) ∧ Hid (wr.ownsRow w1.heap.size 42 5 v n (ocells ((l.take n).map cutOp))) ∧ Hid (Below w1.heap.size w1 wr)) (fun _ u _ _ => 13 - (intOf u).toNat)
 case atStart => exact ⟨0,by omega,by omega,rfl,Lib.hid (World.ownsRow_nil _ _ _ _),Lib.hid (Below.refl _ _)⟩
 case round =>
  obtain ⟨n,hn,hnl,rfl,hown,hbw⟩:=hrel
  by_cases hgo : n < len ∧ n < 12
  ·
   obtain ⟨hlt,h25⟩:=hgo
   have hltI : (n : Int) < len:=by omega
   have h25I : (n : Int) < 12:=by omega
   have HN25:=Lib.hid h25
   have HNL:=Lib.hid hlt
   obtain ⟨o,ho⟩ : ∃ o,l[n]? = some o:=⟨l[n]'(by rw [HLN.out]; exact hlt),List.getElem?_eq_getElem _⟩
   obtain ⟨k,off,rfl,hk,d0,d1,d2,d3,d4⟩:=HL1.out.below hbw.out n o ho
   have HTK:=Lib.hid (cut_take ho)
   clear ho hk
   go_upto_region 8 with fail
   have hco : cutOp o = { o with d:=o.d.tmod 16384 }:=rfl
   generalize ho2 : o.d.tmod 16384 = dd at *
   have HCO:=Lib.hid hco
   clear hco d0 d1 d2 d3 d4
   have hbx:=(Below.refl wr.heap.size wr).alloc (Nat.le_refl _) (.cells #[.int .i64 o.kind,.int .i64 o.h,.int .i64 o.o,.int .u64 o.key,.int .i64 dd] 42)
   have hx:=heap_alloc_new wr (.cells #[.int .i64 o.kind,.int .i64 o.h,.int .i64 o.o,.int .u64 o.key,.int .i64 dd] 42)
   have HOW:=Lib.hid (hown.out.alloc (.cells #[.int .i64 o.kind,.int .i64 o.h,.int .i64 o.o,.int .u64 o.key,.int .i64 dd] 42))
   generalize hX : wr.alloc (.cells #[.int .i64 o.kind,.int .i64 o.h,.int .i64 o.o,.int .u64 o.key,.int .i64 dd] 42) = X2 at *
   have HBX:=Lib.hid (hbw.out.then hbx)
   have e0 : X2.cell? ⟨wr.heap.size,0,none⟩ = some (.int .i64 o.kind):=(cell_of_row _ _ _ _ _ _ hx).trans rfl
   have e1 : X2.cell? ⟨wr.heap.size,1,none⟩ = some (.int .i64 o.h):=(cell_of_row _ _ _ _ _ _ hx).trans rfl
   have e2 : X2.cell? ⟨wr.heap.size,2,none⟩ = some (.int .i64 o.o):=(cell_of_row _ _ _ _ _ _ hx).trans rfl
   have e3 : X2.cell? ⟨wr.heap.size,3,none⟩ = some (.int .u64 o.key):=(cell_of_row _ _ _ _ _ _ hx).trans rfl
   have e4 : X2.cell? ⟨wr.heap.size,4,none⟩ = some (.int .i64 dd):=(cell_of_row _ _ _ _ _ _ hx).trans rfl
   clear hbx hx hX hown
   obtain ⟨i1,hi1,hy0,hy1,hy2⟩:=info_parts info42
   have hwb : w1.heap.size ≤ (X2.alloc (.cells #[.int .i64 o.kind,.int .i64 o.h,.int .i64 o.o,.int .u64 o.key,.int .i64 dd] 42)).heap.size:=by have:=HBX.out.size; simp; omega
   go_wp2_with (at_builtin; refine wpList_append_own_at _ rfl (.tmp 45) (.tmp 47) 25 rfl w1.heap.size 42 i1 _ 5 40 Tryz.underlying25 hi1 hy0 hy1 hy2 rfl (by decide) _ _ _ rfl (HOW.out.alloc _) ⟨X2.heap.size,0,none⟩ 1 1 (ocells [⟨o.kind,o.h,o.o,o.key,dd⟩]) rfl rfl (news_o X2 ⟨o.kind,o.h,o.o,o.key,dd⟩) (ocells_one _) (by unfold maxLen; omega) (by omega) hwb ?_; intro v7 w7 hown7 hg7 _ _)
   have HO7:=Lib.hid hown7
   have HB7:=Lib.hid ((HBX.out.alloc HBX.out.size (.cells #[.int .i64 o.kind,.int .i64 o.h,.int .i64 o.o,.int .u64 o.key,.int .i64 dd] 42)).grown hg7 hwb (fun r e => (ownsRow_g HOW.out e).1))
   clear hown7 hg7 hwb HOW HBX
   go_wp2_with fail
   go_roundw
   case rel => exact ⟨n + 1,HN25.out,HNL.out,by go_num,by rw [HTK.out,HCO.out,ocells_append]; exact HO7,HB7⟩
   case measure => simp [intOf]; omega
  ·
   have htk:=take12 hn (by rw [HLN.out]; exact hnl) (by rw [HLN.out]; exact hgo)
   rw [htk] at hown
   have HF12:=Lib.hid (show ((l.take 12).map cutOp).length ≤ 12 by rw [List.length_map,List.length_take]; omega)
   have hln : n = ((l.take 12).map cutOp).length:=by rw [← htk,List.length_map,List.length_take,HLN.out]; omega
   rw [hln] at hown
   clear hln
   go_upto_region 4 with fail
   go_cut [34] (fun q wx => q = .bool false ∧ wx = wr)
   case first =>
    by_cases hlt : n < len
    ·
     have hltI : (n : Int) < len:=by omega
     have h25 : ¬ ((n : Int) < 12):=by omega
     go_wp2_with fail
     go_meet
     exact ⟨rfl,rfl⟩
    ·
     have hltI : ¬ ((n : Int) < len):=by omega
     go_wp2_with fail
     go_meet
     exact ⟨rfl,rfl⟩
   case rest =>
    obtain ⟨rfl,rfl⟩:=hcut
    clear hgo hn hnl htk HLN HL1 HL
    generalize (l.take 12).map cutOp = fl at *
    obtain ⟨p',cap',rfl,hops⟩:=opsAt_own hown.out
    clear hown
    have TXC:=Lib.hid (HXB.out.then hbw.out)
    have HBC:=Lib.hid (HB1.out.then hbw.out)
    have KP2:=Lib.hid (KP.out _ HBC.out p' fl cap' hops)
    have hx0:=X0.out _ TXC.out
    have c0 : wc.cell? ⟨w.heap.size,0,none⟩ = some (.int .i64 b):=(cell_of_row _ _ _ _ _ _ hx0).trans rfl
    have c1 : wc.cell? ⟨w.heap.size,1,none⟩ = some (.int .i64 r):=(cell_of_row _ _ _ _ _ _ hx0).trans rfl
    have c2 : wc.cell? ⟨w.heap.size,2,none⟩ = some (.int .i64 wd):=(cell_of_row _ _ _ _ _ _ hx0).trans rfl
    have c3 : wc.cell? ⟨w.heap.size,3,none⟩ = some (.int .i64 m0):=(cell_of_row _ _ _ _ _ _ hx0).trans rfl
    have c4 : wc.cell? ⟨w.heap.size,4,none⟩ = some (.int .u64 sd):=(cell_of_row _ _ _ _ _ _ hx0).trans rfl
    clear hx0 hops KP KW X0 hbw HB1 HXB HB0
    go_wp2_with fail
    refine KP2.out.mono ?_
    rintro e wP ⟨x,B,a,m,S,rfl,hW,hS,hsz1,hsz2,hb⟩
    have HB2:=Lib.hid (HBC.out.then hb)
    have HXP:=Lib.hid (TXC.out.then hb)
    have HW:=Lib.hid hW
    have HS:=Lib.hid hS
    clear c0 c1 c2 c3 c4 hb hW hS hsz1 hsz2 KP2 HBC TXC
    have ht25 : fl.take 25 = fl:=List.take_of_length_le (by have:=HF12.out; omega)
    rw [ht25] at HW HS
    clear ht25
    have d0:=(A.out _ HXP.out).1
    have d1:=(A.out _ HXP.out).2
    have KH1:=Lib.hid (fun w => handle_any p0 w)
    have KH2:=Lib.hid (fun w => handle_any p1 w)
    have hg3:=hd_lt p0
    have hh3:=hd_lt p1
    generalize hd p0 = g at *
    generalize hd p1 = h at *
    have HG3:=Lib.hid hg3
    have HH3:=Lib.hid hh3
    go_wp2_with fail
    refine (KH1.out _).mono ?_
    rintro e w' ⟨rfl,rfl⟩
    go_wp2_with fail
    refine (KH2.out _).mono ?_
    rintro e wP ⟨rfl,rfl⟩
    clear d0 d1 A HXP KH1 KH2
    have hbnd:=bound12 HF12.out
    have hinv:=inv_play HC.out H6.out _ fl rfl
    have hfit:=hinv.fit.mono hbnd
    obtain ⟨sg1,hs1⟩ : ∃ s,S[g]? = some s:=⟨_,List.getElem?_eq_getElem (by rw [HW.out.three]; exact hg3)⟩
    obtain ⟨sh1,hs2⟩ : ∃ s,S[h]? = some s:=⟨_,List.getElem?_eq_getElem (by rw [HW.out.three]; exact hh3)⟩
    have hm2 : c.mode ≠ 2:=by rw [HM.out]; decide
    have hCg:=(hinv.rel _ hg3).not2 hm2
    have hCh:=(hinv.rel _ hh3).not2 hm2
    rw [← HS.out,map_getD hs1] at hCg
    rw [← HS.out,map_getD hs2] at hCh
    have hFg:=hfit.rowG (by decide) g
    have hFh:=hfit.rowG (by decide) h
    have hzg : FitL 549755813888 (cellsOf c 0 (rowG (playG c fl) g)):=(stack_fit hm2 H6.out hFg (by decide) _ (List.mem_of_getElem? (stackOf_get c _ 0 (by omega)))).mono (by decide)
    have hzh : FitL 549755813888 (cellsOf c 0 (rowG (playG c fl) h)):=(stack_fit hm2 H6.out hFh (by decide) _ (List.mem_of_getElem? (stackOf_get c _ 0 (by omega)))).mono (by decide)
    have hlz : (cellsOf c 0 (rowG (playG c fl) g)).length ≤ 1024:=stack_lens HC.out _ (List.mem_of_getElem? (stackOf_get c (rowG (playG c fl) g) 0 (by omega)))
    have hvf:=inn_fit HC.out hzg hzh hlz
    have KL:=fun (w' : World) (hb' : Below wP.heap.size wP w') => line_inner (HW.out.keep hb').agg (HT.out.below (HB2.out.then hb')) (show g < 20 by omega) (show h < 20 by omega) hs1 hs2 HM.out (by rw [hCg]; exact stackOf_get c _ 0 (by omega)) (by rw [hCh]; exact stackOf_get c _ 0 (by omega)) (fun y hy => by have:=hzg y hy; omega) (fun y hy => by have:=hzh y hy; omega) (inn_fits HC.out hzg hzh hlz) hvf
    have HIX:=Lib.hid (fun hx => inner_exact H6.out hx (rowG (playG c fl) g) (rowG (playG c fl) h))
    have HIS:=Lib.hid (fun hx => inner_sketch HC.out H6.out hx (rowG (playG c fl) g) (rowG (playG c fl) h))
    have KPG:=Lib.hid (fun (w' : World) (hb' : Below wP.heap.size wP w') => plain_any (HW.out.keep hb') g hg3)
    have KPH:=Lib.hid (fun (w' : World) (hb' : Below wP.heap.size wP w') => plain_any (HW.out.keep hb') h hh3)
    have HKG:=Lib.hid (show ∀ w',Below wP.heap.size wP w' → ∀ j,j < 64 → w'.cell? ⟨x,6 + g * 64 + j,none⟩ = some (.int .i64 ((rowG (playG c fl) g).getD j 0)) from fun w' hb j hj => by
     have:=(HW.out.keep hb).key (i:=64 * g + j) (by omega)
     rw [← rowG_getD (playG c fl) g j hj,show 6 + (64 * g + j) = 6 + g * 64 + j by omega] at this
     exact this)
    have HKH:=Lib.hid (show ∀ w',Below wP.heap.size wP w' → ∀ j,j < 64 → w'.cell? ⟨x,6 + h * 64 + j,none⟩ = some (.int .i64 ((rowG (playG c fl) h).getD j 0)) from fun w' hb j hj => by
     have:=(HW.out.keep hb).key (i:=64 * h + j) (by omega)
     rw [← rowG_getD (playG c fl) h j hj,show 6 + (64 * h + j) = 6 + h * 64 + j by omega] at this
     exact this)
    have HCL:=Lib.hid (fun (w' : World) (hb' : Below wP.heap.size wP w') => (HW.out.keep hb').cells)
    have HFG:=Lib.hid hFg
    have HFH:=Lib.hid hFh
    have HVF:=Lib.hid hvf
    unfold ReadPost at KL
    generalize hiv : innL c 0 (cellsOf c 0 (rowG (playG c fl) g)) (cellsOf c 0 (rowG (playG c fl) h)) = iv at *
    clear hiv hbnd hinv hfit hs1 hs2 hm2 hCg hCh hFg hFh hzg hzh hlz hvf HS HW
    generalize rowG (playG c fl) g = F at *
    generalize rowG (playG c fl) h = G at *
    have KT1:=Lib.hid (fun w => text_any ((g : Int) + 1) (i64_handle (by omega)) w)
    have KT2:=Lib.hid (fun w => text_any ((h : Int) + 1) (i64_handle (by omega)) w)
    have hL:=numLine2 vInner ((g : Int) + 1) ((h : Int) + 1)
    rw [vInner_sp] at hL
    simp only [hL] at KL
    have z1:=numT_size ((g : Int) + 1) ⟨by omega,by omega⟩
    have z2:=numT_size ((h : Int) + 1) ⟨by omega,by omega⟩
    have hfr:=wide_front (numT iv)
    have hsz5 : 5 < (bWide ++ numT iv).size:=by
     have:=numT_pos iv
     rw [ByteArray.size_append]
     show 5 < 5 + _
     omega
    obtain ⟨xx,hxx⟩ : ∃ z,bWide ++ numT iv = z:=⟨_,rfl⟩
    rw [hxx] at hfr hsz5
    simp only [hxx] at KL
    have HXX:=Lib.hid hxx
    clear hxx
    generalize numT ((g : Int) + 1) = s1 at *
    generalize numT ((h : Int) + 1) = s2 at *
    have n1 : ¬ 9223372036854775807 < 6 + s1.size:=by omega
    have n2 : ¬ 9223372036854775807 < 6 + s1.size + 1:=by omega
    have n3 : ¬ 9223372036854775807 < 6 + s1.size + 1 + s2.size:=by omega
    have hwr : IntKind.i64.wrap ((g : Int) + 1) = (g : Int) + 1:=IntWalk.i64_in _ (by omega)
    have hwk : IntKind.i64.wrap ((h : Int) + 1) = (h : Int) + 1:=IntWalk.i64_in _ (by omega)
    have hok1 : (g : Int) < 3:=by omega
    have hok2 : (h : Int) < 3:=by omega
    have HFR:=Lib.hid hfr
    have HS5:=Lib.hid hsz5
    have KL:=Lib.hid KL
    clear hL z1 z2 hfr hsz5 hg3 hh3
    go_upto_region 14 with fail
    have A0:=Lib.hid (show ∀ w',Below wP.heap.size wP w' → w'.cell? ⟨x,0,none⟩ = some (.pointer (some ⟨a,0,none⟩)) from fun w' hb => (HCL.out w' hb).1)
    have T:=Lib.hid (Below.refl wP.heap.size wP).drew
    refine wp_region_held (S:=fun w' => w'.cell? ⟨x,0,none⟩ = some (.pointer (some ⟨a,0,none⟩))) (by kernel_rfl) ?_
    refine wpAnyH_take (i:=0) (oi:=⟨_,_,_,_,_,_⟩) (v:=?vvb0) rfl (by kernel_rfl) (by kernel_rfl) (by kernel_rfl) (fun _ _ _ h => h) (Or.inl ⟨by rfl,?yyb0⟩) (A0.out _ T.out) ?_
    case yyb0 => (intro w' hw'; go_simp; try with_reducible rfl)
    try simp only [Act.put,put3]
    refine wpAnyH_take (i:=1) (oi:=⟨_,_,_,_,_,_⟩) (v:=?vvb1) rfl (by kernel_rfl) (by kernel_rfl) (by kernel_rfl) (fun _ _ _ h => h) (Or.inl ⟨by rfl,?yyb1⟩) (A0.out _ T.out) ?_
    case yyb1 => (intro w' hw'; go_simp; try with_reducible rfl)
    try simp only [Act.put,put3]
    refine wpAnyH_take (i:=2) (oi:=⟨_,_,_,_,_,_⟩) (v:=?vvb2) rfl (by kernel_rfl) (by kernel_rfl) (by kernel_rfl) (fun _ _ _ h => h) (Or.inl ⟨by rfl,?yyb2⟩) (A0.out _ T.out) ?_
    case yyb2 => (intro w' hw'; go_simp; try with_reducible rfl)
    try simp only [Act.put,put3]
    refine wpAnyH_take (i:=3) (oi:=⟨_,_,_,_,_,_⟩) (v:=?vvb3) rfl (by kernel_rfl) (by kernel_rfl) (by kernel_rfl) (fun _ _ _ h => h) (Or.inl ⟨by rfl,?yyb3⟩) (A0.out _ T.out) ?_
    case yyb3 => (intro w' hw'; have c0:=hw'; go_simp; try with_reducible rfl)
    try simp only [Act.put,put3]
    refine wpAnyH_take (i:=4) (oi:=⟨_,_,_,_,_,_⟩) (v:=?vvb4) rfl (by kernel_rfl) (by kernel_rfl) (by kernel_rfl) (fun _ _ _ h => h) (Or.inl ⟨by rfl,?yyb4⟩) (A0.out _ T.out) ?_
    case yyb4 => (intro w' hw'; go_simp; try with_reducible rfl)
    try simp only [Act.put,put3]
    refine wpAnyH_take (i:=5) (oi:=⟨_,_,_,_,_,_⟩) (v:=?vvb5) rfl (by kernel_rfl) (by kernel_rfl) (by kernel_rfl) (fun _ _ _ h => h) (Or.inl ⟨by rfl,?yyb5⟩) (A0.out _ T.out) ?_
    case yyb5 => (intro w' hw'; go_simp; try with_reducible rfl)
    try simp only [Act.put,put3]
    refine wpAnyH_take (i:=9) (oi:=⟨_,_,_,_,_,_⟩) (v:=?vvb9) rfl (by kernel_rfl) (by kernel_rfl) (by kernel_rfl) (fun _ _ _ h => h) (Or.inl ⟨by rfl,?yyb9⟩) (A0.out _ T.out) ?_
    case yyb9 => (intro w' hw'; go_simp; try with_reducible rfl)
    try simp only [Act.put,put3]
    refine wpAnyH_take (i:=10) (oi:=⟨_,_,_,_,_,_⟩) (v:=?vvb10) rfl (by kernel_rfl) (by kernel_rfl) (by kernel_rfl) (fun _ _ _ h => h) (Or.inl ⟨by rfl,?yyb10⟩) (A0.out _ T.out) ?_
    case yyb10 => (intro w' hw'; go_simp; try with_reducible rfl)
    try simp only [Act.put,put3]
    refine wpAnyH_ready (rs:=[6]) (by kernel_rfl) (by simp) ?_
    refine AllReadyH.cons (o:=⟨_,_,_,_,_,_⟩) rfl (fun K hK => ?_) AllReadyH.nil
    go_simp
    with_reducible refine (KT1.out _).mono ?_
    rintro e w4 ⟨rfl,hb⟩
    have T:=Lib.hid (T.out.then hb)
    clear hb
    refine hK.out _ _ (A0.out _ T.out) (fun hHeld => ?_)
    clear hK K hHeld
    try simp only [Act.put,put3]
    refine wpAnyH_take (i:=7) (oi:=⟨_,_,_,_,_,_⟩) (v:=?vvb7) rfl (by kernel_rfl) (by kernel_rfl) (by kernel_rfl) (fun _ _ _ h => h) (Or.inl ⟨by rfl,?yyb7⟩) (A0.out _ T.out) ?_
    case yyb7 => (intro w' hw'; go_simp; try with_reducible rfl)
    try simp only [Act.put,put3]
    refine wpAnyH_take (i:=8) (oi:=⟨_,_,_,_,_,_⟩) (v:=?vvb8) rfl (by kernel_rfl) (by kernel_rfl) (by kernel_rfl) (fun _ _ _ h => h) (Or.inl ⟨by rfl,?yyb8⟩) (A0.out _ T.out) ?_
    case yyb8 => (intro w' hw'; go_simp; try with_reducible rfl)
    try simp only [Act.put,put3]
    refine wpAnyH_ready (rs:=[11]) (by kernel_rfl) (by simp) ?_
    refine AllReadyH.cons (o:=⟨_,_,_,_,_,_⟩) rfl (fun K hK => ?_) AllReadyH.nil
    go_simp
    with_reducible refine (KT2.out _).mono ?_
    rintro e w4 ⟨rfl,hb⟩
    have T:=Lib.hid (T.out.then hb)
    clear hb
    refine hK.out _ _ (A0.out _ T.out) (fun hHeld => ?_)
    clear hK K hHeld
    try simp only [Act.put,put3]
    refine wpAnyH_take (i:=12) (oi:=⟨_,_,_,_,_,_⟩) (v:=?vvb12) rfl (by kernel_rfl) (by kernel_rfl) (by kernel_rfl) (fun _ _ _ h => h) (Or.inl ⟨by rfl,?yyb12⟩) (A0.out _ T.out) ?_
    case yyb12 => (intro w' hw'; go_simp; try with_reducible rfl)
    try simp only [Act.put,put3]
    refine wpAnyH_ready (rs:=[13]) (by kernel_rfl) (by simp) ?_
    refine AllReadyH.cons (o:=⟨_,_,_,_,_,_⟩) rfl (fun K hK => ?_) AllReadyH.nil
    go_simp
    with_reducible refine (KL.out _ T.out).mono ?_
    rintro e w5 ⟨rfl,hA5,hb5⟩
    have T:=Lib.hid (T.out.then hb5)
    clear hA5 hb5
    refine hK.out _ _ (A0.out _ T.out) (fun hHeld => ?_)
    clear hK K hHeld
    try simp only [Act.put,put3]
    refine wpAnyH_take (i:=14) (oi:=⟨_,_,_,_,_,_⟩) (v:=?vvb14) rfl (by kernel_rfl) (by kernel_rfl) (by kernel_rfl) (fun _ _ _ h => h) (Or.inl ⟨by rfl,?yyb14⟩) (A0.out _ T.out) ?_
    case yyb14 => (intro w' hw'; go_simp; try with_reducible rfl)
    try simp only [Act.put,put3]
    refine wpAnyH_take (i:=15) (oi:=⟨_,_,_,_,_,_⟩) (v:=?vvb15) rfl (by kernel_rfl) (by kernel_rfl) (by kernel_rfl) (fun _ _ _ h => h) (Or.inl ⟨by rfl,?yyb15⟩) (A0.out _ T.out) ?_
    case yyb15 => (intro w' hw'; go_simp; try with_reducible rfl)
    try simp only [Act.put,put3]
    refine wpAnyH_take (i:=16) (oi:=⟨_,_,_,_,_,_⟩) (v:=?vvb16) rfl (by kernel_rfl) (by kernel_rfl) (by kernel_rfl) (fun _ _ _ h => h) (Or.inl ⟨by rfl,?yyb16⟩) (A0.out _ T.out) ?_
    case yyb16 => (intro w' hw'; go_simp; try with_reducible rfl)
    try simp only [Act.put,put3]
    refine wpAnyH_take (i:=17) (oi:=⟨_,_,_,_,_,_⟩) (v:=?vvb17) rfl (by kernel_rfl) (by kernel_rfl) (by kernel_rfl) (fun _ _ _ h => h) (Or.inl ⟨by rfl,?yyb17⟩) (A0.out _ T.out) ?_
    case yyb17 => (intro w' hw'; go_simp; try with_reducible rfl)
    try simp only [Act.put,put3]
    refine wpAnyH_take (i:=18) (oi:=⟨_,_,_,_,_,_⟩) (v:=?vvb18) rfl (by kernel_rfl) (by kernel_rfl) (by kernel_rfl) (fun _ _ _ h => h) (Or.inl ⟨by rfl,?yyb18⟩) (A0.out _ T.out) ?_
    case yyb18 => (intro w' hw'; go_simp; try with_reducible rfl)
    try simp only [Act.put,put3]
    refine wpAnyH_done (by kernel_rfl) ?_ _
    clear A0 KL KT1 KT2 n1 n2 n3 hwr hwk
    have T5:=Lib.hid T.out
    obtain ⟨W5,hW5⟩ : ∃ z : World,z = w5:=⟨_,rfl⟩
    subst hW5
    cases hpg : plainF F with
    | false =>
     have KG:=KPG.out _ T5.out
     rw [hpg] at KG
     have KG:=Lib.hid KG
     have hs5 : (5 : Int) < ((xx.size : Nat) : Int):=by have:=HS5.out; omega
     have hs5n : 5 ≤ xx.size:=by have:=HS5.out; omega
     have hfr:=HFR.out
     have hfw : bWide = ⟨#[119,105,100,101,32]⟩:=rfl
     rw [hfw] at hfr
     clear HIX HIS KPH KPG HKG HKH HCL HXX
     go_wp2_with fail
     refine KG.out.mono ?_
     rintro e W5 ⟨rfl,rfl⟩
     go_wp2_with fail
     go_ret
     exact ⟨rfl,HB2.out.then T5.out⟩
    | true =>
     cases hph : plainF G with
     | false =>
      have KG:=KPG.out _ T5.out
      rw [hpg] at KG
      have KG:=Lib.hid KG
      have hs5 : (5 : Int) < ((xx.size : Nat) : Int):=by have:=HS5.out; omega
      have hs5n : 5 ≤ xx.size:=by have:=HS5.out; omega
      have hfr:=HFR.out
      have hfw : bWide = ⟨#[119,105,100,101,32]⟩:=rfl
      rw [hfw] at hfr
      clear HIX HIS HKG HKH HCL HXX
      go_wp2_with fail
      refine KG.out.mono ?_
      rintro e W5 ⟨rfl,rfl⟩
      have KH:=KPH.out _ T5.out
      rw [hph] at KH
      have KH:=Lib.hid KH
      go_wp2_with fail
      refine KH.out.mono ?_
      rintro e W5 ⟨rfl,rfl⟩
      go_wp2_with fail
      go_ret
      exact ⟨rfl,HB2.out.then T5.out⟩
     | true =>
      have KG:=KPG.out _ T5.out
      rw [hpg] at KG
      have KG:=Lib.hid KG
      clear HFR HS5
      go_wp2_with fail
      refine KG.out.mono ?_
      rintro e W5 ⟨rfl,rfl⟩
      have KH:=KPH.out _ T5.out
      rw [hph] at KH
      have KH:=Lib.hid KH
      go_wp2_with fail
      refine KH.out.mono ?_
      rintro e W5 ⟨rfl,rfl⟩
      clear KG KH KPG KPH
      have KC:=Lib.hid (fun key (hk : key < 64) w => columns0 c HC.out H6.out key hk w)
      unfold cfgV NewColsN at KC
      have HW5:=Lib.hid (Below.refl W5.heap.size W5)
      have C5:=Lib.hid (show ∀ w',Below W5.heap.size W5 w' → w'.cell? ⟨x,1,none⟩ = some (.int .i64 c.bits) ∧ w'.cell? ⟨x,2,none⟩ = some (.int .i64 c.rows) ∧ w'.cell? ⟨x,3,none⟩ = some (.int .i64 c.width) ∧ w'.cell? ⟨x,4,none⟩ = some (.int .i64 c.mode) ∧ w'.cell? ⟨x,5,none⟩ = some (.int .u64 c.seed) from fun w' hb => (HCL.out _ (T5.out.then hb)).2)
      have hcz:=ColsAt.zero c W5
      have hb6:=(Below.refl W5.heap.size W5).alloc (Nat.le_refl _) (.cells (slc fun _ => .slice none 0 0) 60)
      generalize hZ0 : slc (fun _ => Value.slice none 0 0) = zz at *
      clear hZ0
      go_upto_region 18 with fail
      generalize hX6 : W5.alloc (.cells zz 60) = X6 at *
      clear hX6
      have HCZ:=Lib.hid hcz
      have HB6:=Lib.hid hb6
      clear hcz hb6
      clear hz60 HW5
      go_wp2_with fail
      go_loopw [17] (fun i wr => ∃ n : Nat,n ≤ 64 ∧ i = .int .i64 (n : Int) ∧ Hid (ColsAt c W5.heap.size n wr) ∧ Hid (Below W5.heap.size W5 wr)) (fun i _ => 64 - (intOf i).toNat)
      case atStart => exact ⟨0,Nat.zero_le _,rfl,HCZ,HB6⟩
      case round =>
       obtain ⟨n,hn,rfl,hca,hbw⟩:=hrel
       by_cases hlt : n < 64
       ·
        have hltI : (n : Int) < 64:=by omega
        have hkw : IntKind.u64.wrap (n : Int) = n:=IntWalk.u64_in _ ⟨by omega,by omega⟩
        obtain ⟨c1,c2,c3,c4,c5⟩:=C5.out _ hbw.out
        have HLT:=Lib.hid hlt
        go_upto_region 21 with fail
        go_wp2_with fail
        refine (KC.out n HLT.out _).mono ?_
        rintro e w6 ⟨g6,rfl,hci,hg6,hb⟩
        have HST:=Lib.hid (hca.out.step HLT.out hb hg6 hci)
        have hb7:=(hbw.out.then hb).setCell (p:=⟨W5.heap.size,n,none⟩) (Nat.le_refl _) (.slice (some ⟨g6,0,none⟩) c.rows c.rows)
        have HB7:=Lib.hid hb7
        have hcl:=hca.out.cell HLT.out
        have k0:=(hb.cell (p:=⟨W5.heap.size,n,none⟩) hca.out.lt).trans hcl.1
        have k1:=(hb.frozen (p:=⟨W5.heap.size,n,none⟩) hca.out.lt).trans hcl.2
        obtain ⟨d1,d2,d3,d4,d5⟩:=C5.out _ hb7
        have d0:=HST.out.got (Nat.lt_succ_self n) (by have:=HLT.out; omega)
        clear hci hg6 hb hca hcl c1 c2 c3 c4 c5 hb7
        obtain ⟨g7,d0⟩:=d0
        go_upto_region 22 with fail
        generalize w6.setCell ⟨W5.heap.size,n,none⟩ (.slice (some ⟨g6,0,none⟩) c.rows c.rows) = w7 at *
        go_quiet (fail)
        go_wp2_with fail
        go_roundw
        case rel => exact ⟨n + 1,HLT.out,by go_num,Lib.hid (HST.out.drewN _),Lib.hid (belowN HB7.out _)⟩
        case measure => simp [intOf]; omega
       ·
        have hn64 : n = 64:=by omega
        subst hn64
        have hltI : ¬ ((64 : Nat) : Int) < 64:=by decide
        obtain ⟨V6,hV6⟩ : ∃ z : World,z = wr:=⟨_,rfl⟩
        subst hV6
        obtain ⟨gc,hgc⟩:=hca.out.all
        have HGC:=Lib.hid hgc
        have TC:=Lib.hid (T5.out.then hbw.out)
        have HBC:=Lib.hid (HB2.out.then TC.out)
        have C6:=Lib.hid (show ∀ w',Below V6.heap.size V6 w' → w'.cell? ⟨x,1,none⟩ = some (.int .i64 c.bits) ∧ w'.cell? ⟨x,2,none⟩ = some (.int .i64 c.rows) ∧ w'.cell? ⟨x,3,none⟩ = some (.int .i64 c.width) ∧ w'.cell? ⟨x,4,none⟩ = some (.int .i64 c.mode) ∧ w'.cell? ⟨x,5,none⟩ = some (.int .u64 c.seed) from fun w' hb => C5.out _ (hbw.out.then hb))
        have KF6:=Lib.hid (show ∀ w',Below V6.heap.size V6 w' → ∀ j,j < 64 → w'.cell? ⟨x,6 + g * 64 + j,none⟩ = some (.int .i64 (F.getD j 0)) from fun w' hb => HKG.out w' (TC.out.then hb))
        have KG6:=Lib.hid (show ∀ w',Below V6.heap.size V6 w' → ∀ j,j < 64 → w'.cell? ⟨x,6 + h * 64 + j,none⟩ = some (.int .i64 (G.getD j 0)) from fun w' hb => HKH.out w' (TC.out.then hb))
        have hp0:=((S02.At.new V6 (fun _ => 0) rfl).alloc (.cells (w80 fun _ => 0) 64)).congr (g:=S02.dg (wK F G 0 0)) (fun i _ => dg_zero i)
        have ho0:=(OthAt.zero (V6.alloc (.cells (S02.arr fun _ => 0) 63)) (R:=c.rows) HC.out.r8).congr (g:=oK c F G 0 0) (fun r _ => (oK_zero c F G r).symm)
        have hb8:=((Below.refl V6.heap.size V6).alloc (Nat.le_refl _) (.cells (S02.arr fun _ => 0) 63)).alloc (by simp) (.cells (w80 fun _ => 0) 64)
        rw [World.size_alloc] at ho0
        have HP0:=Lib.hid hp0
        have HO0:=Lib.hid ho0
        have HB8:=Lib.hid hb8
        clear hp0 ho0 hb8 hgc hca hbw hn hlt
        go_upto_region 26 with fail
        generalize (V6.alloc (.cells (S02.arr fun _ => 0) 63)).alloc (.cells (w80 fun _ => 0) 64) = X8 at *
        clear hz63 hz64
        go_wp2_with fail
        go_loopw [20] (fun s wr => ∃ i : Nat,i ≤ 64 ∧ s = .int .i64 (i : Int) ∧ Hid (S02.At wr V6.heap.size (S02.dg (wK F G i 0))) ∧ Hid (OthAt c.rows (oK c F G i 0) (V6.heap.size + 1) wr) ∧ Hid (Below V6.heap.size V6 wr)) (fun s _ => 64 - (intOf s).toNat)
        case atStart => exact ⟨0,Nat.zero_le _,rfl,HP0,HO0,HB8⟩
        case round =>
         clear HP0 HO0 HB8
         obtain ⟨i,hi,rfl,hat,hot,hbw⟩:=hrel
         by_cases hlt : i < 64
         ·
          have hltI : (i : Int) < 64:=by omega
          have HI:=Lib.hid hlt
          go_wp2_with fail
          go_loopw [21] (fun s wr => ∃ k : Nat,k ≤ 64 ∧ s = .int .i64 (k : Int) ∧ Hid (S02.At wr V6.heap.size (S02.dg (wK F G i k))) ∧ Hid (OthAt c.rows (oK c F G i k) (V6.heap.size + 1) wr) ∧ Hid (Below V6.heap.size V6 wr)) (fun s _ => 64 - (intOf s).toNat)
          case atStart => exact ⟨0,Nat.zero_le _,rfl,hat,hot,hbw⟩
          case round =>
           clear hat hot hbw
           obtain ⟨k,hk,rfl,hat,hot,hbw⟩:=hrel
           by_cases hkl : k < 64
           ·
            have hkI : (k : Int) < 64:=by omega
            have HK:=Lib.hid hkl
            have kF:=KF6.out _ hbw.out i HI.out
            have kG:=KG6.out _ hbw.out k hkl
            have NW:=Lib.hid (fun h => wK_none (F:=F) (G:=G) (i:=i) (k:=k) h)
            have NO:=Lib.hid (fun h => fun r => oK_none (c:=c) (F:=F) (G:=G) (i:=i) (k:=k) (r:=r) h)
            have AW:=Lib.hid (show i = k → wK F G i (k + 1) = wK F G i k + F.getD i 0 * G.getD k 0 from fun e => by subst e; exact wK_add F G i)
            have AO:=Lib.hid (fun r h => oK_add (c:=c) (F:=F) (G:=G) (i:=i) (k:=k) (r:=r) h)
            have FA:=Lib.hid (getD_fit HFG.out (by decide) i)
            have FB:=Lib.hid (getD_fit HFH.out (by decide) k)
            generalize hgA : F.getD i 0 = A at *
            generalize hgB : G.getD k 0 = Bv at *
            by_cases hA : A = 0
            ·
             have NW2:=Lib.hid (NW.out (by rw [hA,Int.zero_mul]))
             have NO2:=Lib.hid (NO.out (by rw [hA,Int.zero_mul]))
             rw [hA] at kF
             clear hA
             go_wp2_with fail
             go_roundw
             case rel => exact ⟨k + 1,HK.out,by go_num,by rw [NW2.out]; exact hat,Lib.hid (hot.out.congr fun r _ => (NO2.out r).symm),hbw⟩
             case measure => simp [intOf]; omega
            ·
             have hAb : (A == 0) = false:=by simpa using hA
             by_cases hB : Bv = 0
             ·
              have NW2:=Lib.hid (NW.out (by rw [hB,Int.mul_zero]))
              have NO2:=Lib.hid (NO.out (by rw [hB,Int.mul_zero]))
              rw [hB] at kG
              clear hA hB
              go_wp2_with fail
              go_roundw
              case rel => exact ⟨k + 1,HK.out,by go_num,by rw [NW2.out]; exact hat,Lib.hid (hot.out.congr fun r _ => (NO2.out r).symm),hbw⟩
              case measure => simp [intOf]; omega
             ·
              have hBb : (Bv == 0) = false:=by simpa using hB
              clear hA hB
              have KI1:=Lib.hid (lofC A (by have:=FA.out; omega))
              have KI2:=Lib.hid (lofC Bv (by have:=FB.out; omega))
              have KMU:=Lib.hid (show ∀ w,Calls Tryz.prog 22 #[.agg (S02.arr (S02.dg A)),.agg (S02.arr (S02.dg Bv))] w fun e w' => e = .returned (.agg (S02.arr (S02.dg (A * Bv)))) ∧ Below w.heap.size w w' from fun w => S02.lmul_any A Bv w)
              have P33:=Lib.hid (show ∀ w',Below wr.heap.size wr w' → w'.cell? ⟨x,6 + g * 64 + i,none⟩ = some (.int .i64 A) ∧ w'.cell? ⟨x,6 + h * 64 + k,none⟩ = some (.int .i64 Bv) from fun w' hb => ⟨(KF6.out w' (hbw.out.then hb) i HI.out).trans (by rw [hgA]),(KG6.out w' (hbw.out.then hb) k HK.out).trans (by rw [hgB])⟩)
              generalize hPr : A * Bv = Pr at *
              clear hPr NW NO FA FB
              go_upto_region 33 with fail
              clear kF kG hAb hBb hgA hgB
              go_cut [22] (fun q wx => ∃ kq : Nat,q = .pointer (some ⟨kq,0,none⟩) ∧ Hid (S02.At wx kq (S02.dg Pr)) ∧ wr.heap.size ≤ kq ∧ Hid (Below wr.heap.size wr wx))
              case first =>
               have hz63:=S02.zero30
               have T:=Lib.hid (Below.refl wr.heap.size wr).drew
               refine wp_region_held (S:=fun w' => w'.cell? ⟨x,6 + g * 64 + i,none⟩ = some (.int .i64 A) ∧ w'.cell? ⟨x,6 + h * 64 + k,none⟩ = some (.int .i64 Bv)) (by kernel_rfl) ?_
               refine wpAnyH_take (i:=0) (oi:=⟨_,_,_,_,_,_⟩) (v:=?vvr0) rfl (by kernel_rfl) (by kernel_rfl) (by kernel_rfl) (fun _ _ _ h => h) (Or.inl ⟨by rfl,?yyr0⟩) (P33.out _ T.out) ?_
               case yyr0 => (intro w' hw'; go_simp; try with_reducible rfl)
               try simp only [Act.put,put3]
               refine wpAnyH_take (i:=1) (oi:=⟨_,_,_,_,_,_⟩) (v:=?vvr1) rfl (by kernel_rfl) (by kernel_rfl) (by kernel_rfl) (fun _ _ _ h => h) (Or.inl ⟨by rfl,?yyr1⟩) (P33.out _ T.out) ?_
               case yyr1 => (intro w' hw'; go_simp; try with_reducible rfl)
               try simp only [Act.put,put3]
               refine wpAnyH_take (i:=2) (oi:=⟨_,_,_,_,_,_⟩) (v:=?vvr2) rfl (by kernel_rfl) (by kernel_rfl) (by kernel_rfl) (fun _ _ _ h => h) (Or.inl ⟨by rfl,?yyr2⟩) (P33.out _ T.out) ?_
               case yyr2 => (intro w' hw'; go_simp; try with_reducible rfl)
               try simp only [Act.put,put3]
               refine wpAnyH_take (i:=3) (oi:=⟨_,_,_,_,_,_⟩) (v:=?vvr3) rfl (by kernel_rfl) (by kernel_rfl) (by kernel_rfl) (fun _ _ _ h => h) (Or.inl ⟨by rfl,?yyr3⟩) (P33.out _ T.out) ?_
               case yyr3 => (intro w' hw'; go_simp; try with_reducible rfl)
               try simp only [Act.put,put3]
               refine wpAnyH_take (i:=4) (oi:=⟨_,_,_,_,_,_⟩) (v:=?vvr4) rfl (by kernel_rfl) (by kernel_rfl) (by kernel_rfl) (fun _ _ _ h => h) (Or.inl ⟨by rfl,?yyr4⟩) (P33.out _ T.out) ?_
               case yyr4 => (intro w' hw'; go_simp; try with_reducible rfl)
               try simp only [Act.put,put3]
               refine wpAnyH_take (i:=5) (oi:=⟨_,_,_,_,_,_⟩) (v:=?vvr5) rfl (by kernel_rfl) (by kernel_rfl) (by kernel_rfl) (fun _ _ _ h => h) (Or.inl ⟨by rfl,?yyr5⟩) (P33.out _ T.out) ?_
               case yyr5 => (intro w' hw'; go_simp; try with_reducible rfl)
               try simp only [Act.put,put3]
               refine wpAnyH_take (i:=6) (oi:=⟨_,_,_,_,_,_⟩) (v:=?vvr6) rfl (by kernel_rfl) (by kernel_rfl) (by kernel_rfl) (fun _ _ _ h => h) (Or.inl ⟨by rfl,?yyr6⟩) (P33.out _ T.out) ?_
               case yyr6 => (intro w' hw'; go_simp; try with_reducible rfl)
               try simp only [Act.put,put3]
               refine wpAnyH_take (i:=9) (oi:=⟨_,_,_,_,_,_⟩) (v:=?vvr9) rfl (by kernel_rfl) (by kernel_rfl) (by kernel_rfl) (fun _ _ _ h => h) (Or.inl ⟨by rfl,?yyr9⟩) (P33.out _ T.out) ?_
               case yyr9 => (intro w' hw'; go_simp; try with_reducible rfl)
               try simp only [Act.put,put3]
               refine wpAnyH_take (i:=10) (oi:=⟨_,_,_,_,_,_⟩) (v:=?vvr10) rfl (by kernel_rfl) (by kernel_rfl) (by kernel_rfl) (fun _ _ _ h => h) (Or.inl ⟨by rfl,?yyr10⟩) (P33.out _ T.out) ?_
               case yyr10 => (intro w' hw'; go_simp; try with_reducible rfl)
               try simp only [Act.put,put3]
               refine wpAnyH_take (i:=11) (oi:=⟨_,_,_,_,_,_⟩) (v:=?vvr11) rfl (by kernel_rfl) (by kernel_rfl) (by kernel_rfl) (fun _ _ _ h => h) (Or.inl ⟨by rfl,?yyr11⟩) (P33.out _ T.out) ?_
               case yyr11 => (intro w' hw'; go_simp; try with_reducible rfl)
               try simp only [Act.put,put3]
               refine wpAnyH_take (i:=12) (oi:=⟨_,_,_,_,_,_⟩) (v:=?vvr12) rfl (by kernel_rfl) (by kernel_rfl) (by kernel_rfl) (fun _ _ _ h => h) (Or.inl ⟨by rfl,?yyr12⟩) (P33.out _ T.out) ?_
               case yyr12 => (intro w' hw'; go_simp; try with_reducible rfl)
               try simp only [Act.put,put3]
               refine wpAnyH_take (i:=13) (oi:=⟨_,_,_,_,_,_⟩) (v:=?vvr13) rfl (by kernel_rfl) (by kernel_rfl) (by kernel_rfl) (fun _ _ _ h => h) (Or.inl ⟨by rfl,?yyr13⟩) (P33.out _ T.out) ?_
               case yyr13 => (intro w' hw'; go_simp; try with_reducible rfl)
               try simp only [Act.put,put3]
               refine wpAnyH_take (i:=14) (oi:=⟨_,_,_,_,_,_⟩) (v:=?vvr14) rfl (by kernel_rfl) (by kernel_rfl) (by kernel_rfl) (fun _ _ _ h => h) (Or.inl ⟨by rfl,?yyr14⟩) (P33.out _ T.out) ?_
               case yyr14 => (intro w' hw'; go_simp; try with_reducible rfl)
               try simp only [Act.put,put3]
               refine wpAnyH_take (i:=15) (oi:=⟨_,_,_,_,_,_⟩) (v:=?vvr15) rfl (by kernel_rfl) (by kernel_rfl) (by kernel_rfl) (fun _ _ _ h => h) (Or.inl ⟨by rfl,?yyr15⟩) (P33.out _ T.out) ?_
               case yyr15 => (intro w' hw'; go_simp; try with_reducible rfl)
               try simp only [Act.put,put3]
               refine wpAnyH_take (i:=7) (oi:=⟨_,_,_,_,_,_⟩) (v:=?vvr7) rfl (by kernel_rfl) (by kernel_rfl) (by kernel_rfl) (fun _ _ _ h => h) (Or.inl ⟨by rfl,?yyr7⟩) (P33.out _ T.out) ?_
               case yyr7 => (intro w' hw'; obtain ⟨c1,c2⟩:=hw'; go_simp; try with_reducible rfl)
               try simp only [Act.put,put3]
               refine wpAnyH_take (i:=16) (oi:=⟨_,_,_,_,_,_⟩) (v:=?vvr16) rfl (by kernel_rfl) (by kernel_rfl) (by kernel_rfl) (fun _ _ _ h => h) (Or.inl ⟨by rfl,?yyr16⟩) (P33.out _ T.out) ?_
               case yyr16 => (intro w' hw'; obtain ⟨c1,c2⟩:=hw'; go_simp; try with_reducible rfl)
               try simp only [Act.put,put3]
               refine wpAnyH_ready (rs:=[8,19]) (by kernel_rfl) (by simp) ?_
               refine AllReadyH.cons (o:=⟨_,_,_,_,_,_⟩) rfl (fun K hK => ?_) (AllReadyH.cons (o:=⟨_,_,_,_,_,_⟩) rfl (fun K hK => ?_) AllReadyH.nil)
               ·
                go_simp
                with_reducible refine (KI1.out _).mono ?_
                rintro e w8 ⟨rfl,hb⟩
                have T:=Lib.hid (T.out.then hb)
                clear hb
                refine hK.out _ _ (P33.out _ T.out) (fun hHeld => ?_)
                clear hK K hHeld
                try simp only [Act.put,put3]
                refine wpAnyH_ready (rs:=[17,19]) (by kernel_rfl) (by simp) ?_
                refine AllReadyH.cons (o:=⟨_,_,_,_,_,_⟩) rfl (fun K hK => ?_) (AllReadyH.cons (o:=⟨_,_,_,_,_,_⟩) rfl (fun K hK => ?_) AllReadyH.nil)
                ·
                 go_simp
                 with_reducible refine (KI2.out _).mono ?_
                 rintro e w17 ⟨rfl,hb⟩
                 have T:=Lib.hid (T.out.then hb)
                 clear hb
                 refine hK.out _ _ (P33.out _ T.out) (fun hHeld => ?_)
                 clear hK K hHeld
                 try simp only [Act.put,put3]
                 refine wpAnyH_ready (rs:=[18,19]) (by kernel_rfl) (by simp) ?_
                 refine AllReadyH.cons (o:=⟨_,_,_,_,_,_⟩) rfl (fun K hK => ?_) (AllReadyH.cons (o:=⟨_,_,_,_,_,_⟩) rfl (fun K hK => ?_) AllReadyH.nil)
                 ·
                  go_simp
                  with_reducible refine (KMU.out _).mono ?_
                  rintro e w18 ⟨rfl,hb⟩
                  have T:=Lib.hid (T.out.then hb)
                  clear hb
                  refine hK.out _ _ (P33.out _ T.out) (fun hHeld => ?_)
                  clear hK K hHeld
                  try simp only [Act.put,put3]
                  refine wpAnyH_ready (rs:=[19]) (by kernel_rfl) (by simp) ?_
                  refine AllReadyH.cons (o:=⟨_,_,_,_,_,_⟩) rfl (fun K hK => ?_) AllReadyH.nil
                  go_simp
                  have ZA:=Lib.hid (S02.At.new w18 (fun _ => 0) (k:=w18.heap.size) rfl)
                  have ZL:=Lib.hid T.out.size
                  have T:=Lib.hid (T.out.alloc T.out.size (.cells (S02.arr fun _ => 0) 63))
                  refine hK.out _ _ (P33.out _ T.out) (fun hHeld => ?_)
                  clear hK K hHeld
                  try simp only [Act.put,put3]
                  refine wpAnyH_ready (rs:=[20]) (by kernel_rfl) (by simp) ?_
                  refine AllReadyH.cons (o:=⟨_,_,_,_,_,_⟩) rfl (fun K hK => ?_) AllReadyH.nil
                  rw [if_pos (by rfl)]
                  refine wp_store_row 63 (.tmp 22) (.tmp 167) rfl w18.heap.size (S02.arr (S02.dg Pr)) rfl rfl 63 _ ZA.out (sz63 _) (szz _ _) (S02.arr_one _) ?_
                  have ZA:=Lib.hid (ZA.out.row (S02.dg Pr))
                  have T:=Lib.hid (S02.below_row T.out ZL.out (S02.arr (S02.dg Pr)))
                  refine hK.out _ _ (P33.out _ T.out) (fun hHeld => ?_)
                  clear hK K hHeld
                  try simp only [Act.put,put3]
                  refine wpAnyH_done (by kernel_rfl) ?_ _
                  go_wp2_with fail
                  go_meet
                  exact ⟨_,rfl,ZA,ZL.out,T⟩
                 ·
                  go_simp
                  have ZA:=Lib.hid (S02.At.new w17 (fun _ => 0) (k:=w17.heap.size) rfl)
                  have ZL:=Lib.hid T.out.size
                  have T:=Lib.hid (T.out.alloc T.out.size (.cells (S02.arr fun _ => 0) 63))
                  refine hK.out _ _ (P33.out _ T.out) (fun hHeld => ?_)
                  clear hK K hHeld
                  try simp only [Act.put,put3]
                  refine wpAnyH_ready (rs:=[18]) (by kernel_rfl) (by simp) ?_
                  refine AllReadyH.cons (o:=⟨_,_,_,_,_,_⟩) rfl (fun K hK => ?_) AllReadyH.nil
                  go_simp
                  with_reducible refine (KMU.out _).mono ?_
                  rintro e w18 ⟨rfl,hb⟩
                  have ZA:=Lib.hid (ZA.out.below hb)
                  have T:=Lib.hid (T.out.then hb)
                  clear hb
                  refine hK.out _ _ (P33.out _ T.out) (fun hHeld => ?_)
                  clear hK K hHeld
                  try simp only [Act.put,put3]
                  refine wpAnyH_ready (rs:=[20]) (by kernel_rfl) (by simp) ?_
                  refine AllReadyH.cons (o:=⟨_,_,_,_,_,_⟩) rfl (fun K hK => ?_) AllReadyH.nil
                  rw [if_pos (by rfl)]
                  refine wp_store_row 63 (.tmp 22) (.tmp 167) rfl w17.heap.size (S02.arr (S02.dg Pr)) rfl rfl 63 _ ZA.out (sz63 _) (szz _ _) (S02.arr_one _) ?_
                  have ZA:=Lib.hid (ZA.out.row (S02.dg Pr))
                  have T:=Lib.hid (S02.below_row T.out ZL.out (S02.arr (S02.dg Pr)))
                  refine hK.out _ _ (P33.out _ T.out) (fun hHeld => ?_)
                  clear hK K hHeld
                  try simp only [Act.put,put3]
                  refine wpAnyH_done (by kernel_rfl) ?_ _
                  go_wp2_with fail
                  go_meet
                  exact ⟨_,rfl,ZA,ZL.out,T⟩
                ·
                 go_simp
                 have ZA:=Lib.hid (S02.At.new w8 (fun _ => 0) (k:=w8.heap.size) rfl)
                 have ZL:=Lib.hid T.out.size
                 have T:=Lib.hid (T.out.alloc T.out.size (.cells (S02.arr fun _ => 0) 63))
                 refine hK.out _ _ (P33.out _ T.out) (fun hHeld => ?_)
                 clear hK K hHeld
                 try simp only [Act.put,put3]
                 refine wpAnyH_ready (rs:=[17]) (by kernel_rfl) (by simp) ?_
                 refine AllReadyH.cons (o:=⟨_,_,_,_,_,_⟩) rfl (fun K hK => ?_) AllReadyH.nil
                 go_simp
                 with_reducible refine (KI2.out _).mono ?_
                 rintro e w17 ⟨rfl,hb⟩
                 have ZA:=Lib.hid (ZA.out.below hb)
                 have T:=Lib.hid (T.out.then hb)
                 clear hb
                 refine hK.out _ _ (P33.out _ T.out) (fun hHeld => ?_)
                 clear hK K hHeld
                 try simp only [Act.put,put3]
                 refine wpAnyH_ready (rs:=[18]) (by kernel_rfl) (by simp) ?_
                 refine AllReadyH.cons (o:=⟨_,_,_,_,_,_⟩) rfl (fun K hK => ?_) AllReadyH.nil
                 go_simp
                 with_reducible refine (KMU.out _).mono ?_
                 rintro e w18 ⟨rfl,hb⟩
                 have ZA:=Lib.hid (ZA.out.below hb)
                 have T:=Lib.hid (T.out.then hb)
                 clear hb
                 refine hK.out _ _ (P33.out _ T.out) (fun hHeld => ?_)
                 clear hK K hHeld
                 try simp only [Act.put,put3]
                 refine wpAnyH_ready (rs:=[20]) (by kernel_rfl) (by simp) ?_
                 refine AllReadyH.cons (o:=⟨_,_,_,_,_,_⟩) rfl (fun K hK => ?_) AllReadyH.nil
                 rw [if_pos (by rfl)]
                 refine wp_store_row 63 (.tmp 22) (.tmp 167) rfl w8.heap.size (S02.arr (S02.dg Pr)) rfl rfl 63 _ ZA.out (sz63 _) (szz _ _) (S02.arr_one _) ?_
                 have ZA:=Lib.hid (ZA.out.row (S02.dg Pr))
                 have T:=Lib.hid (S02.below_row T.out ZL.out (S02.arr (S02.dg Pr)))
                 refine hK.out _ _ (P33.out _ T.out) (fun hHeld => ?_)
                 clear hK K hHeld
                 try simp only [Act.put,put3]
                 refine wpAnyH_done (by kernel_rfl) ?_ _
                 go_wp2_with fail
                 go_meet
                 exact ⟨_,rfl,ZA,ZL.out,T⟩
               ·
                go_simp
                have ZA:=Lib.hid (S02.At.new wr.drew (fun _ => 0) (k:=wr.drew.heap.size) rfl)
                have ZL:=Lib.hid T.out.size
                have T:=Lib.hid (T.out.alloc T.out.size (.cells (S02.arr fun _ => 0) 63))
                refine hK.out _ _ (P33.out _ T.out) (fun hHeld => ?_)
                clear hK K hHeld
                try simp only [Act.put,put3]
                refine wpAnyH_ready (rs:=[8]) (by kernel_rfl) (by simp) ?_
                refine AllReadyH.cons (o:=⟨_,_,_,_,_,_⟩) rfl (fun K hK => ?_) AllReadyH.nil
                go_simp
                with_reducible refine (KI1.out _).mono ?_
                rintro e w8 ⟨rfl,hb⟩
                have ZA:=Lib.hid (ZA.out.below hb)
                have T:=Lib.hid (T.out.then hb)
                clear hb
                refine hK.out _ _ (P33.out _ T.out) (fun hHeld => ?_)
                clear hK K hHeld
                try simp only [Act.put,put3]
                refine wpAnyH_ready (rs:=[17]) (by kernel_rfl) (by simp) ?_
                refine AllReadyH.cons (o:=⟨_,_,_,_,_,_⟩) rfl (fun K hK => ?_) AllReadyH.nil
                go_simp
                with_reducible refine (KI2.out _).mono ?_
                rintro e w17 ⟨rfl,hb⟩
                have ZA:=Lib.hid (ZA.out.below hb)
                have T:=Lib.hid (T.out.then hb)
                clear hb
                refine hK.out _ _ (P33.out _ T.out) (fun hHeld => ?_)
                clear hK K hHeld
                try simp only [Act.put,put3]
                refine wpAnyH_ready (rs:=[18]) (by kernel_rfl) (by simp) ?_
                refine AllReadyH.cons (o:=⟨_,_,_,_,_,_⟩) rfl (fun K hK => ?_) AllReadyH.nil
                go_simp
                with_reducible refine (KMU.out _).mono ?_
                rintro e w18 ⟨rfl,hb⟩
                have ZA:=Lib.hid (ZA.out.below hb)
                have T:=Lib.hid (T.out.then hb)
                clear hb
                refine hK.out _ _ (P33.out _ T.out) (fun hHeld => ?_)
                clear hK K hHeld
                try simp only [Act.put,put3]
                refine wpAnyH_ready (rs:=[20]) (by kernel_rfl) (by simp) ?_
                refine AllReadyH.cons (o:=⟨_,_,_,_,_,_⟩) rfl (fun K hK => ?_) AllReadyH.nil
                rw [if_pos (by rfl)]
                refine wp_store_row 63 (.tmp 22) (.tmp 167) rfl wr.drew.heap.size (S02.arr (S02.dg Pr)) rfl rfl 63 _ ZA.out (sz63 _) (szz _ _) (S02.arr_one _) ?_
                have ZA:=Lib.hid (ZA.out.row (S02.dg Pr))
                have T:=Lib.hid (S02.below_row T.out ZL.out (S02.arr (S02.dg Pr)))
                refine hK.out _ _ (P33.out _ T.out) (fun hHeld => ?_)
                clear hK K hHeld
                try simp only [Act.put,put3]
                refine wpAnyH_done (by kernel_rfl) ?_ _
                go_wp2_with fail
                go_meet
                exact ⟨_,rfl,ZA,ZL.out,T⟩
              case rest =>
               obtain ⟨kq,rfl,hpq,hkq,hbq⟩:=hcut
               clear KI1 KI2 KMU P33
               have hot2:=Lib.hid (hot.out.below hbq.out)
               have hat2:=Lib.hid (hat.out.below hbq.out)
               have hbw2:=Lib.hid (hbw.out.then hbq.out)
               have hq1 : V6.heap.size + 1 < kq:=by have:=hot.out.1; omega
               have HQ1:=Lib.hid hq1
               clear hot hat hbw hbq hkq hq1
               by_cases e : i = k
               ·
                have AW2:=Lib.hid (AW.out e)
                have OS2:=Lib.hid (fun r => (oK_same (c:=c) (F:=F) (G:=G) (i:=i) (k:=k) (r:=r) (fun h => h.1 e)).symm)
                have heI : ((i : Int) == (k : Int)) = true:=by rw [e]; exact beq_self_eq_true _
                have KPL:=Lib.hid (plusC (wK F G i k) Pr)
                have HEQ:=Lib.hid e
                clear e AW AO
                go_wp2_with (first | (refine wpList_load_row rfl 63 (.tmp 18) rfl V6.heap.size rfl 63 _ _ _ hat2.out Tryz.underlying63 rfl (sz63 _) ?_) | (refine wpList_load_row rfl 63 (.tmp 22) rfl kq rfl 63 _ _ _ hpq.out Tryz.underlying63 rfl (sz63 _) ?_))
                (with_reducible refine (KPL.out _).mono ?_)
                rintro e w5 ⟨rfl,hb5⟩
                have hat3:=Lib.hid (hat2.out.below hb5)
                have hot3:=Lib.hid (hot2.out.below hb5)
                have hbw3:=Lib.hid (hbw2.out.then hb5)
                clear hb5 hat2 hot2 hbw2
                go_wp2_with (refine wpList_store_row rfl 63 (.tmp 18) (.tmp 173) rfl V6.heap.size (S02.arr (S02.dg (wK F G i k + Pr))) rfl rfl 63 _ hat3.out (sz63 _) (szz _ _) (S02.arr_one _) ?_)
                go_roundw
                case rel => exact ⟨k + 1,HK.out,by go_num,by rw [AW2.out]; exact Lib.hid (hat3.out.row _),Lib.hid ((hot3.out.row (by omega) _).congr fun r _ => OS2.out r),Lib.hid (S02.below_row hbw3.out (Nat.le_refl _) _)⟩
                case measure => simp [intOf]; omega
               ·
                have heI : ((i : Int) == (k : Int)) = false:=by simp; omega
                have WS2:=Lib.hid (wK_same (F:=F) (G:=G) e)
                have OS2:=Lib.hid (fun n (h : ¬ c.col 0 n i = c.col 0 n k) => oK_same (c:=c) (F:=F) (G:=G) (i:=i) (k:=k) (r:=n) (fun h2 => h h2.2))
                have OA2:=Lib.hid (fun n (h : c.col 0 n i = c.col 0 n k) => AO.out n ⟨e,h⟩)
                have hom:=Lib.hid (hot2.out.congr (g:=mixO c F G i k 0) fun r _ => (mixO_zero c F G i k r).symm)
                have HNE:=Lib.hid e
                clear AW AO hot2 e
                go_wp2_with fail
                go_loopw [23] (fun s wr => ∃ n : Nat,n ≤ c.rows ∧ s = .int .i64 (n : Int) ∧ Hid (S02.At wr V6.heap.size (S02.dg (wK F G i k))) ∧ Hid (S02.At wr kq (S02.dg Pr)) ∧ Hid (OthAt c.rows (mixO c F G i k n) (V6.heap.size + 1) wr) ∧ Hid (Below V6.heap.size V6 wr)) (fun s _ => c.rows - (intOf s).toNat)
                case atStart => exact ⟨0,Nat.zero_le _,rfl,hat2,hpq,hom,hbw2⟩
                case round =>
                 clear hat2 hpq hom hbw2
                 obtain ⟨n,hn,rfl,hat,hpq,hom,hbw⟩:=hrel
                 obtain ⟨c1,c2,c3,c4,c5⟩:=C6.out _ hbw.out
                 by_cases hnl : n < c.rows
                 ·
                  have hnI : (n : Int) < (c.rows : Int):=by omega
                  have hn8 : (n : Int) < 8:=by have:=HC.out.r8; omega
                  have HN:=Lib.hid hnl
                  obtain ⟨e1,e2⟩:=HGC.out _ hbw.out i HI.out
                  obtain ⟨e3,e4⟩:=HGC.out _ hbw.out k HK.out
                  have e2:=e2 n hnl
                  have e4:=e4 n hnl
                  go_upto_region 39 with fail
                  clear c1 c2 c3 c4 c5 hn hnl
                  by_cases hc : c.col 0 n i = c.col 0 n k
                  ·
                   rw [hc] at e2
                   have OA3:=Lib.hid (OA2.out n hc)
                   generalize c.col 0 n k = yy at e2 e4
                   clear hc OA2 OS2
                   go_cut [195] (fun q wx => q = .bool true ∧ Hid (S02.At wx V6.heap.size (S02.dg (wK F G i k))) ∧ Hid (S02.At wx kq (S02.dg Pr)) ∧ Hid (OthAt c.rows (mixO c F G i k n) (V6.heap.size + 1) wx) ∧ Hid (Below V6.heap.size V6 wx))
                   case first =>
                    go_quiet (fail)
                    go_wp2_with fail
                    go_meet
                    exact ⟨rfl,Lib.hid (hat.out.draw _),Lib.hid (hpq.out.draw _),Lib.hid (hom.out.drewN _),Lib.hid (belowN hbw.out _)⟩
                   case rest =>
                    clear hat hpq hom hbw e1 e2 e3 e4
                    obtain ⟨rfl,hat,hpq,hom,hbw⟩:=hcut
                    go_upto_region 40 with fail
                    have KPL:=Lib.hid (plusC (oK c F G i k n) Pr)
                    have SP:=Lib.hid (show ∀ w',Below wc.heap.size wc w' → S02.At w' kq (S02.dg Pr) from fun w' hb => hpq.out.below hb)
                    have T:=Lib.hid (Below.refl wc.heap.size wc).drew
                    refine wp_region_held (S:=fun w' => S02.At w' kq (S02.dg Pr)) (by kernel_rfl) ?_
                    refine wpAnyH_take (i:=0) (oi:=⟨_,_,_,_,_,_⟩) (v:=?vvs0) rfl (by kernel_rfl) (by kernel_rfl) (by kernel_rfl) (fun _ _ _ h => h) (Or.inl ⟨by rfl,?yys0⟩) (SP.out _ T.out) ?_
                    case yys0 => (intro w' hw'; go_simp; try with_reducible rfl)
                    try simp only [Act.put,put3]
                    refine wpAnyH_take (i:=1) (oi:=⟨_,_,_,_,_,_⟩) (v:=?vvs1) rfl (by kernel_rfl) (by kernel_rfl) (by kernel_rfl) (fun _ _ _ h => h) (Or.inl ⟨by rfl,?yys1⟩) (SP.out _ T.out) ?_
                    case yys1 => (intro w' hw'; go_simp; try with_reducible rfl)
                    try simp only [Act.put,put3]
                    refine wpAnyH_take (i:=2) (oi:=⟨_,_,_,_,_,_⟩) (v:=?vvs2) rfl (by kernel_rfl) (by kernel_rfl) (by kernel_rfl) (fun _ _ _ h => h) (Or.inl ⟨by rfl,?yys2⟩) (SP.out _ T.out) ?_
                    case yys2 => (intro w' hw'; go_simp; try with_reducible rfl)
                    try simp only [Act.put,put3]
                    refine wpAnyH_take (i:=4) (oi:=⟨_,_,_,_,_,_⟩) (v:=.agg (lc Pr).toArray) rfl (by kernel_rfl) (by kernel_rfl) (by kernel_rfl) (fun _ _ _ h => h) (yieldsIf_load_mid (by rfl) 63 (.tmp 22) rfl kq 0 rfl (lc Pr) _ (fun w' hw' => at_range hw') Tryz.underlying63 rfl (szl _)) (SP.out _ T.out) ?_
                    try simp only [Act.put,put3]
                    rw [lc_arr]
                    refine wpAnyH_ready (rs:=[3]) (by kernel_rfl) (by simp) ?_
                    refine AllReadyH.cons (o:=⟨_,_,_,_,_,_⟩) rfl (fun K hK => ?_) AllReadyH.nil
                    rw [if_pos (by rfl)]
                    refine wp_load_mid 63 (.tmp 198) rfl (V6.heap.size + 1) (n * 10) rfl (lc (mixO c F G i k n n)) _ ((hom.out.below T.out).2 n HN.out).1 Tryz.underlying63 rfl (szl _) ?_
                    rw [lc_arr,mixO_here]
                    refine hK.out _ _ (SP.out _ T.out) (fun hHeld => ?_)
                    clear hK K hHeld
                    try simp only [Act.put,put3]
                    refine wpAnyH_ready (rs:=[5]) (by kernel_rfl) (by simp) ?_
                    refine AllReadyH.cons (o:=⟨_,_,_,_,_,_⟩) rfl (fun K hK => ?_) AllReadyH.nil
                    go_simp
                    with_reducible refine (KPL.out _).mono ?_
                    rintro e w5 ⟨rfl,hb⟩
                    have T:=Lib.hid (T.out.then hb)
                    clear hb
                    refine hK.out _ _ (SP.out _ T.out) (fun hHeld => ?_)
                    clear hK K hHeld
                    try simp only [Act.put,put3]
                    refine wpAnyH_take (i:=6) (oi:=⟨_,_,_,_,_,_⟩) (v:=?vvs6) rfl (by kernel_rfl) (by kernel_rfl) (by kernel_rfl) (fun _ _ _ h => h) (Or.inl ⟨by rfl,?yys6⟩) (SP.out _ T.out) ?_
                    case yys6 => (intro w' hw'; go_simp; try with_reducible rfl)
                    try simp only [Act.put,put3]
                    refine wpAnyH_ready (rs:=[7]) (by kernel_rfl) (by simp) ?_
                    refine AllReadyH.cons (o:=⟨_,_,_,_,_,_⟩) rfl (fun K hK => ?_) AllReadyH.nil
                    rw [if_pos (by rfl)]
                    refine wp_store_mid 63 (.tmp 202) (.tmp 201) rfl (V6.heap.size + 1) (n * 10) (S02.arr (S02.dg (oK c F G i k n + Pr))) rfl rfl (by rw [S02.arr_size]; exact ((hom.out.below T.out).2 n HN.out).2) (sz63 _) (S02.arr_one _) ?_
                    refine hK.out _ _ (At.cells (SP.out _ T.out) (by have:=HQ1.out; omega) _ _) (fun hHeld => ?_)
                    clear hK K hHeld
                    try simp only [Act.put,put3]
                    refine wpAnyH_done (by kernel_rfl) ?_ _
                    go_wp2_with fail
                    go_roundw
                    case rel => exact ⟨n + 1,HN.out,by go_num,Lib.hid (At.cells (hat.out.below T.out) (by omega) _ _),Lib.hid (At.cells (SP.out _ T.out) (by have:=HQ1.out; omega) _ _),Lib.hid (((hom.out.below T.out).set n (oK c F G i k n + Pr)).congr fun r _ => by show (if r = n then oK c F G i k n + Pr else mixO c F G i k n r) = _; rw [← OA3.out]; exact mixO_step c F G i k n r),Lib.hid (below_setCells (V6.heap.size + 1) (Nat.le_succ _) _ _ _ (hbw.out.then T.out))⟩
                    case measure => have:=HN.out; simp [intOf]; omega
                  ·
                   have hcb : (((c.col 0 n i : Nat) : Int) == ((c.col 0 n k : Nat) : Int)) = false:=by simp; omega
                   have OS3:=Lib.hid (OS2.out n hc)
                   generalize c.col 0 n i = yi at e2 hcb
                   generalize c.col 0 n k = yk at e4 hcb
                   clear hc OS2 OA2
                   go_quiet (fail)
                   go_wp2_with fail
                   go_roundw
                   case rel => exact ⟨n + 1,HN.out,by go_num,Lib.hid (hat.out.draw _),Lib.hid (hpq.out.draw _),Lib.hid ((hom.out.drewN _).congr fun r _ => mixO_skip OS3.out r),Lib.hid (belowN hbw.out _)⟩
                   case measure => have:=HN.out; simp [intOf]; omega
                 ·
                  have hnI : ¬ ((n : Int) < (c.rows : Int)):=by omega
                  have HNR:=Lib.hid (show n = c.rows by omega)
                  clear hn hnl
                  go_wp2_with fail
                  go_roundw
                  case rel => exact ⟨k + 1,HK.out,by go_num,by rw [WS2.out]; exact hat,Lib.hid (hom.out.congr fun r hr => mixO_all (by have:=HNR.out; omega)),hbw⟩
                  case measure => simp [intOf]; omega
           ·
            have hk64 : k = 64:=by omega
            subst hk64
            have hltI : ¬ ((64 : Nat) : Int) < 64:=by decide
            clear hk hkl
            go_wp2_with fail
            go_roundw
            case rel => exact ⟨i + 1,HI.out,by go_num,by rw [wK_row F G i HI.out]; exact hat,Lib.hid (hot.out.congr fun r _ => (oK_row c F G i r).symm),hbw⟩
            case measure => simp [intOf]; omega
         ·
          have hi64 : i = 64:=by omega
          subst hi64
          have hltI : ¬ ((64 : Nat) : Int) < 64:=by decide
          have hot2:=Lib.hid (hot.out.congr (g:=oR c F G) fun r _ => oK_end c F G r)
          rw [wK_end] at hat
          clear hi hlt hot
          obtain ⟨V8,hV8⟩ : ∃ z : World,z = wr:=⟨_,rfl⟩
          subst hV8
          have hz63:=S02.zero30
          have r0 : V8.rangeAt (V6.heap.size + 1) 0 (lc (oR c F G 0)):=by have:=(hot2.out.2 0 HC.out.r1).1; rwa [Nat.zero_mul] at this
          have HL0:=Lib.hid (S02.At.new V8 (fun _ => 0) (k:=V8.heap.size) rfl)
          have HV8:=Lib.hid (show V6.heap.size + 1 < V8.heap.size from hot2.out.1)
          have hl9:=Lib.hid (HL0.out.row (S02.dg (lst (oR c F G) 1)))
          have hat9:=Lib.hid ((hat.out.alloc (.cells (S02.arr fun _ => 0) 63)).row_other (show V6.heap.size ≠ V8.heap.size by have:=HV8.out; omega) (S02.arr (S02.dg (lst (oR c F G) 1))))
          have hot9:=Lib.hid ((hot2.out.below ((Below.refl V8.heap.size V8).alloc (Nat.le_refl _) (.cells (S02.arr fun _ => 0) 63))).row (show V6.heap.size + 1 ≠ V8.heap.size by have:=HV8.out; omega) (S02.arr (S02.dg (lst (oR c F G) 1))))
          have hb9:=Lib.hid (S02.below_row (hbw.out.alloc hbw.out.size (.cells (S02.arr fun _ => 0) 63)) (show V6.heap.size ≤ V8.heap.size by have:=HV8.out; omega) (S02.arr (S02.dg (lst (oR c F G) 1))))
          clear hat hot2 hbw
          go_upto_region 42 with (first | (refine wpList_load_mid rfl 63 (.tmp 203) rfl (V6.heap.size + 1) 0 rfl (lc (oR c F G 0)) _ r0 Tryz.underlying63 rfl (szl _) ?_; rw [lc_arr]) | (refine wpList_store_row rfl 63 (.tmp 24) (.tmp 204) rfl V8.heap.size (S02.arr (S02.dg (lst (oR c F G) 1))) rfl rfl 63 _ HL0.out (sz63 _) (szz _ _) (S02.arr_one _) ?_))
          generalize (V8.alloc (.cells (S02.arr fun _ => 0) 63)).setRow V8.heap.size (S02.arr (S02.dg (lst (oR c F G) 1))) = X9 at *
          clear hz63 r0 HL0
          go_wp2_with fail
          go_loopw [25] (fun s wr => ∃ n : Nat,1 ≤ n ∧ n ≤ c.rows ∧ s = .int .i64 (n : Int) ∧ Hid (S02.At wr V8.heap.size (S02.dg (lst (oR c F G) n))) ∧ Hid (S02.At wr V6.heap.size (S02.dg (ownS F G 64))) ∧ Hid (OthAt c.rows (oR c F G) (V6.heap.size + 1) wr) ∧ Hid (Below V6.heap.size V6 wr)) (fun s _ => c.rows - (intOf s).toNat)
          case atStart => exact ⟨1,Nat.le_refl _,HC.out.r1,rfl,hl9,hat9,hot9,hb9⟩
          case round =>
           clear hl9 hat9 hot9 hb9
           obtain ⟨n,h1n,hn,rfl,hl,hat,hot,hbw⟩:=hrel
           obtain ⟨c1,c2,c3,c4,c5⟩:=C6.out _ hbw.out
           by_cases hnl : n < c.rows
           ·
            have hnI : (n : Int) < (c.rows : Int):=by omega
            have hn8 : (n : Int) < 8:=by have:=HC.out.r8; omega
            have HN:=Lib.hid hnl
            have H1:=Lib.hid h1n
            go_upto_region 45 with fail
            clear c1 c2 c3 c4 c5 hn hnl h1n
            have KNE:=Lib.hid (show ∀ w,Calls Tryz.prog 26 #[.agg (S02.arr (S02.dg (lst (oR c F G) n)))] w fun e w' => e = .returned (.agg (S02.arr (S02.dg (-lst (oR c F G) n)))) ∧ Below w.heap.size w w' from fun w => S02.lminus_any _ w)
            have KPL:=Lib.hid (plusC (oR c F G n) (-lst (oR c F G) n))
            have KBE:=Lib.hid (show ∀ w,Calls Tryz.prog 25 #[.agg (S02.arr (S02.dg (oR c F G n + -lst (oR c F G) n)))] w fun e w' => e = .returned (.bool (decide (oR c F G n + -lst (oR c F G) n < 0))) ∧ Below w.heap.size w w' from fun w => S02.lbelow_any _ w (oR_mid HFG.out HFH.out n))
            have HST:=Lib.hid (lst_succ (oR c F G) H1.out)
            have SP:=Lib.hid (show ∀ w',Below wr.heap.size wr w' → S02.At w' V8.heap.size (S02.dg (lst (oR c F G) n)) ∧ w'.rangeAt (V6.heap.size + 1) (n * 10) (lc (oR c F G n)) from fun w' hb => ⟨hl.out.below hb,range_below (hot.out.2 n HN.out).1 hb hot.out.1⟩)
            go_cut [220] (fun q wx => q = .bool (decide (oR c F G n + -lst (oR c F G) n < 0)) ∧ Hid (Below wr.heap.size wr wx))
            case first =>
             have T:=Lib.hid (Below.refl wr.heap.size wr).drew
             refine wp_region_held (S:=fun w' => S02.At w' V8.heap.size (S02.dg (lst (oR c F G) n)) ∧ w'.rangeAt (V6.heap.size + 1) (n * 10) (lc (oR c F G n))) (by kernel_rfl) ?_
             refine wpAnyH_take (i:=0) (oi:=⟨_,_,_,_,_,_⟩) (v:=?vvq0) rfl (by kernel_rfl) (by kernel_rfl) (by kernel_rfl) (fun _ _ _ h => h) (Or.inl ⟨by rfl,?yyq0⟩) (SP.out _ T.out) ?_
             case yyq0 => (intro w' hw'; go_simp; try with_reducible rfl)
             try simp only [Act.put,put3]
             refine wpAnyH_take (i:=1) (oi:=⟨_,_,_,_,_,_⟩) (v:=?vvq1) rfl (by kernel_rfl) (by kernel_rfl) (by kernel_rfl) (fun _ _ _ h => h) (Or.inl ⟨by rfl,?yyq1⟩) (SP.out _ T.out) ?_
             case yyq1 => (intro w' hw'; go_simp; try with_reducible rfl)
             try simp only [Act.put,put3]
             refine wpAnyH_take (i:=2) (oi:=⟨_,_,_,_,_,_⟩) (v:=.agg (lc (oR c F G n)).toArray) rfl (by kernel_rfl) (by kernel_rfl) (by kernel_rfl) (fun _ _ _ h => h) (yieldsIf_load_mid (by rfl) 63 (.tmp 215) rfl (V6.heap.size + 1) (n * 10) rfl (lc (oR c F G n)) _ (fun w' hw' => hw'.2) Tryz.underlying63 rfl (szl _)) (SP.out _ T.out) ?_
             try simp only [Act.put,put3]
             rw [lc_arr]
             refine wpAnyH_take (i:=3) (oi:=⟨_,_,_,_,_,_⟩) (v:=.agg (lc (lst (oR c F G) n)).toArray) rfl (by kernel_rfl) (by kernel_rfl) (by kernel_rfl) (fun _ _ _ h => h) (yieldsIf_load_mid (by rfl) 63 (.tmp 24) rfl V8.heap.size 0 rfl (lc (lst (oR c F G) n)) _ (fun w' hw' => at_range hw'.1) Tryz.underlying63 rfl (szl _)) (SP.out _ T.out) ?_
             try simp only [Act.put,put3]
             rw [lc_arr]
             refine wpAnyH_ready (rs:=[4]) (by kernel_rfl) (by simp) ?_
             refine AllReadyH.cons (o:=⟨_,_,_,_,_,_⟩) rfl (fun K hK => ?_) AllReadyH.nil
             go_simp
             with_reducible refine (KNE.out _).mono ?_
             rintro e w5a ⟨rfl,hb⟩
             have T:=Lib.hid (T.out.then hb)
             clear hb
             refine hK.out _ _ (SP.out _ T.out) (fun hHeld => ?_)
             clear hK K hHeld
             try simp only [Act.put,put3]
             refine wpAnyH_ready (rs:=[5]) (by kernel_rfl) (by simp) ?_
             refine AllReadyH.cons (o:=⟨_,_,_,_,_,_⟩) rfl (fun K hK => ?_) AllReadyH.nil
             go_simp
             with_reducible refine (KPL.out _).mono ?_
             rintro e w5b ⟨rfl,hb⟩
             have T:=Lib.hid (T.out.then hb)
             clear hb
             refine hK.out _ _ (SP.out _ T.out) (fun hHeld => ?_)
             clear hK K hHeld
             try simp only [Act.put,put3]
             refine wpAnyH_ready (rs:=[6]) (by kernel_rfl) (by simp) ?_
             refine AllReadyH.cons (o:=⟨_,_,_,_,_,_⟩) rfl (fun K hK => ?_) AllReadyH.nil
             go_simp
             with_reducible refine (KBE.out _).mono ?_
             rintro e w5d ⟨rfl,hb⟩
             have T:=Lib.hid (T.out.then hb)
             clear hb
             refine hK.out _ _ (SP.out _ T.out) (fun hHeld => ?_)
             clear hK K hHeld
             try simp only [Act.put,put3]
             refine wpAnyH_done (by kernel_rfl) ?_ _
             go_wp2_with fail
             go_meet
             exact ⟨rfl,T⟩
            case rest =>
             obtain ⟨rfl,hb⟩:=hcut
             have hl2:=Lib.hid (hl.out.below hb.out)
             have hat2:=Lib.hid (hat.out.below hb.out)
             have hot2:=Lib.hid (hot.out.below hb.out)
             have hbw2:=Lib.hid (hbw.out.then hb.out)
             clear hl hat hot hbw hb SP KNE KPL KBE
             by_cases hlt : oR c F G n < lst (oR c F G) n
             ·
              have hdb : decide (oR c F G n + -lst (oR c F G) n < 0) = true:=decide_eq_true (by omega)
              have HST2:=Lib.hid (HST.out.trans (if_pos hlt))
              have hr0:=(hot2.out.2 n HN.out).1
              rw [hdb]
              clear hdb hlt
              go_wp2_with (first | (refine wpList_load_mid rfl 63 (.tmp 222) rfl (V6.heap.size + 1) (n * 10) rfl (lc (oR c F G n)) _ hr0 Tryz.underlying63 rfl (szl _) ?_; rw [lc_arr]) | (refine wpList_store_row rfl 63 (.tmp 24) (.tmp 223) rfl V8.heap.size (S02.arr (S02.dg (oR c F G n))) rfl rfl 63 _ hl2.out (sz63 _) (szz _ _) (S02.arr_one _) ?_))
              go_roundw
              case rel => exact ⟨n + 1,by omega,HN.out,by go_num,by rw [HST2.out]; exact Lib.hid (hl2.out.row _),Lib.hid (hat2.out.row_other (by have:=HV8.out; omega) _),Lib.hid (hot2.out.row (by have:=HV8.out; omega) _),Lib.hid (S02.below_row hbw2.out (by have:=HV8.out; omega) _)⟩
              case measure => have:=HN.out; simp [intOf]; omega
             ·
              have hdb : decide (oR c F G n + -lst (oR c F G) n < 0) = false:=decide_eq_false (by omega)
              have HST2:=Lib.hid (HST.out.trans (if_neg hlt))
              rw [hdb]
              clear hdb hlt
              go_wp2_with fail
              go_roundw
              case rel => exact ⟨n + 1,by omega,HN.out,by go_num,by rw [HST2.out]; exact hl2,hat2,hot2,hbw2⟩
              case measure => have:=HN.out; simp [intOf]; omega
           ·
            have hnI : ¬ ((n : Int) < (c.rows : Int)):=by omega
            have hnr : n = c.rows:=by omega
            rw [hnr] at hl
            clear hn hnl h1n hnr hot
            have hs40:=numT_size40 iv HVF.out
            have hcat:=Lib.hid (show (⟨#[119,105,100,101,32]⟩ : ByteArray) ++ numT iv = xx from HXX.out)
            have hnot : ¬ (9223372036854775807 < bWide.size + (numT iv).size):=cat_fits (m:=10) (by decide) hs40 (by omega)
            have hnot5 : ¬ (9223372036854775807 < 5 + (numT iv).size):=hnot
            have hbe:=HBC.out.then hbw.out
            have HBE:=Lib.hid hbe
            have KX:=fun w => exact0 c HC.out w
            unfold cfgV at KX
            unfold bWide at hnot
            cases hx : c.exact 0 with
            | true =>
             rw [hx] at KX
             have KX:=Lib.hid KX
             have KT:=Lib.hid (show ∀ w,Calls Tryz.prog 27 #[.agg (S02.arr (S02.dg (ownS F G 64)))] w fun e w' => e = .returned (.string (numT iv)) ∧ Below w.heap.size w w' from fun w => by
              have h:=HIX.out hx
              have q:=S02.ltext_any (ownS F G 64) w (h ▸ HVF.out)
              rw [textV_eq] at q
              rw [h]
              exact q)
             clear hbe HXX HIS HIX hx hs40
             generalize numT iv = s at *
             have hseq : (xx.toList == ((⟨#[119,105,100,101,32]⟩ : ByteArray) ++ s).toList) = true:=by
              have e : (⟨#[119,105,100,101,32]⟩ : ByteArray) ++ s = xx:=hcat.out
              rw [e]; exact beq_self_eq_true _
             have HSEQ:=Lib.hid hseq
             clear hcat
             go_wp2_with fail
             refine (KX.out _).mono ?_
             rintro e w9 ⟨rfl,hb⟩
             have hat3:=Lib.hid (hat.out.below hb)
             have HB9:=Lib.hid (HBE.out.then hb)
             clear hb c1 c2 c3 c4 c5
             go_wp2_with (refine wpList_load63_g (by rfl) (.tmp 18) rfl V6.heap.size rfl _ hat3.out ?_)
             (with_reducible refine (KT.out _).mono ?_)
             rintro e wA ⟨rfl,hb⟩
             have HBA:=Lib.hid (HB9.out.then hb)
             clear hb
             go_wp2_with fail
             go_ret
             exact ⟨by first | rfl | (rw [HSEQ.out]; rfl) | (simp only [HSEQ.out]; rfl),HBA.out⟩
            | false =>
             rw [hx] at KX
             have KX:=Lib.hid KX
             have KPL:=Lib.hid (plusC (ownS F G 64) (lst (oR c F G) c.rows))
             have KT:=Lib.hid (show ∀ w,Calls Tryz.prog 27 #[.agg (S02.arr (S02.dg (ownS F G 64 + lst (oR c F G) c.rows)))] w fun e w' => e = .returned (.string (numT iv)) ∧ Below w.heap.size w w' from fun w => by
              have h:=(HIS.out hx).trans (congrArg (fun z => ownS F G 64 + z) (oR_lst c F G c.rows))
              have q:=S02.ltext_any (ownS F G 64 + lst (oR c F G) c.rows) w (h ▸ HVF.out)
              rw [textV_eq] at q
              rw [h]
              exact q)
             clear hbe HXX HIS HIX hx hs40
             generalize numT iv = s at *
             have hseq : (xx.toList == ((⟨#[119,105,100,101,32]⟩ : ByteArray) ++ s).toList) = true:=by
              have e : (⟨#[119,105,100,101,32]⟩ : ByteArray) ++ s = xx:=hcat.out
              rw [e]; exact beq_self_eq_true _
             have HSEQ:=Lib.hid hseq
             clear hcat
             go_wp2_with fail
             refine (KX.out _).mono ?_
             rintro e w9 ⟨rfl,hb⟩
             have hat3:=Lib.hid (hat.out.below hb)
             have hl3:=Lib.hid (hl.out.below hb)
             have HB9:=Lib.hid (HBE.out.then hb)
             clear hb c1 c2 c3 c4 c5
             go_wp2_with (first | (refine wpList_load63_g (by rfl) (.tmp 18) rfl V6.heap.size rfl _ hat3.out ?_) | (refine wpList_load63_g (by rfl) (.tmp 24) rfl V8.heap.size rfl _ hl3.out ?_))
             (with_reducible refine (KPL.out _).mono ?_)
             rintro e wA ⟨rfl,hb⟩
             have HBA:=Lib.hid (HB9.out.then hb)
             clear hb
             go_wp2_with fail
             (with_reducible refine (KT.out _).mono ?_)
             rintro e wB ⟨rfl,hb⟩
             have HBB:=Lib.hid (HBA.out.then hb)
             clear hb
             go_wp2_with fail
             go_ret
             exact ⟨by first | rfl | (rw [HSEQ.out]; rfl) | (simp only [HSEQ.out]; rfl),HBB.out⟩
end Go.Proofs.YtejaocnhekjfiaaGreatDoor
