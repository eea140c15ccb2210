/- Walks and plain laws, part 8: St9 Ag3 Mg Mg2 Fld Mg3 Mg4 Mg5 Wat S02Times. -/
import Derived.Test.YtejaocnhekjfiaaGreatDoorK01
import Derived.Test.YtejaocnhekjfiaaGreatDoorK02
import Derived.Test.YtejaocnhekjfiaaGreatDoorK04
import Derived.Test.YtejaocnhekjfiaaGreatDoorK05
import Derived.Test.YtejaocnhekjfiaaGreatDoorK07
import Derived.RegionTactic
import Derived.BigRegion
import Derived.Deep.RegionHeld3
import Derived.Deep.DeepCutAuto
import Derived.Test.YtejaocnhekjfiaaGreatDoorRows
namespace Go.Proofs.YtejaocnhekjfiaaGreatDoor
open Go.RowKit Go.Shelf
set_option linter.unusedVariables false
set_option linter.unusedSimpArgs false
attribute [local go_sem] Oper.semAt_some
set_option maxRecDepth 100000 in
set_option maxHeartbeats 4000000 in
theorem stupdate_ok {w p q c L C} (h : StackIs w p q c L C) (key : Nat) (hk : key < 2 ^ c.bits) (d : Int) (b D : Int)
   (hf : ∀ zs ∈ C,FitL b zs) (hb : 0 ≤ b) (hd : -D ≤ d ∧ d ≤ D) (hD : 0 ≤ D) (hbD : b + 60 * D ≤ 4611686018427387903) :
   Calls Tryz.prog 81 #[.pointer (some ⟨p,0,none⟩),.int .u64 key,.int .i64 d] w fun e w' =>
     e = .returned (.int .i64 (errOf c d)) ∧ (if errOf c d = 0 then Upd (RowsOf L) w w' ∧ StackIs w' p q c L (updS c key d C (List.range (c.bits + 1))) else Below w.heap.size w w'):=by
 have hc:=h.ok
 have KK:=Lib.hid (fun w => keys_ok c hc 0 (Nat.zero_le _) w)
 have hk64 : key < 18446744073709551616:=by have:=hc.b59; exact Nat.lt_of_lt_of_le hk (Nat.pow_le_pow_right (by decide) (show c.bits ≤ 64 by omega))
 have hb1:=(Below.refl w.heap.size w).alloc (Nat.le_refl _) (.cells #[.int .i64 d] 2)
 have hbl:=heap_alloc_new w (.cells #[.int .i64 d] 2)
 have h1:=h.below hb1
 obtain ⟨cap,d0,d1,d2,d3,d4,d5,hcap,hcap2⟩:=h1.cells
 have HH:=Lib.hid h1
 have HB:=Lib.hid hb1
 have HL:=Lib.hid hbl
 have g0 : decide (2 ^ c.bits ≤ key) = false:=by simpa using hk
 generalize hW0 : 2 ^ c.bits = M at *
 unfold cfgV at KK
 refine (callsIn_wide (n:=9)).1 ?_
 refine callsIn_of_wp_marks Tryz.func81 rfl trivial ?_ rfl
 simp only [Tryz.ntmps81,List.size_toArray,List.length_cons,List.length_nil,Nat.reduceAdd,Nat.reduceSub,Array.replicate_succ,Array.replicate_zero,List.push_toArray,List.append_toArray,List.nil_append,List.cons_append]
 gi_wp2
 refine ⟨trivial,(callsIn_wide.2 (KK.out _)).mono ?_⟩
 rintro e w1 ⟨rfl,hb2⟩
 gi_wp2
 refine ⟨trivial,(callsIn_wide.2 (stat_any p key _)).mono ?_⟩
 rintro e w2 ⟨rfl,hw2⟩
 have hsz1:=hb2.size
 have hsz0:=HB.out.size
 have hch : Chk w w2 p q c L C w.heap.size w1.heap.size d 0:=by
   have hb3 : Below w1.heap.size w1 w2:=by
     rw [hw2]
     exact (((Below.refl _ w1).alloc (Nat.le_refl _) _).alloc (by simp) _).alloc (by simp; omega) _
   have hb4:=hb2.trans (hb3.mono hsz1)
   refine ⟨HH.out.below hb4,(hb4.block _ (lt_of_block HL.out)).trans HL.out,?_,HB.out.trans (hb4.mono hsz0)⟩
   rw [hw2]
   exact (Below.heap_alloc _ _ _ (by simp; omega)).trans ((Below.heap_alloc _ _ _ (by simp)).trans (heap_alloc_new w1 _))
 have hk0 : w2.heap[w1.heap.size + 1]? = some (.cells #[.pointer (some ⟨p,0,none⟩)] 108 (0,0)):=by
   rw [hw2]
   have:=heap_alloc_new (w1.alloc (.cells #[.int .i64 0] 77)) (.cells #[.pointer (some ⟨p,0,none⟩)] 108)
   rw [World.size_alloc] at this
   exact (Below.heap_alloc _ _ _ (by simp)).trans this
 have hk1 : w2.heap[w1.heap.size + 2]? = some (.cells #[.int .u64 key] 22 (0,0)):=by
   rw [hw2]
   have:=heap_alloc_new ((w1.alloc (.cells #[.int .i64 0] 77)).alloc (.cells #[.pointer (some ⟨p,0,none⟩)] 108)) (.cells #[.int .u64 key] 22)
   rw [World.size_alloc,World.size_alloc] at this
   exact this
 have hsz2 : w2.heap.size = w1.heap.size + 3:=by rw [hw2]; simp
 have HCH:=Lib.hid hch; have HK0:=Lib.hid hk0; have HK1:=Lib.hid hk1; have HS:=Lib.hid (And.intro hsz2 (And.intro hsz1 hsz0))
 clear hw2 hch hk0 hk1 hsz2 hsz1 hsz0
 gi_wp2
 clear d0 d1 d2 d3 d4 d5 hcap hcap2
 have hlt:=h.lt
 have hE : ∀ (pre : List (Lvl (c.bits + 1))) (x : Lvl (c.bits + 1)) (W W2 : World),Chk w W p q c L C w.heap.size w1.heap.size d (if pre = [] then 0 else errOf c d) → w2.heap.size ≤ W.heap.size → Below W.heap.size W W2 →
     KeepsFrom w2.heap.size W ((W2.alloc (.cells #[.int .i64 (if pre = [] then 0 else errOf c d),.int .i64 (errOf c d)] 77)).setCell ⟨w1.heap.size,0,none⟩ (.int .i64 (firstOf (if pre = [] then 0 else errOf c d) (errOf c d)))) ∧
     KeepR w2.heap.size (fun k => k = w1.heap.size) W ((W2.alloc (.cells #[.int .i64 (if pre = [] then 0 else errOf c d),.int .i64 (errOf c d)] 77)).setCell ⟨w1.heap.size,0,none⟩ (.int .i64 (firstOf (if pre = [] then 0 else errOf c d) (errOf c d)))) ∧
     (Chk w ((W2.alloc (.cells #[.int .i64 (if pre = [] then 0 else errOf c d),.int .i64 (errOf c d)] 77)).setCell ⟨w1.heap.size,0,none⟩ (.int .i64 (firstOf (if pre = [] then 0 else errOf c d) (errOf c d)))) p q c L C w.heap.size w1.heap.size d (if pre ++ [x] = [] then 0 else errOf c d) ∧
       w2.heap.size ≤ ((W2.alloc (.cells #[.int .i64 (if pre = [] then 0 else errOf c d),.int .i64 (errOf c d)] 77)).setCell ⟨w1.heap.size,0,none⟩ (.int .i64 (firstOf (if pre = [] then 0 else errOf c d) (errOf c d)))).heap.size):=by
   intro pre x W W2 hI hs hb
   have hsz:=HS.out
   have hl5:=lt_of_block HL.out
   have hr:=chk_end (errOf c d) w2.heap.size w2.heap.size hI hb (by omega) (by omega) hs
   have hb':=hb.size
   refine ⟨hr.1,hr.2.1,?_,by simp [World.setCell]; omega⟩
   have h3:=hr.2.2
   have : firstOf (if pre = [] then 0 else errOf c d) (errOf c d) = if pre ++ [x] = [] then 0 else errOf c d:=by
     unfold firstOf
     by_cases hp : pre = []
     · simp [hp]
     · simp [hp]
   rw [this] at h3 ⊢
   exact h3
 refine wpIn_rangeFunc_ownG rfl (by decide) (gf:=168) (lb:=#[.pointer (some ⟨w1.heap.size + 1,0,none⟩),.pointer (some ⟨w1.heap.size + 2,0,none⟩)]) rfl trivial (enters_of Tryz.func168 (by kernel_rfl) rfl)
   (at1_stops _ (fun k => k = w1.heap.size) (w1.heap.size + 1) (w1.heap.size + 2) w2.heap.size key w2 HCH.out.st ((cell_of_row _ _ _ _ _ _ HK0.out).trans rfl) ((cell_of_row _ _ _ _ _ _ HK1.out).trans rfl)
     (by omega) (by omega) (by have:=HS.out; omega) (by have:=HS.out; omega) (by have:=HS.out; omega) (by have:=HS.out; omega) (by have:=HS.out; omega) (by have:=HS.out; omega) (Nat.le_refl _) hk64)
   (fun h k => h.trans k) (fun W l o o' hl ho h1 h2 => ⟨by simp,fun k hk _ => World.putObj_heap_other (by omega)⟩) (Below.refl _ _) (fun _ => rfl)
   (fun pre W => Chk w W p q c L C w.heap.size w1.heap.size d (if pre = [] then 0 else errOf c d) ∧ w2.heap.size ≤ W.heap.size)
   (fun _ _ _ => False)
   (fun pre A B row hs hg hr => ⟨hs.1.grown hg (fun r e => by have:=hr r e; have:=HS.out; exact ⟨by omega,(hr r e).2⟩),Nat.le_trans hs.2 hg.size⟩)
   (fun _ _ _ _ _ hs _ _ => hs)
   ⟨HCH.out,Nat.le_refl _⟩ ?a₁ ?assign ?body ?done ?stop
 case assign =>
   intro l x W K hK
   gi_wp2
   exact hK
 case body =>
   rintro l pre x W ⟨hI,hWs⟩ hlen
   obtain ⟨A,hA⟩ : ∃ A,L[x.1]? = some A:=⟨_,List.getElem?_eq_getElem (by rw [h.len]; exact x.2)⟩
   have hgd : L.getD x.1 ⟨0,0,0⟩ = A:=by rw [List.getD_eq_getElem?_getD,hA]; rfl
   obtain ⟨zs,hz,hl⟩:=hI.st.mem hA
   have hfz:=hf zs (List.mem_of_getElem? hz)
   have hd1 : 1 ≤ 9 - 1 - 1:=by decide
   have c7 : W.cell? ⟨w1.heap.size,0,none⟩ = some (.int .i64 (if pre = [] then 0 else errOf c d)):=(cell_of_row _ _ _ _ _ _ hI.h7).trans rfl
   have c5 : W.cell? ⟨w.heap.size,0,none⟩ = some (.int .i64 d):=(cell_of_row _ _ _ _ _ _ hI.h5).trans rfl
   have hkx : key / 2 ^ x.1 < 2 ^ (c.bits - x.1):=by
     have hx:=x.2
     rw [Nat.div_lt_iff_lt_mul (Nat.pow_pos (by decide)),← Nat.pow_add,Nat.sub_add_cancel (by omega)]
     omega
   have hcast : (key : Int) / 2 ^ x.1 = ((key / 2 ^ x.1 : Nat) : Int):=by push_cast; rfl
   have HI:=Lib.hid hI
   have HF:=Lib.hid hfz
   cases hx : c.exact x.1 with
   | true =>
     obtain ⟨ha,hv⟩:=hl.arr hx
     have K0:=Lib.hid (excheck_ok (ha.below ((Below.refl _ W).drew)) (key / 2 ^ x.1) hkx d (by have:=hfz.getD hb (key / 2 ^ x.1); omega) (by omega))
     simp only [encL,hgd,hv,hcast]
     have FIN:=Lib.hid (fun (W2 : World) (hb : Below W.heap.size W W2) => hE pre x W W2 hI hWs hb)
     clear hE
     generalize key / 2 ^ x.1 = kx at *
     have h7:=HI.out.h7
     have h5:=HI.out.h5
     have T0:=Lib.hid (show W.drew.cell? ⟨w.heap.size,0,none⟩ = some (.int .i64 d) from (cell_of_row W.drew _ _ _ _ _ h5).trans rfl)
     have HNE:=Lib.hid (show w.heap.size ≠ w1.heap.size by have:=HS.out; have:=lt_of_block HL.out; omega)
     clear hcast hkx hl ha hv hI hgd hA hz HH HB HL h1 hb1 hbl KK hb2 hfz c5 HI c7
     generalize errOf c d = er at *
     generalize (if pre = [] then 0 else er) = bad at *
     have c7 : W.drew.cell? ⟨w1.heap.size,0,none⟩ = some (.int .i64 bad):=(cell_of_row W.drew _ _ _ _ _ h7).trans rfl
     gi_wp2
     refine wpIn_region_round (by kernel_rfl) (fun _ _ h => h) (by kernel_rfl) (S:=fun w' => w'.cell? ⟨w.heap.size,0,none⟩ = some (.int .i64 d)) ?_
     refine wpAnyH_take (i:=1) (oi:=⟨_,_,_,_,_,_⟩) (v:=?vv1) rfl (by kernel_rfl) (by kernel_rfl) (by kernel_rfl) (fun _ _ _ h => h) (Or.inl ⟨by rfl,?yy1⟩) T0.out ?_
     case yy1 => (intro w' hw'; go_simp; try with_reducible rfl)
     try simp only [Act.put,List.setIfInBounds_toArray,List.set_cons_zero,List.set_cons_succ]
     refine wpAnyH_take (i:=2) (oi:=⟨_,_,_,_,_,_⟩) (v:=?vv2) rfl (by kernel_rfl) (by kernel_rfl) (by kernel_rfl) (fun _ _ _ h => h) (Or.inl ⟨by rfl,?yy2⟩) T0.out ?_
     case yy2 => (intro w' hw'; go_simp; try with_reducible rfl)
     try simp only [Act.put,List.setIfInBounds_toArray,List.set_cons_zero,List.set_cons_succ]
     refine wpAnyH_take (i:=3) (oi:=⟨_,_,_,_,_,_⟩) (v:=?vv3) rfl (by kernel_rfl) (by kernel_rfl) (by kernel_rfl) (fun _ _ _ h => h) (Or.inl ⟨by rfl,?yy3⟩) T0.out ?_
     case yy3 => (intro w' hw'; go_simp; try with_reducible rfl)
     try simp only [Act.put,List.setIfInBounds_toArray,List.set_cons_zero,List.set_cons_succ]
     refine wpAnyH_ready (rs:=[0,4]) (by kernel_rfl) (by simp) ?_
     refine AllReadyH.cons (o:=⟨_,_,_,_,_,_⟩) rfl (fun K hK => ?_) (AllReadyH.cons (o:=⟨_,_,_,_,_,_⟩) rfl (fun K hK => ?_) AllReadyH.nil)
     go_simp
     · refine hK.out _ _ T0.out (fun hHeld => ?_)
       clear hK K hHeld
       try simp only [Act.put,List.setIfInBounds_toArray,List.set_cons_zero,List.set_cons_succ]
       refine wpAnyH_ready (rs:=[4]) (by kernel_rfl) (by simp) ?_
       refine AllReadyH.cons (o:=⟨_,_,_,_,_,_⟩) rfl (fun K hK => ?_) AllReadyH.nil
       go_simp
       with_reducible refine K0.out.mono ?_
       rintro e W2 ⟨rfl,hb2⟩
       have hb2:=undrew hb2
       have h7':=(hb2.block _ (lt_of_block h7)).trans h7
       have c7' : W2.cell? ⟨w1.heap.size,0,none⟩ = some (.int .i64 bad):=(cell_of_row _ _ _ _ _ _ h7').trans rfl
       have h7'':=(Below.heap_alloc W2 (.cells #[.int .i64 bad,.int .i64 er] 77) _ (lt_of_block h7')).trans h7'
       have c7'' : (W2.alloc (.cells #[.int .i64 bad,.int .i64 er] 77)).cell? ⟨w1.heap.size,0,none⟩ = some (.int .i64 bad):=(cell_of_row _ _ _ _ _ _ h7'').trans rfl
       have f7'' : (W2.alloc (.cells #[.int .i64 bad,.int .i64 er] 77)).frozen? ⟨w1.heap.size,0,none⟩ = false:=frozen_of_row _ _ _ _ _ h7''
       have hh5:=(hb2.block _ (lt_of_block h5)).trans h5
       have hh5':=(Below.heap_alloc W2 (.cells #[.int .i64 bad,.int .i64 er] 77) _ (lt_of_block hh5)).trans hh5
       have T2:=Lib.hid (show W2.cell? ⟨w.heap.size,0,none⟩ = some (.int .i64 d) from (cell_of_row _ _ _ _ _ _ hh5).trans rfl)
       have T3:=Lib.hid (show (W2.alloc (.cells #[.int .i64 bad,.int .i64 er] 77)).cell? ⟨w.heap.size,0,none⟩ = some (.int .i64 d) from (cell_of_row _ _ _ _ _ _ hh5').trans rfl)
       have T4:=Lib.hid (show ((W2.alloc (.cells #[.int .i64 bad,.int .i64 er] 77)).setCell ⟨w1.heap.size,0,none⟩ (.int .i64 (firstOf bad er))).cell? ⟨w.heap.size,0,none⟩ = some (.int .i64 d) from (cell_of_row _ _ _ _ _ _ ((heap_setCell_other _ _ _ _ HNE.out).trans hh5')).trans rfl)
       have HE:=Lib.hid (FIN.out W2 hb2)
       clear hh5 hh5' h7' h7'' hb2
       refine hK.out _ _ T2.out (fun hHeld => ?_)
       clear hK K hHeld
       try simp only [Act.put,List.setIfInBounds_toArray,List.set_cons_zero,List.set_cons_succ]
       refine wpAnyH_ready (rs:=[5]) (by kernel_rfl) (by simp) ?_
       refine AllReadyH.cons (o:=⟨_,_,_,_,_,_⟩) rfl (fun K hK => ?_) AllReadyH.nil
       go_simp
       refine hK.out _ _ T3.out (fun hHeld => ?_)
       clear hK K hHeld
       try simp only [Act.put,List.setIfInBounds_toArray,List.set_cons_zero,List.set_cons_succ]
       refine wpAnyH_ready (rs:=[6]) (by kernel_rfl) (by simp) ?_
       refine AllReadyH.cons (o:=⟨_,_,_,_,_,_⟩) rfl (fun K hK => ?_) AllReadyH.nil
       go_simp
       refine (first_any _ _ _ _ _ (heap_alloc_new _ _)).mono ?_
       rintro e W3 ⟨rfl,rfl⟩
       refine hK.out _ _ T3.out (fun hHeld => ?_)
       clear hK K hHeld
       try simp only [Act.put,List.setIfInBounds_toArray,List.set_cons_zero,List.set_cons_succ]
       refine wpAnyH_ready (rs:=[7]) (by kernel_rfl) (by simp) ?_
       refine AllReadyH.cons (o:=⟨_,_,_,_,_,_⟩) rfl (fun K hK => ?_) AllReadyH.nil
       go_simp
       refine hK.out _ _ T4.out (fun hHeld => ?_)
       clear hK K hHeld
       try simp only [Act.put,List.setIfInBounds_toArray,List.set_cons_zero,List.set_cons_succ]
       refine wpAnyH_done (by kernel_rfl) ?_ _
       exact HE.out
     · go_simp
       with_reducible refine K0.out.mono ?_
       rintro e W2 ⟨rfl,hb2⟩
       have hb2:=undrew hb2
       have h7':=(hb2.block _ (lt_of_block h7)).trans h7
       have c7' : W2.cell? ⟨w1.heap.size,0,none⟩ = some (.int .i64 bad):=(cell_of_row _ _ _ _ _ _ h7').trans rfl
       have h7'':=(Below.heap_alloc W2 (.cells #[.int .i64 bad,.int .i64 er] 77) _ (lt_of_block h7')).trans h7'
       have c7'' : (W2.alloc (.cells #[.int .i64 bad,.int .i64 er] 77)).cell? ⟨w1.heap.size,0,none⟩ = some (.int .i64 bad):=(cell_of_row _ _ _ _ _ _ h7'').trans rfl
       have f7'' : (W2.alloc (.cells #[.int .i64 bad,.int .i64 er] 77)).frozen? ⟨w1.heap.size,0,none⟩ = false:=frozen_of_row _ _ _ _ _ h7''
       have hh5:=(hb2.block _ (lt_of_block h5)).trans h5
       have hh5':=(Below.heap_alloc W2 (.cells #[.int .i64 bad,.int .i64 er] 77) _ (lt_of_block hh5)).trans hh5
       have T2:=Lib.hid (show W2.cell? ⟨w.heap.size,0,none⟩ = some (.int .i64 d) from (cell_of_row _ _ _ _ _ _ hh5).trans rfl)
       have T3:=Lib.hid (show (W2.alloc (.cells #[.int .i64 bad,.int .i64 er] 77)).cell? ⟨w.heap.size,0,none⟩ = some (.int .i64 d) from (cell_of_row _ _ _ _ _ _ hh5').trans rfl)
       have T4:=Lib.hid (show ((W2.alloc (.cells #[.int .i64 bad,.int .i64 er] 77)).setCell ⟨w1.heap.size,0,none⟩ (.int .i64 (firstOf bad er))).cell? ⟨w.heap.size,0,none⟩ = some (.int .i64 d) from (cell_of_row _ _ _ _ _ _ ((heap_setCell_other _ _ _ _ HNE.out).trans hh5')).trans rfl)
       have HE:=Lib.hid (FIN.out W2 hb2)
       clear hh5 hh5' h7' h7'' hb2
       refine hK.out _ _ T2.out (fun hHeld => ?_)
       clear hK K hHeld
       try simp only [Act.put,List.setIfInBounds_toArray,List.set_cons_zero,List.set_cons_succ]
       refine wpAnyH_ready (rs:=[0]) (by kernel_rfl) (by simp) ?_
       refine AllReadyH.cons (o:=⟨_,_,_,_,_,_⟩) rfl (fun K hK => ?_) AllReadyH.nil
       go_simp
       refine hK.out _ _ T2.out (fun hHeld => ?_)
       clear hK K hHeld
       try simp only [Act.put,List.setIfInBounds_toArray,List.set_cons_zero,List.set_cons_succ]
       refine wpAnyH_ready (rs:=[5]) (by kernel_rfl) (by simp) ?_
       refine AllReadyH.cons (o:=⟨_,_,_,_,_,_⟩) rfl (fun K hK => ?_) AllReadyH.nil
       go_simp
       refine hK.out _ _ T3.out (fun hHeld => ?_)
       clear hK K hHeld
       try simp only [Act.put,List.setIfInBounds_toArray,List.set_cons_zero,List.set_cons_succ]
       refine wpAnyH_ready (rs:=[6]) (by kernel_rfl) (by simp) ?_
       refine AllReadyH.cons (o:=⟨_,_,_,_,_,_⟩) rfl (fun K hK => ?_) AllReadyH.nil
       go_simp
       refine (first_any _ _ _ _ _ (heap_alloc_new _ _)).mono ?_
       rintro e W3 ⟨rfl,rfl⟩
       refine hK.out _ _ T3.out (fun hHeld => ?_)
       clear hK K hHeld
       try simp only [Act.put,List.setIfInBounds_toArray,List.set_cons_zero,List.set_cons_succ]
       refine wpAnyH_ready (rs:=[7]) (by kernel_rfl) (by simp) ?_
       refine AllReadyH.cons (o:=⟨_,_,_,_,_,_⟩) rfl (fun K hK => ?_) AllReadyH.nil
       go_simp
       refine hK.out _ _ T4.out (fun hHeld => ?_)
       clear hK K hHeld
       try simp only [Act.put,List.setIfInBounds_toArray,List.set_cons_zero,List.set_cons_succ]
       refine wpAnyH_done (by kernel_rfl) ?_ _
       exact HE.out
   | false =>
     obtain ⟨ha,hv⟩:=hl.sk hx
     have K0:=Lib.hid (skcheck_ok (ha.below ((Below.refl _ W).drew)) hc (Nat.le_of_lt_succ x.2) (key / 2 ^ x.1) hkx d ((hfz.mono (by omega)).read (by omega) _ _) (by omega))
     simp only [encL,hgd,hv,hcast]
     have FIN:=Lib.hid (fun (W2 : World) (hb : Below W.heap.size W W2) => hE pre x W W2 hI hWs hb)
     clear hE
     generalize key / 2 ^ x.1 = kx at *
     have h7:=HI.out.h7
     have h5:=HI.out.h5
     have T0:=Lib.hid (show W.drew.cell? ⟨w.heap.size,0,none⟩ = some (.int .i64 d) from (cell_of_row W.drew _ _ _ _ _ h5).trans rfl)
     have HNE:=Lib.hid (show w.heap.size ≠ w1.heap.size by have:=HS.out; have:=lt_of_block HL.out; omega)
     clear hcast hkx hl ha hv hI hgd hA hz HH HB HL h1 hb1 hbl KK hb2 hfz c5 HI c7
     generalize errOf c d = er at *
     generalize (if pre = [] then 0 else er) = bad at *
     have c7 : W.drew.cell? ⟨w1.heap.size,0,none⟩ = some (.int .i64 bad):=(cell_of_row W.drew _ _ _ _ _ h7).trans rfl
     gi_wp2
     refine wpIn_region_round (by kernel_rfl) (fun _ _ h => h) (by kernel_rfl) (S:=fun w' => w'.cell? ⟨w.heap.size,0,none⟩ = some (.int .i64 d)) ?_
     refine wpAnyH_take (i:=1) (oi:=⟨_,_,_,_,_,_⟩) (v:=?vvs1) rfl (by kernel_rfl) (by kernel_rfl) (by kernel_rfl) (fun _ _ _ h => h) (Or.inl ⟨by rfl,?yys1⟩) T0.out ?_
     case yys1 => (intro w' hw'; go_simp; try with_reducible rfl)
     try simp only [Act.put,List.setIfInBounds_toArray,List.set_cons_zero,List.set_cons_succ]
     refine wpAnyH_take (i:=2) (oi:=⟨_,_,_,_,_,_⟩) (v:=?vvs2) rfl (by kernel_rfl) (by kernel_rfl) (by kernel_rfl) (fun _ _ _ h => h) (Or.inl ⟨by rfl,?yys2⟩) T0.out ?_
     case yys2 => (intro w' hw'; go_simp; try with_reducible rfl)
     try simp only [Act.put,List.setIfInBounds_toArray,List.set_cons_zero,List.set_cons_succ]
     refine wpAnyH_take (i:=3) (oi:=⟨_,_,_,_,_,_⟩) (v:=?vvs3) rfl (by kernel_rfl) (by kernel_rfl) (by kernel_rfl) (fun _ _ _ h => h) (Or.inl ⟨by rfl,?yys3⟩) T0.out ?_
     case yys3 => (intro w' hw'; go_simp; try with_reducible rfl)
     try simp only [Act.put,List.setIfInBounds_toArray,List.set_cons_zero,List.set_cons_succ]
     refine wpAnyH_ready (rs:=[0,4]) (by kernel_rfl) (by simp) ?_
     refine AllReadyH.cons (o:=⟨_,_,_,_,_,_⟩) rfl (fun K hK => ?_) (AllReadyH.cons (o:=⟨_,_,_,_,_,_⟩) rfl (fun K hK => ?_) AllReadyH.nil)
     go_simp
     · refine hK.out _ _ T0.out (fun hHeld => ?_)
       clear hK K hHeld
       try simp only [Act.put,List.setIfInBounds_toArray,List.set_cons_zero,List.set_cons_succ]
       refine wpAnyH_ready (rs:=[4]) (by kernel_rfl) (by simp) ?_
       refine AllReadyH.cons (o:=⟨_,_,_,_,_,_⟩) rfl (fun K hK => ?_) AllReadyH.nil
       go_simp
       with_reducible refine K0.out.mono ?_
       rintro e W2 ⟨rfl,hb2⟩
       have hb2:=undrew hb2
       have h7':=(hb2.block _ (lt_of_block h7)).trans h7
       have c7' : W2.cell? ⟨w1.heap.size,0,none⟩ = some (.int .i64 bad):=(cell_of_row _ _ _ _ _ _ h7').trans rfl
       have h7'':=(Below.heap_alloc W2 (.cells #[.int .i64 bad,.int .i64 er] 77) _ (lt_of_block h7')).trans h7'
       have c7'' : (W2.alloc (.cells #[.int .i64 bad,.int .i64 er] 77)).cell? ⟨w1.heap.size,0,none⟩ = some (.int .i64 bad):=(cell_of_row _ _ _ _ _ _ h7'').trans rfl
       have f7'' : (W2.alloc (.cells #[.int .i64 bad,.int .i64 er] 77)).frozen? ⟨w1.heap.size,0,none⟩ = false:=frozen_of_row _ _ _ _ _ h7''
       have hh5:=(hb2.block _ (lt_of_block h5)).trans h5
       have hh5':=(Below.heap_alloc W2 (.cells #[.int .i64 bad,.int .i64 er] 77) _ (lt_of_block hh5)).trans hh5
       have T2:=Lib.hid (show W2.cell? ⟨w.heap.size,0,none⟩ = some (.int .i64 d) from (cell_of_row _ _ _ _ _ _ hh5).trans rfl)
       have T3:=Lib.hid (show (W2.alloc (.cells #[.int .i64 bad,.int .i64 er] 77)).cell? ⟨w.heap.size,0,none⟩ = some (.int .i64 d) from (cell_of_row _ _ _ _ _ _ hh5').trans rfl)
       have T4:=Lib.hid (show ((W2.alloc (.cells #[.int .i64 bad,.int .i64 er] 77)).setCell ⟨w1.heap.size,0,none⟩ (.int .i64 (firstOf bad er))).cell? ⟨w.heap.size,0,none⟩ = some (.int .i64 d) from (cell_of_row _ _ _ _ _ _ ((heap_setCell_other _ _ _ _ HNE.out).trans hh5')).trans rfl)
       have HE:=Lib.hid (FIN.out W2 hb2)
       clear hh5 hh5' h7' h7'' hb2
       refine hK.out _ _ T2.out (fun hHeld => ?_)
       clear hK K hHeld
       try simp only [Act.put,List.setIfInBounds_toArray,List.set_cons_zero,List.set_cons_succ]
       refine wpAnyH_ready (rs:=[5]) (by kernel_rfl) (by simp) ?_
       refine AllReadyH.cons (o:=⟨_,_,_,_,_,_⟩) rfl (fun K hK => ?_) AllReadyH.nil
       go_simp
       refine hK.out _ _ T3.out (fun hHeld => ?_)
       clear hK K hHeld
       try simp only [Act.put,List.setIfInBounds_toArray,List.set_cons_zero,List.set_cons_succ]
       refine wpAnyH_ready (rs:=[6]) (by kernel_rfl) (by simp) ?_
       refine AllReadyH.cons (o:=⟨_,_,_,_,_,_⟩) rfl (fun K hK => ?_) AllReadyH.nil
       go_simp
       refine (first_any _ _ _ _ _ (heap_alloc_new _ _)).mono ?_
       rintro e W3 ⟨rfl,rfl⟩
       refine hK.out _ _ T3.out (fun hHeld => ?_)
       clear hK K hHeld
       try simp only [Act.put,List.setIfInBounds_toArray,List.set_cons_zero,List.set_cons_succ]
       refine wpAnyH_ready (rs:=[7]) (by kernel_rfl) (by simp) ?_
       refine AllReadyH.cons (o:=⟨_,_,_,_,_,_⟩) rfl (fun K hK => ?_) AllReadyH.nil
       go_simp
       refine hK.out _ _ T4.out (fun hHeld => ?_)
       clear hK K hHeld
       try simp only [Act.put,List.setIfInBounds_toArray,List.set_cons_zero,List.set_cons_succ]
       refine wpAnyH_done (by kernel_rfl) ?_ _
       exact HE.out
     · go_simp
       with_reducible refine K0.out.mono ?_
       rintro e W2 ⟨rfl,hb2⟩
       have hb2:=undrew hb2
       have h7':=(hb2.block _ (lt_of_block h7)).trans h7
       have c7' : W2.cell? ⟨w1.heap.size,0,none⟩ = some (.int .i64 bad):=(cell_of_row _ _ _ _ _ _ h7').trans rfl
       have h7'':=(Below.heap_alloc W2 (.cells #[.int .i64 bad,.int .i64 er] 77) _ (lt_of_block h7')).trans h7'
       have c7'' : (W2.alloc (.cells #[.int .i64 bad,.int .i64 er] 77)).cell? ⟨w1.heap.size,0,none⟩ = some (.int .i64 bad):=(cell_of_row _ _ _ _ _ _ h7'').trans rfl
       have f7'' : (W2.alloc (.cells #[.int .i64 bad,.int .i64 er] 77)).frozen? ⟨w1.heap.size,0,none⟩ = false:=frozen_of_row _ _ _ _ _ h7''
       have hh5:=(hb2.block _ (lt_of_block h5)).trans h5
       have hh5':=(Below.heap_alloc W2 (.cells #[.int .i64 bad,.int .i64 er] 77) _ (lt_of_block hh5)).trans hh5
       have T2:=Lib.hid (show W2.cell? ⟨w.heap.size,0,none⟩ = some (.int .i64 d) from (cell_of_row _ _ _ _ _ _ hh5).trans rfl)
       have T3:=Lib.hid (show (W2.alloc (.cells #[.int .i64 bad,.int .i64 er] 77)).cell? ⟨w.heap.size,0,none⟩ = some (.int .i64 d) from (cell_of_row _ _ _ _ _ _ hh5').trans rfl)
       have T4:=Lib.hid (show ((W2.alloc (.cells #[.int .i64 bad,.int .i64 er] 77)).setCell ⟨w1.heap.size,0,none⟩ (.int .i64 (firstOf bad er))).cell? ⟨w.heap.size,0,none⟩ = some (.int .i64 d) from (cell_of_row _ _ _ _ _ _ ((heap_setCell_other _ _ _ _ HNE.out).trans hh5')).trans rfl)
       have HE:=Lib.hid (FIN.out W2 hb2)
       clear hh5 hh5' h7' h7'' hb2
       refine hK.out _ _ T2.out (fun hHeld => ?_)
       clear hK K hHeld
       try simp only [Act.put,List.setIfInBounds_toArray,List.set_cons_zero,List.set_cons_succ]
       refine wpAnyH_ready (rs:=[0]) (by kernel_rfl) (by simp) ?_
       refine AllReadyH.cons (o:=⟨_,_,_,_,_,_⟩) rfl (fun K hK => ?_) AllReadyH.nil
       go_simp
       refine hK.out _ _ T2.out (fun hHeld => ?_)
       clear hK K hHeld
       try simp only [Act.put,List.setIfInBounds_toArray,List.set_cons_zero,List.set_cons_succ]
       refine wpAnyH_ready (rs:=[5]) (by kernel_rfl) (by simp) ?_
       refine AllReadyH.cons (o:=⟨_,_,_,_,_,_⟩) rfl (fun K hK => ?_) AllReadyH.nil
       go_simp
       refine hK.out _ _ T3.out (fun hHeld => ?_)
       clear hK K hHeld
       try simp only [Act.put,List.setIfInBounds_toArray,List.set_cons_zero,List.set_cons_succ]
       refine wpAnyH_ready (rs:=[6]) (by kernel_rfl) (by simp) ?_
       refine AllReadyH.cons (o:=⟨_,_,_,_,_,_⟩) rfl (fun K hK => ?_) AllReadyH.nil
       go_simp
       refine (first_any _ _ _ _ _ (heap_alloc_new _ _)).mono ?_
       rintro e W3 ⟨rfl,rfl⟩
       refine hK.out _ _ T3.out (fun hHeld => ?_)
       clear hK K hHeld
       try simp only [Act.put,List.setIfInBounds_toArray,List.set_cons_zero,List.set_cons_succ]
       refine wpAnyH_ready (rs:=[7]) (by kernel_rfl) (by simp) ?_
       refine AllReadyH.cons (o:=⟨_,_,_,_,_,_⟩) rfl (fun K hK => ?_) AllReadyH.nil
       go_simp
       refine hK.out _ _ T4.out (fun hHeld => ?_)
       clear hK K hHeld
       try simp only [Act.put,List.setIfInBounds_toArray,List.set_cons_zero,List.set_cons_succ]
       refine wpAnyH_done (by kernel_rfl) ?_ _
       exact HE.out
 case stop =>
   rintro Dk cx pre W _ _ hx _
   exact hx.elim
 case done =>
   rintro Dk xs W hDk hxs ⟨hI,hWs⟩ hKm
   clear hE
   have hne : xs ≠ []:=fun e => by rw [e] at hxs; simp at hxs
   rw [if_neg hne] at hI
   have h5:=hI.h5
   have h7:=hI.h7
   have c7 : W.cell? ⟨w1.heap.size,0,none⟩ = some (.int .i64 (errOf c d)):=(cell_of_row _ _ _ _ _ _ h7).trans rfl
   by_cases he : errOf c d = 0
   · have HIF:=Lib.hid (show ∀ w',(if errOf c d = 0 then Upd (RowsOf L) w w' ∧ StackIs w' p q c L (updS c key d C (List.range (c.bits + 1))) else Below w.heap.size w w') = (Upd (RowsOf L) w w' ∧ StackIs w' p q c L (updS c key d C (List.range (c.bits + 1)))) from fun w' => if_pos he)
     have HE0:=Lib.hid he
     rw [he] at c7
     have hE0 : c.mode = 2 → 0 ≤ d:=fun hm => by
       unfold errOf at he
       by_cases hd0 : d < 0
       · rw [if_pos ⟨hm,hd0⟩] at he; simp at he
       · omega
     have HCE:=Lib.hid hE0
     clear hE0 he
     gi_wp2
     refine ⟨trivial,(callsIn_wide.2 (stat_any p key _)).mono ?_⟩
     rintro e w4 ⟨rfl,hw4⟩
     have hb4 : Below W.heap.size W w4:=by
       rw [hw4]; exact ((Below.refl _ W).alloc (Nat.le_refl _) _).alloc (by simp) _
     have hk0 : w4.heap[W.heap.size]? = some (.cells #[.pointer (some ⟨p,0,none⟩)] 108 (0,0)):=by
       rw [hw4]; exact (Below.heap_alloc _ _ _ (by simp)).trans (heap_alloc_new W _)
     have hk1 : w4.heap[W.heap.size + 1]? = some (.cells #[.int .u64 key] 22 (0,0)):=by
       rw [hw4]
       have:=heap_alloc_new (W.alloc (.cells #[.pointer (some ⟨p,0,none⟩)] 108)) (.cells #[.int .u64 key] 22)
       rwa [World.size_alloc] at this
     have hs4 : w4.heap.size = W.heap.size + 2:=by rw [hw4]; simp
     have hlt5:=lt_of_block HL.out
     have hC4 : Chg w4 w4 p q c L C w.heap.size Dk d b:=
       ⟨hI.st.below hb4,(hb4.block _ (lt_of_block h5)).trans h5,(hb4.block _ (lt_of_block hKm)).trans hKm,Upd.refl _ _,hf⟩
     have HC4:=Lib.hid hC4; have HK4:=Lib.hid hk0; have HK5:=Lib.hid hk1; have HB4:=Lib.hid hb4; have HI:=Lib.hid hI
     have HDk:=Lib.hid (lt_of_block hKm)
     have HS4:=Lib.hid hs4
     clear hw4 hk0 hk1 hC4 hb4 h5 h7 c7 hKm hs4
     gi_wp2
     have hS4:=HS4.out
     have hDk4:=HDk.out
     have hnr : ∀ k,W.heap.size ≤ k → ¬ RowsOf L k:=by
       rintro k hk ⟨A,hA,rfl⟩
       have:=(HI.out.st.lt.2.2 A hA).2.2
       omega
     have hltW:=HI.out.st.lt
     refine wpIn_rangeFunc_ownG rfl (by decide) (gf:=168) (lb:=#[.pointer (some ⟨W.heap.size,0,none⟩),.pointer (some ⟨W.heap.size + 1,0,none⟩)]) rfl trivial (enters_of Tryz.func168 (by kernel_rfl) rfl)
       (at1_stops _ (RowsOf L) W.heap.size (W.heap.size + 1) w4.heap.size key w4 HC4.out.st ((cell_of_row _ _ _ _ _ _ HK4.out).trans rfl) ((cell_of_row _ _ _ _ _ _ HK5.out).trans rfl)
         (hnr _ (Nat.le_refl _)) (hnr _ (by omega)) (by obtain ⟨_,hbk,_⟩:=HI.out.st.blk; exact HI.out.st.rowsNo _ hbk (by decide)) (by obtain ⟨_,hbk⟩:=HI.out.st.row; exact HI.out.st.rowsNo _ hbk (by decide)) (by omega) (by omega) (by omega) (by omega) (Nat.le_refl _) hk64)
       (fun h k => h.trans k) (fun W l o o' hl ho h1 h2 => ⟨by simp,fun k hk _ => World.putObj_heap_other (by omega)⟩) (Below.refl _ _) (fun _ => rfl)
       (fun pre W' => Chg w4 W' p q c L (updS c key d C (pre.map (·.1))) w.heap.size Dk d (b + D * pre.length))
       (fun _ _ _ => False)
       (fun pre A B row hs hg hr => hs.grown (by omega) hg hr)
       (fun _ _ _ _ _ hs _ _ => hs)
       (by simpa [updS] using HC4.out) ?a₂ ?assign2 ?body2 ?done2 ?stop2
     case assign2 =>
       intro l x W K hK
       gi_wp2
       exact hK
     case stop2 =>
       rintro Dk cx pre W _ _ hx _
       exact hx.elim
     case body2 =>
       rintro l pre x W' hI2 hlen
       obtain ⟨A,hA⟩ : ∃ A,L[x.1]? = some A:=⟨_,List.getElem?_eq_getElem (by rw [h.len]; exact x.2)⟩
       have hgd : L.getD x.1 ⟨0,0,0⟩ = A:=by rw [List.getD_eq_getElem?_getD,hA]; rfl
       obtain ⟨zs,hz,hl⟩:=hI2.st.mem hA
       have hfz:=hI2.fit zs (List.mem_of_getElem? hz)
       have hbits:=hc.b59
       have hp60 : (pre.length : Int) ≤ 60:=by omega
       have hpD : 0 ≤ D * (pre.length : Int):=Int.mul_nonneg hD (by omega)
       have hpD2 : D * (pre.length : Int) ≤ D * 60:=Int.mul_le_mul_of_nonneg_left hp60 hD
       have hbp : 0 ≤ b + D * pre.length:=by omega
       have c5 : W'.cell? ⟨w.heap.size,0,none⟩ = some (.int .i64 d):=(cell_of_row _ _ _ _ _ _ hI2.h5).trans rfl
       have hkx : key / 2 ^ x.1 < 2 ^ (c.bits - x.1):=by
         have hx:=x.2
         rw [Nat.div_lt_iff_lt_mul (Nat.pow_pos (by decide)),← Nat.pow_add,Nat.sub_add_cancel (by omega)]
         omega
       have hcast : (key : Int) / 2 ^ x.1 = ((key / 2 ^ x.1 : Nat) : Int):=by push_cast; rfl
       have hce:=HCE.out
       have hE : ∀ (W2 : World) (hu : Upd (· = A.r) W' W2) (hl2 : LevIs W2 c x.1 A (levUpd c x.1 zs (key / 2 ^ x.1) d)),
           KeepsFrom w4.heap.size W' W2 ∧ KeepR w4.heap.size (RowsOf L) W' W2 ∧ Chg w4 W2 p q c L (updS c key d C ((pre ++ [x]).map (·.1))) w.heap.size Dk d (b + D * (pre ++ [x]).length):=fun W2 hu hl2 => by
         have hr:=chg_end w4.heap.size hI2 hbp hd hD key x.1 hA hz (by rintro ⟨A',hA',e⟩; have:=(hlt.2.2 A' hA').2.2; omega) hu hl2
         rw [List.map_append,List.map_singleton,updS_snoc,List.length_append,List.length_singleton]
         have : b + D * ((pre.length + 1 : Nat) : Int) = b + D * pre.length + D:=by push_cast; rw [Int.mul_add,Int.mul_one]; omega
         rw [this]
         exact hr
       cases hx : c.exact x.1 with
       | true =>
         obtain ⟨ha,hv⟩:=hl.arr hx
         have K0:=Lib.hid (exupd_ok ha (key / 2 ^ x.1) hkx d (by have:=hfz.getD hbp (key / 2 ^ x.1); omega) (by omega) hce)
         have HLU:=Lib.hid (show levUpd c x.1 zs (key / 2 ^ x.1) d = exUpd zs (key / 2 ^ x.1) d by unfold levUpd; rw [if_pos hx])
         simp only [encL,hgd,hv,hcast]
         have FIN:=Lib.hid (fun (W2 : World) (hu : Upd (· = A.r) W' W2) (hl2 : ArrIs W2 A.b A.g A.r c x.1 (exUpd zs (key / 2 ^ x.1) d)) => hE W2 hu (LevIs.of_arr (HLU.out ▸ hl2) hx))
         generalize key / 2 ^ x.1 = kx at *
         clear hcast hkx hl ha hv hI2 hgd hA hz hE hfz hx HLU hce
         gi_wp2
         refine ⟨trivial,CallsIn.inRound l (callsIn_wide.2 (K0.out.mono ?_))⟩
         rintro e W2 ⟨rfl,hu,hl2⟩
         have HX:=Lib.hid (FIN.out W2 hu hl2)
         clear hu hl2 FIN
         gi_wp2
         exact HX.out
       | false =>
         obtain ⟨ha,hv⟩:=hl.sk hx
         have K0:=Lib.hid (skupd_ok ha hc (Nat.le_of_lt_succ x.2) (key / 2 ^ x.1) hkx d ((hfz.mono (by omega)).read (by omega) _ _) (by omega) hce)
         have HLU:=Lib.hid (show levUpd c x.1 zs (key / 2 ^ x.1) d = skUpd c x.1 zs (key / 2 ^ x.1) d by unfold levUpd; rw [if_neg (by rw [hx]; decide)])
         simp only [encL,hgd,hv,hcast]
         have FIN:=Lib.hid (fun (W2 : World) (hu : Upd (· = A.r) W' W2) (hl2 : SkIs W2 A.b A.g A.r c x.1 (skUpd c x.1 zs (key / 2 ^ x.1) d)) => hE W2 hu (LevIs.of_sk (HLU.out ▸ hl2) hx))
         generalize key / 2 ^ x.1 = kx at *
         clear hcast hkx hl ha hv hI2 hgd hA hz hE hfz hx HLU hce
         gi_wp2
         refine ⟨trivial,CallsIn.inRound l (callsIn_wide.2 (K0.out.mono ?_))⟩
         rintro e W2 ⟨rfl,hu,hl2⟩
         have HX:=Lib.hid (FIN.out W2 hu hl2)
         clear hu hl2 FIN
         gi_wp2
         exact HX.out
     case done2 =>
       rintro D2 xs2 W5 hD2 hxs2 hI2 hK2
       rw [hxs2] at hI2
       have hD1:=hI2.hD
       have hDne : Dk ≠ D2:=by omega
       have HI2:=Lib.hid hI2
       have HK2:=Lib.hid hK2
       have hK1 : (W5.putObj D2 (.deferred none)).heap[Dk]? = some (.deferred (some [])):=(World.putObj_heap_other hDne).trans hD1
       have HK1:=Lib.hid hK1
       clear hK1 hD1 hK2 hI2
       gi_wp2
       refine ⟨by simp,.inl ⟨_,_,rfl,run_takeDeferred HK2.out,by simp,.inl ⟨_,_,rfl,run_takeDeferred HK1.out,?_⟩⟩⟩
       refine ⟨_,results_tmp rfl _ _ _,rfl,?_⟩
       rw [← List.range_succ]
       have hu5 : Upd (RowsOf L) w W5:=((Upd.of_below HI.out.bel).trans (Upd.of_below HB4.out)).then HI2.out.upd (fun i hi _ => hi)
       have hlW:=HI.out.bel.size
       have hSS:=HS.out
       refine ⟨(hu5.putObj _ _ (by omega)).putObj _ _ (by omega),?_⟩
       refine (HI2.out.st.grown (grownBy_putObj' W5 D2 (.deferred none)) (fun r e => by cases e; exact ⟨_,HK2.out,rfl⟩)).grown (grownBy_putObj' _ Dk (.deferred none)) (fun r e => by cases e; exact ⟨_,HK1.out,rfl⟩)
   · have HIF:=Lib.hid (show ∀ w',(if errOf c d = 0 then Upd (RowsOf L) w w' ∧ StackIs w' p q c L (updS c key d C (List.range (c.bits + 1))) else Below w.heap.size w w') = Below w.heap.size w w' from fun w' => if_neg he)
     have HIb:=Lib.hid hI.bel
     have HK:=Lib.hid hKm
     have hDw:=hI.bel.size
     have HDw:=Lib.hid (show w.heap.size ≤ Dk by have:=HS.out; omega)
     clear hI h5 h7 hKm hDw
     gi_wp2
     refine ⟨by simp,.inl ⟨_,_,rfl,run_takeDeferred HK.out,?_⟩⟩
     refine ⟨_,results_tmp rfl _ _ _,rfl,?_⟩
     exact HIb.out.grown (grownBy_putObj' W Dk (.deferred none)) HIb.out.size (fun k e => by cases e; exact HDw.out)
end Go.Proofs.YtejaocnhekjfiaaGreatDoor
namespace Go.Proofs.YtejaocnhekjfiaaGreatDoor
open Go.RowKit
set_option linter.unusedVariables false
def addW (h : Int) (key : Nat) (d : Int) : Value:=.agg #[.int .i64 h,.bool false,.string ⟨#[]⟩,.int .u64 key,.int .i64 d]
set_option maxRecDepth 100000 in
set_option maxHeartbeats 4000000 in
theorem add_ok {w : World} {base a m : Nat} {c : Cfg} {S : List SI} (h : AggIs w base a m c S) {i : Nat} {s : SI} (hs : S[i]? = some s) (key : Nat) (hk : key < 2 ^ c.bits) (d : Int) (b D : Int)
   (hf : ∀ zs ∈ s.C,FitL b zs) (hb : 0 ≤ b) (hd : -D ≤ d ∧ d ≤ D) (hD : 0 ≤ D) (hbD : b + 60 * D ≤ 4611686018427387903) (he : errOf c d = 0) :
   Calls Tryz.prog 52 #[.pointer (some ⟨a,0,none⟩),addW ((i : Int) + 1) key d] w fun e w' => e = .returned (.tuple #[.iface 138 (.agg #[]),.int .i64 0]) ∧ AggIs w' base a m c (S.set i { s with C:=updS c key d s.C (List.range (c.bits + 1)) }) ∧ Upd (AggB a m S) w w':=by
 have hb1:=(Below.refl w.heap.size w).alloc (Nat.le_refl _) (.cells #[.int .i64 ((i : Int) + 1),.bool false,.string ⟨#[]⟩,.int .u64 key,.int .i64 d] 120)
 have hbx:=heap_alloc_new w (.cells #[.int .i64 ((i : Int) + 1),.bool false,.string ⟨#[]⟩,.int .u64 key,.int .i64 d] 120)
 have hA:=h.keep hb1
 generalize hW : w.alloc (.cells #[.int .i64 ((i : Int) + 1),.bool false,.string ⟨#[]⟩,.int .u64 key,.int .i64 d] 120) = W1 at hb1 hbx hA
 have HW:=Lib.hid hW
 have hc0:=hA.c0
 have d0 : W1.cell? ⟨w.heap.size,0,none⟩ = some (.int .i64 ((i : Int) + 1)):=(cell_of_row _ _ _ _ _ _ hbx).trans rfl
 have hsp : (S.map SI.p)[i]? = some s.p:=by rw [List.getElem?_map,hs]; rfl
 have hlook:=fun (w' : World) (hw : w'.heap[m]? = some (.map (ents (S.map SI.p)) S.length)) => look_yes hw hsp
 unfold thingV at hlook
 have hmm:=hA.map
 have l1:=hlook W1.drew hmm
 have l2:=hlook (W1.alloc (.cells #[.pointer none,.pointer none] 114)).drew ((Below.heap_alloc _ _ _ (lt_of_block hmm)).trans hmm)
 have hc0':=fun o => cell_make hc0 o
 have d0':=fun o => cell_make d0 o
 have d1':=fun o => cell_make ((cell_of_row W1 w.heap.size 1 _ _ _ hbx).trans rfl) o
 have d3':=fun o => cell_make ((cell_of_row W1 w.heap.size 3 _ _ _ hbx).trans rfl) o
 have d4':=fun o => cell_make ((cell_of_row W1 w.heap.size 4 _ _ _ hbx).trans rfl) o
 have KU:=Lib.hid (fun (w' : World) (hbw : Below W1.heap.size W1 w') => (stupdate_ok ((hA.st i s hs).below hbw) key hk d b D hf hb hd hD hbD).mono (fun e w2 hh => (show e = .returned (.int .i64 0) ∧ Upd (RowsOf s.L) w' w2 ∧ StackIs w2 s.p s.q c s.L (updS c key d s.C (List.range (c.bits + 1))) from by
   rw [he,if_pos rfl] at hh; exact hh)))
 have HA:=Lib.hid hA
 have HS:=Lib.hid hs
 have HB1:=Lib.hid hb1
 clear hlook hmm h hs hk hf hb hd hD hbD he hb1 hbx hA hsp
 unfold addW
 go_enter Tryz.func52,Tryz.ntmps52
 go_wp2_with fail
 clear hW
 go_region
 all_goals
   go_wp2_with fail
   ((with_reducible refine (KU.out _ ((Below.refl _ _).alloc (Nat.le_refl _) _).drew).mono ?_); rintro e w2 ⟨rfl,hu,hst⟩)
   have HU:=Lib.hid hu
   have HST:=Lib.hid hst
   clear hu hst
   go_wp2_with fail
   ((with_reducible refine (done_ok _).mono ?_); rintro e w3 ⟨rfl,rfl⟩)
   go_wp2_with fail
   go_ret2
   have hb2:=((Below.refl W1.heap.size W1).alloc (Nat.le_refl _) (.cells #[.pointer (some ⟨s.p,0,none⟩),.pointer none] 114)).drew
   have hput:=(HA.out.keep hb2).put HS.out HU.out HST.out
   exact ⟨rfl,hput.1,(Upd.of_below HB1.out).trans ((Upd.of_below hb2).trans hput.2)⟩
set_option maxRecDepth 100000 in
set_option maxHeartbeats 4000000 in
theorem add_no {w : World} {base a m : Nat} {c : Cfg} {S : List SI} (h : AggIs w base a m c S) {i : Nat} {s : SI} (hs : S[i]? = some s) (key : Nat) (hk : key < 2 ^ c.bits) (d : Int) (b D : Int)
   (hf : ∀ zs ∈ s.C,FitL b zs) (hb : 0 ≤ b) (hd : -D ≤ d ∧ d ≤ D) (hD : 0 ≤ D) (hbD : b + 60 * D ≤ 4611686018427387903) (he : errOf c d = 3) :
   Calls Tryz.prog 52 #[.pointer (some ⟨a,0,none⟩),addW ((i : Int) + 1) key d] w fun e w' => e = .returned (.tuple #[.nilIface,.int .i64 3]) ∧ AggIs w' base a m c S ∧ Below w.heap.size w w':=by
 have hb1:=(Below.refl w.heap.size w).alloc (Nat.le_refl _) (.cells #[.int .i64 ((i : Int) + 1),.bool false,.string ⟨#[]⟩,.int .u64 key,.int .i64 d] 120)
 have hbx:=heap_alloc_new w (.cells #[.int .i64 ((i : Int) + 1),.bool false,.string ⟨#[]⟩,.int .u64 key,.int .i64 d] 120)
 have hA:=h.keep hb1
 generalize hW : w.alloc (.cells #[.int .i64 ((i : Int) + 1),.bool false,.string ⟨#[]⟩,.int .u64 key,.int .i64 d] 120) = W1 at hb1 hbx hA
 have HW:=Lib.hid hW
 have hc0:=hA.c0
 have d0 : W1.cell? ⟨w.heap.size,0,none⟩ = some (.int .i64 ((i : Int) + 1)):=(cell_of_row _ _ _ _ _ _ hbx).trans rfl
 have hsp : (S.map SI.p)[i]? = some s.p:=by rw [List.getElem?_map,hs]; rfl
 have hlook:=fun (w' : World) (hw : w'.heap[m]? = some (.map (ents (S.map SI.p)) S.length)) => look_yes hw hsp
 unfold thingV at hlook
 have hmm:=hA.map
 have l1:=hlook W1.drew hmm
 have l2:=hlook (W1.alloc (.cells #[.pointer none,.pointer none] 114)).drew ((Below.heap_alloc _ _ _ (lt_of_block hmm)).trans hmm)
 have hc0':=fun o => cell_make hc0 o
 have d0':=fun o => cell_make d0 o
 have d1':=fun o => cell_make ((cell_of_row W1 w.heap.size 1 _ _ _ hbx).trans rfl) o
 have d3':=fun o => cell_make ((cell_of_row W1 w.heap.size 3 _ _ _ hbx).trans rfl) o
 have d4':=fun o => cell_make ((cell_of_row W1 w.heap.size 4 _ _ _ hbx).trans rfl) o
 have KU:=Lib.hid (fun (w' : World) (hbw : Below W1.heap.size W1 w') => (stupdate_ok ((hA.st i s hs).below hbw) key hk d b D hf hb hd hD hbD).mono (fun e w2 hh => (show e = .returned (.int .i64 3) ∧ Below w'.heap.size w' w2 from by
   rw [he,if_neg (by decide)] at hh; exact hh)))
 have HA:=Lib.hid hA
 have HS:=Lib.hid hs
 have HB1:=Lib.hid hb1
 clear hlook hmm h hs hk hf hb hd hD hbD he hb1 hbx hA hsp
 unfold addW
 go_enter Tryz.func52,Tryz.ntmps52
 go_wp2_with fail
 clear hW
 go_region
 all_goals
   go_wp2_with fail
   ((with_reducible refine (KU.out _ ((Below.refl _ _).alloc (Nat.le_refl _) _).drew).mono ?_); rintro e w2 ⟨rfl,hu⟩)
   have HU:=Lib.hid hu
   clear hu
   go_wp2_with fail
   ((with_reducible refine (done_no 3 (by decide) _).mono ?_); rintro e w3 ⟨rfl,rfl⟩)
   go_wp2_with fail
   go_ret2
   have hb2:=((Below.refl W1.heap.size W1).alloc (Nat.le_refl _) (.cells #[.pointer (some ⟨s.p,0,none⟩),.pointer none] 114)).drew
   exact ⟨rfl,HA.out.keep (hb2.trans (HU.out.mono hb2.size)),HB1.out.then (hb2.trans (HU.out.mono hb2.size))⟩
end Go.Proofs.YtejaocnhekjfiaaGreatDoor
namespace Go.Proofs.YtejaocnhekjfiaaGreatDoor
open Go.RowKit
set_option linter.unusedVariables false
set_option maxRecDepth 100000 in
set_option maxHeartbeats 1000000 in
theorem alike_ok {w p q c L C p2 q2 L2 C2} (h : StackIs w p q c L C) (h2 : StackIs w p2 q2 c L2 C2) :
   Calls Tryz.prog 141 #[.pointer (some ⟨p,0,none⟩),.pointer (some ⟨p2,0,none⟩)] w fun e w' => e = .returned (.bool true) ∧ Below w.heap.size w w':=by
 have K1:=Lib.hid (stconfig_any h)
 have K2:=Lib.hid (fun w' (hb : Below w.heap.size w w') => stconfig_any (h2.below hb))
 unfold cfgV at *
 clear h h2
 go_enter Tryz.func141,Tryz.ntmps141
 go_wp2_with fail
 refine K1.out.mono ?_
 rintro e w1 ⟨rfl,hb⟩
 have HB:=Lib.hid hb; clear hb
 go_wp2_with fail
 refine (K2.out _ HB.out).mono ?_
 rintro e w2 ⟨rfl,hb⟩
 have HB2:=Lib.hid (HB.out.trans (hb.mono HB.out.size)); clear hb
 go_wp2_with fail
 go_ret
 exact ⟨rfl,HB2.out⟩
end Go.Proofs.YtejaocnhekjfiaaGreatDoor
namespace Go.Proofs.YtejaocnhekjfiaaGreatDoor
open Go.RowKit
set_option linter.unusedVariables false
theorem info125 : (Tryz.prog.info? 125).map (fun i => (i.zero,i.size,i.bytes)) = some (some (.slice none 0 0),1,24):=by kernel_rfl
theorem own_below {t : TypeId} {w w' : World} {base : Nat} {v : Value} {n : Nat} {xs : List Value} (h : w.ownsRow base t 1 v n xs) (hb : Below w.heap.size w w') : w'.ownsRow base t 1 v n xs:=by
 rcases h with ⟨hl,⟨h,h0⟩ | ⟨g,cap,cur,h,hg,hh,r⟩⟩
 · exact ⟨hl,.inl ⟨h,h0⟩⟩
 · exact ⟨hl,.inr ⟨g,cap,cur,h,hg,(hb.block g (lt_of_block hh)).trans hh,r⟩⟩
def NumRow (base : Nat) (wr : World) (x : Value) (zs : List Int) : Prop:=∃ g cap : Nat,x = .slice (some ⟨g,0,none⟩) zs.length cap ∧ Ints wr g zs ∧ base ≤ g
theorem NumRow.below {base : Nat} {w w' : World} {x zs} (h : NumRow base w x zs) (hb : Below w.heap.size w w') : NumRow base w' x zs:=by
 obtain ⟨g,cap,e,hi,hg⟩:=h; exact ⟨g,cap,e,hi.below hb,hg⟩
def NumRows (base : Nat) (wr : World) (vs : List Value) (R : List (List Int)) : Prop:=vs.length = R.length ∧ ∀ (i : Nat) (x : Value) (zs : List Int),vs[i]? = some x → R[i]? = some zs → NumRow base wr x zs
theorem NumRows.below {base : Nat} {w w' : World} {vs R} (h : NumRows base w vs R) (hb : Below w.heap.size w w') : NumRows base w' vs R:=⟨h.1,fun i x zs h1 h2 => (h.2 i x zs h1 h2).below hb⟩
theorem NumRows.more {base : Nat} {w5 w6 : World} {vs R x zs v} {o : Obj} {k : Nat} {xs : List Value} (h : NumRows base w5 vs R) (hx : NumRow base w5 x zs) (hown : w5.ownsRow base 125 1 v k xs) (hg : (w5.alloc o).grownBy w6 v.ownBlock) : NumRows base w6 (vs ++ [x]) (R ++ [zs]):=by
 have hb:=(Below.refl _ w5).alloc (Nat.le_refl _) o
 have ho:=own_below hown hb
 have hu:=Upd.of_grown hg
 have keep : ∀ x zs,NumRow base w5 x zs → NumRow base w6 x zs:=by
   rintro x zs hr
   obtain ⟨g,cap,e,hi,hge⟩:=hr.below hb
   refine ⟨g,cap,e,hi.upd hu ?_,hge⟩
   intro hk
   rcases ho with ⟨_,⟨e2,_⟩ | ⟨g2,cap2,cur,e2,_,hh,_⟩⟩
   · rw [e2] at hk; simp [Value.ownBlock] at hk
   · rw [e2] at hk; simp [Value.ownBlock] at hk
     obtain ⟨s,e3⟩:=hi.row
     rw [hk,hh] at e3; simp at e3
 refine ⟨by simp [h.1],fun i y ys h1 h2 => ?_⟩
 by_cases hi : i < vs.length
 · rw [List.getElem?_append_left hi] at h1
   rw [List.getElem?_append_left (by rw [← h.1]; exact hi)] at h2
   exact keep _ _ (h.2 i y ys h1 h2)
 · rw [List.getElem?_append_right (by omega)] at h1
   rw [List.getElem?_append_right (by rw [← h.1]; omega)] at h2
   have hl:=(List.getElem?_eq_some_iff.1 h1).1
   have hi0 : i - vs.length = 0:=by simp at hl; omega
   rw [hi0] at h1
   rw [← h.1,hi0] at h2
   simp at h1 h2; subst h1; subst h2
   exact keep _ _ hx
def loadS (C R : List (List Int)) : Nat → List (List Int)
 | 0 => C
 | k + 1 => (loadS C R k).set k (R.getD k [])
theorem loadS_len (C R : List (List Int)) (k : Nat) : (loadS C R k).length = C.length:=by
 induction k with
 | zero => rfl
 | succ k ih => simp [loadS,ih]
theorem loadS_from (C R : List (List Int)) : ∀ (k n : Nat),k ≤ n → (loadS C R k)[n]? = C[n]?
 | 0,_,_ => rfl
 | k + 1,n,h => by rw [loadS,List.getElem?_set_ne (by omega)]; exact loadS_from C R k n (by omega)
theorem loadS_to (C R : List (List Int)) (hl : R.length = C.length) : ∀ (k n : Nat),n < k → k ≤ C.length → (loadS C R k)[n]? = R[n]?
 | k + 1,n,h,hk => by
   rw [loadS]
   by_cases e : k = n
   · subst e
     rw [List.getElem?_set_self (by rw [loadS_len]; omega),List.getD_eq_getElem?_getD,List.getElem?_eq_getElem (by omega)]; rfl
   · rw [List.getElem?_set_ne e]; exact loadS_to C R hl k n (by omega) (by omega)
theorem loadS_all (C R : List (List Int)) (hl : R.length = C.length) : loadS C R C.length = R:=by
 apply List.ext_getElem?
 intro n
 by_cases h : n < C.length
 · exact loadS_to C R hl _ n h (Nat.le_refl _)
 · rw [List.getElem?_eq_none (by rw [loadS_len]; omega),List.getElem?_eq_none (by omega)]
end Go.Proofs.YtejaocnhekjfiaaGreatDoor
namespace Go.Proofs.YtejaocnhekjfiaaGreatDoor
open Go.RowKit
@[go_sem] theorem field24_0 (a b c d e : Value) (w : World) : (_root_.Go.Instr.field 24 (.agg #[a,b,c,d,e]) 0).run Tryz.prog w = .ok a w:=by kernel_rfl
@[go_sem] theorem field24_3 (a b c d e : Value) (w : World) : (_root_.Go.Instr.field 24 (.agg #[a,b,c,d,e]) 3).run Tryz.prog w = .ok d w:=by kernel_rfl
theorem LevIs.len {w : World} {c : Cfg} {n : Nat} {A : LA} {zs : List Int} (h : LevIs w c n A zs) : zs.length = if c.exact n = true then 1 * 2 ^ (c.bits - n) else c.rows * c.width:=by
 unfold LevIs at h
 split at h
 · rw [if_pos ‹_›]; exact h.grid.len
 · rw [if_neg ‹_›]; exact h.grid.len
end Go.Proofs.YtejaocnhekjfiaaGreatDoor
namespace Go.Proofs.YtejaocnhekjfiaaGreatDoor
open Go.RowKit
set_option linter.unusedVariables false
set_option maxRecDepth 100000 in
set_option maxHeartbeats 8000000 in
theorem allmerge_ok {w p q c L C p2 q2 L2 C2} (h : StackIs w p q c L C) (h2 : StackIs w p2 q2 c L2 C2) (f1 : ∀ zs ∈ C,FitL 4611686018427387903 zs) (f2 : ∀ zs ∈ C2,FitL 4611686018427387903 zs) :
   Calls Tryz.prog 145 #[.agg #[.func (.func 144) #[] #[]],.pointer (some ⟨p,0,none⟩),.pointer (some ⟨p2,0,none⟩)] w (RSt w p q c L (List.zipWith (List.zipWith (· + ·)) C C2) (.int .i64 0)):=by
 have hb0:=(Below.refl w.heap.size w).alloc (Nat.le_refl _) (.cells #[.func (.func 144) #[] #[]] 265)
 have hbl:=heap_alloc_new w (.cells #[.func (.func 144) #[] #[]] 265)
 have HB0:=Lib.hid hb0
 have HBL:=Lib.hid hbl
 have H:=Lib.hid h
 have H2:=Lib.hid h2
 have hlen:=h.len; have hlenC:=h.lenC; have hlen2:=h2.len; have hlenC2:=h2.lenC
 have b59:=h.ok.b59
 obtain ⟨R,hR⟩ : ∃ R,List.zipWith (List.zipWith (· + ·)) C C2 = R:=⟨_,rfl⟩
 have hRl : R.length = C.length:=by rw [← hR,List.length_zipWith]; omega
 have HR:=Lib.hid (And.intro hR hRl)
 have HN:=Lib.hid (And.intro (And.intro hlen hlenC) (And.intro hlen2 hlenC2))
 have KA:=Lib.hid (fun w' (hb : Below w.heap.size w w') => alike_ok (h.below hb) (h2.below hb))
 have KC:=Lib.hid (fun w' (hb : Below w.heap.size w w') => stconfig_any (h.below hb))
 have KX:=Lib.hid (fun (k : Nat) (zs : List Int) (hz : C[k]? = some zs) w' (hb : Below w.heap.size w w') => stat_ok (h.below hb) k (L[k]'(by have:=(List.getElem?_eq_some_iff.1 hz).1; omega)) zs (List.getElem?_eq_getElem _) hz)
 have KY:=Lib.hid (fun (k : Nat) (zs : List Int) (hz : C2[k]? = some zs) w' (hb : Below w.heap.size w w') => stat_ok (h2.below hb) k (L2[k]'(by have:=(List.getElem?_eq_some_iff.1 hz).1; omega)) zs (List.getElem?_eq_getElem _) hz)
 have F1:=Lib.hid f1
 have F2:=Lib.hid f2
 obtain ⟨i0,hi,hz0,hz1,hz2⟩:=info_parts info125
 rw [hR]
 clear h h2 hR hRl hlen hlenC hlen2 hlenC2 hb0 f1 f2
 go_enter Tryz.func145,Tryz.ntmps145
 go_wp2_with fail
 go_step3
 go_wp2_with fail
 refine (KA.out _ HB0.out).mono ?_
 rintro e w1 ⟨rfl,hb⟩
 have HB1:=Lib.hid (HB0.out.then hb)
 have hbl1:=(hb.block _ (lt_of_block HBL.out)).trans HBL.out
 have HBL1:=Lib.hid hbl1
 clear hb HBL hbl HB0 KA hbl1
 go_wp2_with fail
 go_step3
 go_wp2_with fail
 refine (KC.out _ HB1.out).mono ?_
 rintro e w2 ⟨rfl,hb⟩
 have HB2:=Lib.hid (HB1.out.then hb)
 have HBL2:=Lib.hid ((hb.block _ (lt_of_block HBL1.out)).trans HBL1.out)
 clear hb HBL1 HB1 KC
 unfold cfgV
 obtain ⟨m,hm⟩ : ∃ m,c.bits + 1 = m:=⟨_,rfl⟩
 have HM:=Lib.hid hm
 have hw1 : IntKind.i64.wrap ((c.bits : Int) + 1) = (m : Int):=by rw [IntWalk.i64_in _ (by omega)]; omega
 have hm60 : m ≤ 60:=by omega
 go_wp2_with fail
 go_loopw [7,8,24] (fun u7 u8 u24 wr => ∃ (k : Nat) (vs : List Value),k ≤ m ∧ u24 = .int .i64 k ∧ u8 = .int .i64 0 ∧ Hid (wr.ownsRow w.heap.size 125 1 u7 k vs ∧ NumRows w.heap.size wr vs (R.take k) ∧ Below w.heap.size w wr ∧ wr.heap[w.heap.size]? = some (.cells #[.func (.func 144) #[] #[]] 265 (0,0))) ) (fun _ _ u24 _ => m - (intOf u24).toNat)
 case atStart => exact ⟨0,[],by omega,rfl,rfl,Lib.hid ⟨⟨rfl,.inl ⟨rfl,rfl⟩⟩,⟨by simp,fun i x zs h1 h2 => by simp at h1⟩,HB2.out,HBL2.out⟩⟩
 case round =>
   obtain ⟨k,vs,hk,rfl,rfl,HG⟩:=hrel
   by_cases hlt : k < m
   · obtain ⟨zs,hzs⟩ : ∃ zs,C[k]? = some zs:=⟨_,List.getElem?_eq_getElem (by have:=HN.out; have:=HM.out; omega)⟩
     obtain ⟨ys,hys⟩ : ∃ ys,C2[k]? = some ys:=⟨_,List.getElem?_eq_getElem (by have:=HN.out; have:=HM.out; omega)⟩
     have HRk:=Lib.hid (show R[k]? = some (List.zipWith (· + ·) zs ys) by rw [← HR.out.1,List.getElem?_zipWith,hzs,hys])
     have fz:=F1.out zs (List.mem_of_getElem? hzs)
     have fy:=F2.out ys (List.mem_of_getElem? hys)
     have K1:=Lib.hid (KX.out k zs hzs _ HG.out.2.2.1)
     have K2:=Lib.hid (fun w' (hb : Below wr.heap.size wr w') => KY.out k ys hys w' (HG.out.2.2.1.then hb))
     have hm1 : k + 1 ≤ maxLen:=by unfold maxLen; omega
     have hm2 : (k + 1) * 24 ≤ 140737488355328:=by omega
     have HF:=Lib.hid (And.intro fz fy)
     clear hzs hys fz fy
     go_wp2_with fail
     refine K1.out.mono ?_
     rintro e w3 ⟨v,rfl,A,rfl,hA,hA1,hA2,hA3,hb⟩
     have HA:=Lib.hid hA
     have HB3:=Lib.hid hb
     clear hA hb K1
     obtain ⟨t,ht⟩:=levV_ex c k A
     generalize hlv : levV c k A = lv at *
     have HLV:=Lib.hid hlv
     clear ht hlv
     go_wp2_with fail
     refine (K2.out _ HB3.out).mono ?_
     rintro e w4 ⟨v2,rfl,B,rfl,hB,hB1,hB2,hB3,hb⟩
     have K3:=Lib.hid (by have h1:=HA.out.below hb; exact (levmerge_ok h1 hB HF.out.1 HF.out.2))
     have hb5:=HB3.out.then hb
     have hbl5:=(hb5.block _ (lt_of_block HG.out.2.2.2)).trans HG.out.2.2.2
     have c3 : w4.cell? ⟨w.heap.size,0,none⟩ = some (.func (.func 144) #[] #[]):=(cell_of_row _ _ _ _ _ _ hbl5).trans rfl
     have HBL5:=Lib.hid hbl5
     have HB5:=Lib.hid hb5
     rw [HLV.out] at K3
     generalize hlv2 : levV c k B = lv2 at *
     clear hB hB1 hB2 hB3 hb hb5 hbl5 K2 HB3 hlv2
     go_wp2_with fail
     refine K3.out.mono ?_
     rintro e w5 ⟨rfl,hu,hl⟩
     have hAr:=hu.below (B:=wr.heap.size) (fun k hk => by omega) HB5.out.size
     have HB6:=Lib.hid (HB5.out.trans hAr)
     have HL:=Lib.hid hl
     clear hu hAr K3 HB5 HBL5 c3
     cases hx : c.exact k with
     | true =>
       obtain ⟨ha,hv⟩:=HL.out.arr hx
       have K:=Lib.hid (excells_any ha)
       rw [HLV.out] at hv
       clear ha hl
       subst hv
       go_wp2_with (first
         | (go_at_call 190; ((with_reducible refine K.out.mono ?_)); rintro e w6 ⟨x,rfl,g,cg,hxv,hig,hgg,hgc,hgc2,hb6⟩; obtain ⟨zl,hzl⟩ : ∃ zl,(List.zipWith (· + ·) zs ys).length = zl:=⟨_,rfl⟩; rw [hzl] at hxv; subst hxv; (have HB7:=Lib.hid (HB6.out.then hb6)); (have HX:=Lib.hid (show NumRow w.heap.size w6 (.slice (some ⟨g,0,none⟩) zl cg) (List.zipWith (· + ·) zs ys) from ⟨g,cg,by rw [hzl],hig,by have:=HB6.out.size; have:=HG.out.2.2.1.size; omega⟩)); (have HO:=Lib.hid (own_below (own_below HG.out.1 HB7.out) ((Below.refl _ _).alloc (Nat.le_refl _) (.cells #[.slice (some ⟨g,0,none⟩) zl cg] 125)))); (have HW:=Lib.hid (own_below HG.out.1 HB7.out)); (have hz4 : w.heap.size ≤ w6.heap.size:=Nat.le_trans HG.out.2.2.1.size HB7.out.size); clear hig hgg hgc hgc2 hb6 hzl)
         | (at_builtin; refine wpList_append_own _ rfl (.tmp 46) (.tmp 49) 331 rfl w.heap.size 125 i0 (.slice none 0 0) 1 24 Tryz.underlying331 hi hz0 hz1 hz2 rfl (by decide) u7 k vs rfl HO.out ⟨w6.heap.size,0,none⟩ 1 1 [.slice (some ⟨g,0,none⟩) zl cg] rfl rfl (news_one w6 _ 125) (by intro u hu; simp at hu; subst hu; rfl) hm1 hm2 (by simp; omega) ?_; intro v' w7 hown' hg' _))
       have HR7:=Lib.hid ((HG.out.2.1.below HB7.out).more HX.out HW.out hg')
       have HG7:=Lib.hid (show w7.ownsRow w.heap.size 125 1 v' (k + 1) (vs ++ [.slice (some ⟨g,0,none⟩) zl cg]) ∧ NumRows w.heap.size w7 (vs ++ [.slice (some ⟨g,0,none⟩) zl cg]) (R.take (k + 1)) ∧ Below w.heap.size w w7 ∧ w7.heap[w.heap.size]? = some (.cells #[.func (.func 144) #[] #[]] 265 (0,0)) from by
         have hbb:=(Below.refl w6.heap.size w6).alloc (Nat.le_refl _) (.cells #[.slice (some ⟨g,0,none⟩) zl cg] 125)
         have hbl6:=(hbb.block _ (lt_of_block ((HB7.out.block _ (lt_of_block HG.out.2.2.2)).trans HG.out.2.2.2))).trans ((HB7.out.block _ (lt_of_block HG.out.2.2.2)).trans HG.out.2.2.2)
         have hkind : ∀ j,some j = u7.ownBlock → w.heap.size ≤ j ∧ j ≠ w.heap.size:=by
           intro j hj
           rcases HO.out with ⟨_,⟨e,_⟩ | ⟨g2,cap2,cur,e,hg2,hh,_⟩⟩
           · rw [e] at hj; simp [Value.ownBlock] at hj
           · rw [e] at hj; simp [Value.ownBlock] at hj; subst hj
             exact ⟨hg2,by rintro e2; rw [e2,hbl6] at hh; simp at hh⟩
         refine ⟨hown',?_,?_,?_⟩
         · rw [List.take_add_one,HRk.out]; exact HR7.out
         · exact ((HG.out.2.2.1.then HB7.out).alloc hz4 _).trans ((Upd.of_grown hg').below (fun j hj => (hkind j hj).1) (by have:=hbb.size; omega))
         · exact (Upd.of_grown hg').heap hbl6 (fun e => (hkind _ e).2 rfl))
       clear hown' hg' HR7 HX HO HW HB7 HB6 HL HA
       go_wp2_with fail
       go_roundw
       case rel => exact ⟨k + 1,_,by omega,by go_num,rfl,Lib.hid HG7.out⟩
       case measure => simp [intOf]; omega
     | false =>
       obtain ⟨ha,hv⟩:=HL.out.sk hx
       have K:=Lib.hid (skcells_any ha)
       rw [HLV.out] at hv
       clear ha hl
       subst hv
       go_wp2_with (first
         | (go_at_call 218; ((with_reducible refine K.out.mono ?_)); rintro e w6 ⟨x,rfl,g,cg,hxv,hig,hgg,hgc,hgc2,hb6⟩; obtain ⟨zl,hzl⟩ : ∃ zl,(List.zipWith (· + ·) zs ys).length = zl:=⟨_,rfl⟩; rw [hzl] at hxv; subst hxv; (have HB7:=Lib.hid (HB6.out.then hb6)); (have HX:=Lib.hid (show NumRow w.heap.size w6 (.slice (some ⟨g,0,none⟩) zl cg) (List.zipWith (· + ·) zs ys) from ⟨g,cg,by rw [hzl],hig,by have:=HB6.out.size; have:=HG.out.2.2.1.size; omega⟩)); (have HO:=Lib.hid (own_below (own_below HG.out.1 HB7.out) ((Below.refl _ _).alloc (Nat.le_refl _) (.cells #[.slice (some ⟨g,0,none⟩) zl cg] 125)))); (have HW:=Lib.hid (own_below HG.out.1 HB7.out)); (have hz4 : w.heap.size ≤ w6.heap.size:=Nat.le_trans HG.out.2.2.1.size HB7.out.size); clear hig hgg hgc hgc2 hb6 hzl)
         | (at_builtin; refine wpList_append_own _ rfl (.tmp 46) (.tmp 49) 331 rfl w.heap.size 125 i0 (.slice none 0 0) 1 24 Tryz.underlying331 hi hz0 hz1 hz2 rfl (by decide) u7 k vs rfl HO.out ⟨w6.heap.size,0,none⟩ 1 1 [.slice (some ⟨g,0,none⟩) zl cg] rfl rfl (news_one w6 _ 125) (by intro u hu; simp at hu; subst hu; rfl) hm1 hm2 (by simp; omega) ?_; intro v' w7 hown' hg' _))
       have HR7:=Lib.hid ((HG.out.2.1.below HB7.out).more HX.out HW.out hg')
       have HG7:=Lib.hid (show w7.ownsRow w.heap.size 125 1 v' (k + 1) (vs ++ [.slice (some ⟨g,0,none⟩) zl cg]) ∧ NumRows w.heap.size w7 (vs ++ [.slice (some ⟨g,0,none⟩) zl cg]) (R.take (k + 1)) ∧ Below w.heap.size w w7 ∧ w7.heap[w.heap.size]? = some (.cells #[.func (.func 144) #[] #[]] 265 (0,0)) from by
         have hbb:=(Below.refl w6.heap.size w6).alloc (Nat.le_refl _) (.cells #[.slice (some ⟨g,0,none⟩) zl cg] 125)
         have hbl6:=(hbb.block _ (lt_of_block ((HB7.out.block _ (lt_of_block HG.out.2.2.2)).trans HG.out.2.2.2))).trans ((HB7.out.block _ (lt_of_block HG.out.2.2.2)).trans HG.out.2.2.2)
         have hkind : ∀ j,some j = u7.ownBlock → w.heap.size ≤ j ∧ j ≠ w.heap.size:=by
           intro j hj
           rcases HO.out with ⟨_,⟨e,_⟩ | ⟨g2,cap2,cur,e,hg2,hh,_⟩⟩
           · rw [e] at hj; simp [Value.ownBlock] at hj
           · rw [e] at hj; simp [Value.ownBlock] at hj; subst hj
             exact ⟨hg2,by rintro e2; rw [e2,hbl6] at hh; simp at hh⟩
         refine ⟨hown',?_,?_,?_⟩
         · rw [List.take_add_one,HRk.out]; exact HR7.out
         · exact ((HG.out.2.2.1.then HB7.out).alloc hz4 _).trans ((Upd.of_grown hg').below (fun j hj => (hkind j hj).1) (by have:=hbb.size; omega))
         · exact (Upd.of_grown hg').heap hbl6 (fun e => (hkind _ e).2 rfl))
       clear hown' hg' HR7 HX HO HW HB7 HB6 HL HA
       go_wp2_with fail
       go_roundw
       case rel => exact ⟨k + 1,_,by omega,by go_num,rfl,Lib.hid HG7.out⟩
       case measure => simp [intOf]; omega
   · have hkm : k = m:=by omega
     subst hkm
     clear hlt
     have HV:=Lib.hid HG.out.2.1
     have HWB:=Lib.hid HG.out.2.2.1
     have HO:=Lib.hid HG.out.1
     obtain ⟨wo,hwo⟩ : ∃ wo,wo = wr:=⟨_,rfl⟩
     subst hwo
     have hk1 : 1 ≤ k:=by have:=HM.out; omega
     obtain ⟨hvl,hown⟩:=HO.out
     rcases hown with ⟨_,h0⟩ | ⟨g,cap,cur,rfl,hg,hh,hnc,hcm,hcs,ht⟩
     · omega
     clear HG
     have HH:=Lib.hid hh
     have HT:=Lib.hid ht
     have HS:=Lib.hid (H.out.below HWB.out)
     have hlow : ∀ j,w.heap.size ≤ j → ¬ RowsOf L j:=by
       rintro j hj ⟨A,hA,rfl⟩
       have:=(H.out.lt.2.2 A hA).2.2
       omega
     have HLOW:=Lib.hid hlow
     have HGG:=Lib.hid hg
     have hnc2 : k ≤ cap:=hnc
     have hcap64 : cap ≤ 9223372036854775807:=by unfold maxLen at hcm; exact hcm
     clear hh ht hlow hvl hg hnc hcm hcs
     go_wp2_with fail
     go_loopw [57] (fun u WR => ∃ j : Nat,j ≤ k ∧ u = .int .i64 j ∧ Hid (StackIs WR p q c L (loadS C R j) ∧ Upd (RowsOf L) wo WR)) (fun u _ => k - (intOf u).toNat)
     case atStart => exact ⟨0,by omega,rfl,Lib.hid ⟨HS.out,Upd.refl _ _⟩⟩
     case round =>
       obtain ⟨j,hj,rfl,HJ⟩:=hrel
       by_cases hlj : j < k
       · obtain ⟨zs,hzs⟩ : ∃ zs,C[j]? = some zs:=⟨_,List.getElem?_eq_getElem (by have:=HN.out; have:=HM.out; omega)⟩
         obtain ⟨ys,hys⟩ : ∃ ys,C2[j]? = some ys:=⟨_,List.getElem?_eq_getElem (by have:=HN.out; have:=HM.out; omega)⟩
         obtain ⟨A,hA⟩ : ∃ A,L[j]? = some A:=⟨_,List.getElem?_eq_getElem (by have:=HN.out; have:=HM.out; omega)⟩
         obtain ⟨B,hB⟩ : ∃ B,L2[j]? = some B:=⟨_,List.getElem?_eq_getElem (by have:=HN.out; have:=HM.out; omega)⟩
         have hRk : R[j]? = some (List.zipWith (· + ·) zs ys):=by rw [← HR.out.1,List.getElem?_zipWith,hzs,hys]
         have hlz:=(H.out.lev j A zs hA hzs).len
         have hly:=(H2.out.lev j B ys hB hys).len
         have hlw : (List.zipWith (· + ·) zs ys).length = zs.length:=by rw [List.length_zipWith,hlz,hly,Nat.min_self]
         obtain ⟨x,hx⟩ : ∃ x,vs[j]? = some x:=⟨_,List.getElem?_eq_getElem (by have:=HV.out.1; rw [List.length_take] at this; have:=HR.out.2; have:=HN.out; have:=HM.out; omega)⟩
         obtain ⟨gk,ck,rfl,hik,hgk⟩:=HV.out.2 j x _ hx (by rw [List.getElem?_take,if_pos hlj]; exact hRk)
         have hzj : (loadS C R j)[j]? = some zs:=by rw [loadS_from _ _ _ _ (Nat.le_refl _)]; exact hzs
         have hnr:=HLOW.out gk hgk
         have K:=Lib.hid (stload_ok HJ.out.1 j A zs (List.zipWith (· + ·) zs ys) gk hA hzj (hik.upd HJ.out.2 hnr) hlw (fun e => hnr (e ▸ ⟨A,List.mem_of_getElem? hA,rfl⟩)) ck)
         have hcell : wr.cell? ⟨g,j,none⟩ = some (.slice (some ⟨gk,0,none⟩) (List.zipWith (· + ·) zs ys).length ck):=by
           refine (HJ.out.2.cell (lt_of_block HH.out) (HLOW.out g HGG.out) j).trans ?_
           refine (cell_of_row _ _ _ _ _ _ HH.out).trans ?_
           have h1:=congrArg (fun l => l[j]?) HT.out
           simp only [Nat.mul_one] at h1
           rw [List.getElem?_take,if_pos hlj,hx] at h1
           simpa using h1
         have HRG:=Lib.hid (show R.getD j [] = List.zipWith (· + ·) zs ys by rw [List.getD_eq_getElem?_getD,hRk]; rfl)
         generalize (List.zipWith (· + ·) zs ys).length = zl at *
         clear hzs hys hA hB hRk hlz hly hlw hx hik hgk hzj hnr
         go_wp2_with (go_at_call 103; ((with_reducible refine K.out.mono ?_)); rintro e w4 ⟨rfl,hu,hs⟩)
         have HJ2:=Lib.hid (show StackIs w4 p q c L (loadS C R (j + 1)) ∧ Upd (RowsOf L) wo w4 from ⟨by rw [loadS,HRG.out]; exact hs,HJ.out.2.trans hu⟩)
         clear hu hs
         go_wp2_with fail
         go_roundw
         case rel => exact ⟨j + 1,by omega,by go_num,Lib.hid HJ2.out⟩
         case measure => simp [intOf]; omega
       · have hjk : j = k:=by omega
         subst hjk
         have HF:=Lib.hid (show Upd (RowsOf L) w wr ∧ StackIs wr p q c L R from ⟨(Upd.of_below HWB.out).then HJ.out.2 (fun i hi _ => hi),by
           have h1:=HJ.out.1
           have h2 : j = C.length:=by have:=HN.out; have:=HM.out; omega
           rw [h2,loadS_all _ _ HR.out.2] at h1
           exact h1⟩)
         go_wp2_with fail
         try rw [Exit.noGoto_ret]
         go_ret
         exact ⟨rfl,HF.out⟩
end Go.Proofs.YtejaocnhekjfiaaGreatDoor
namespace Go.Proofs.YtejaocnhekjfiaaGreatDoor
open Go.RowKit
set_option linter.unusedVariables false
set_option maxRecDepth 100000 in
set_option maxHeartbeats 8000000 in
theorem allsubtract_ok {w p q c L C p2 q2 L2 C2} (h : StackIs w p q c L C) (h2 : StackIs w p2 q2 c L2 C2) (f1 : ∀ zs ∈ C,FitL 4611686018427387903 zs) (f2 : ∀ zs ∈ C2,FitL 4611686018427387903 zs) (hmode : c.mode ≠ 2) :
   Calls Tryz.prog 145 #[.agg #[.func (.func 146) #[] #[]],.pointer (some ⟨p,0,none⟩),.pointer (some ⟨p2,0,none⟩)] w (RSt w p q c L (List.zipWith (List.zipWith (· - ·)) C C2) (.int .i64 0)):=by
 have hb0:=(Below.refl w.heap.size w).alloc (Nat.le_refl _) (.cells #[.func (.func 146) #[] #[]] 265)
 have hbl:=heap_alloc_new w (.cells #[.func (.func 146) #[] #[]] 265)
 have HB0:=Lib.hid hb0
 have HBL:=Lib.hid hbl
 have H:=Lib.hid h
 have H2:=Lib.hid h2
 have hlen:=h.len; have hlenC:=h.lenC; have hlen2:=h2.len; have hlenC2:=h2.lenC
 have b59:=h.ok.b59
 obtain ⟨R,hR⟩ : ∃ R,List.zipWith (List.zipWith (· - ·)) C C2 = R:=⟨_,rfl⟩
 have hRl : R.length = C.length:=by rw [← hR,List.length_zipWith]; omega
 have HR:=Lib.hid (And.intro hR hRl)
 have HN:=Lib.hid (And.intro (And.intro hlen hlenC) (And.intro hlen2 hlenC2))
 have KA:=Lib.hid (fun w' (hb : Below w.heap.size w w') => alike_ok (h.below hb) (h2.below hb))
 have KC:=Lib.hid (fun w' (hb : Below w.heap.size w w') => stconfig_any (h.below hb))
 have KX:=Lib.hid (fun (k : Nat) (zs : List Int) (hz : C[k]? = some zs) w' (hb : Below w.heap.size w w') => stat_ok (h.below hb) k (L[k]'(by have:=(List.getElem?_eq_some_iff.1 hz).1; omega)) zs (List.getElem?_eq_getElem _) hz)
 have KY:=Lib.hid (fun (k : Nat) (zs : List Int) (hz : C2[k]? = some zs) w' (hb : Below w.heap.size w w') => stat_ok (h2.below hb) k (L2[k]'(by have:=(List.getElem?_eq_some_iff.1 hz).1; omega)) zs (List.getElem?_eq_getElem _) hz)
 have F1:=Lib.hid f1
 have F2:=Lib.hid f2
 obtain ⟨i0,hi,hz0,hz1,hz2⟩:=info_parts info125
 rw [hR]
 clear h h2 hR hRl hlen hlenC hlen2 hlenC2 hb0 f1 f2
 go_enter Tryz.func145,Tryz.ntmps145
 go_wp2_with fail
 go_step3
 go_wp2_with fail
 refine (KA.out _ HB0.out).mono ?_
 rintro e w1 ⟨rfl,hb⟩
 have HB1:=Lib.hid (HB0.out.then hb)
 have hbl1:=(hb.block _ (lt_of_block HBL.out)).trans HBL.out
 have HBL1:=Lib.hid hbl1
 clear hb HBL hbl HB0 KA hbl1
 go_wp2_with fail
 go_step3
 go_wp2_with fail
 refine (KC.out _ HB1.out).mono ?_
 rintro e w2 ⟨rfl,hb⟩
 have HB2:=Lib.hid (HB1.out.then hb)
 have HBL2:=Lib.hid ((hb.block _ (lt_of_block HBL1.out)).trans HBL1.out)
 clear hb HBL1 HB1 KC
 unfold cfgV
 obtain ⟨m,hm⟩ : ∃ m,c.bits + 1 = m:=⟨_,rfl⟩
 have HM:=Lib.hid hm
 have hw1 : IntKind.i64.wrap ((c.bits : Int) + 1) = (m : Int):=by rw [IntWalk.i64_in _ (by omega)]; omega
 have hm60 : m ≤ 60:=by omega
 go_wp2_with fail
 go_loopw [7,8,24] (fun u7 u8 u24 wr => ∃ (k : Nat) (vs : List Value),k ≤ m ∧ u24 = .int .i64 k ∧ u8 = .int .i64 0 ∧ Hid (wr.ownsRow w.heap.size 125 1 u7 k vs ∧ NumRows w.heap.size wr vs (R.take k) ∧ Below w.heap.size w wr ∧ wr.heap[w.heap.size]? = some (.cells #[.func (.func 146) #[] #[]] 265 (0,0))) ) (fun _ _ u24 _ => m - (intOf u24).toNat)
 case atStart => exact ⟨0,[],by omega,rfl,rfl,Lib.hid ⟨⟨rfl,.inl ⟨rfl,rfl⟩⟩,⟨by simp,fun i x zs h1 h2 => by simp at h1⟩,HB2.out,HBL2.out⟩⟩
 case round =>
   obtain ⟨k,vs,hk,rfl,rfl,HG⟩:=hrel
   by_cases hlt : k < m
   · obtain ⟨zs,hzs⟩ : ∃ zs,C[k]? = some zs:=⟨_,List.getElem?_eq_getElem (by have:=HN.out; have:=HM.out; omega)⟩
     obtain ⟨ys,hys⟩ : ∃ ys,C2[k]? = some ys:=⟨_,List.getElem?_eq_getElem (by have:=HN.out; have:=HM.out; omega)⟩
     have HRk:=Lib.hid (show R[k]? = some (List.zipWith (· - ·) zs ys) by rw [← HR.out.1,List.getElem?_zipWith,hzs,hys])
     have fz:=F1.out zs (List.mem_of_getElem? hzs)
     have fy:=F2.out ys (List.mem_of_getElem? hys)
     have K1:=Lib.hid (KX.out k zs hzs _ HG.out.2.2.1)
     have K2:=Lib.hid (fun w' (hb : Below wr.heap.size wr w') => KY.out k ys hys w' (HG.out.2.2.1.then hb))
     have hm1 : k + 1 ≤ maxLen:=by unfold maxLen; omega
     have hm2 : (k + 1) * 24 ≤ 140737488355328:=by omega
     have HF:=Lib.hid (And.intro fz fy)
     clear hzs hys fz fy
     go_wp2_with fail
     refine K1.out.mono ?_
     rintro e w3 ⟨v,rfl,A,rfl,hA,hA1,hA2,hA3,hb⟩
     have HA:=Lib.hid hA
     have HB3:=Lib.hid hb
     clear hA hb K1
     obtain ⟨t,ht⟩:=levV_ex c k A
     generalize hlv : levV c k A = lv at *
     have HLV:=Lib.hid hlv
     clear ht hlv
     go_wp2_with fail
     refine (K2.out _ HB3.out).mono ?_
     rintro e w4 ⟨v2,rfl,B,rfl,hB,hB1,hB2,hB3,hb⟩
     have K3:=Lib.hid (by have h1:=HA.out.below hb; exact (levsubtract_ok h1 hB HF.out.1 HF.out.2 hmode))
     have hb5:=HB3.out.then hb
     have hbl5:=(hb5.block _ (lt_of_block HG.out.2.2.2)).trans HG.out.2.2.2
     have c3 : w4.cell? ⟨w.heap.size,0,none⟩ = some (.func (.func 146) #[] #[]):=(cell_of_row _ _ _ _ _ _ hbl5).trans rfl
     have HBL5:=Lib.hid hbl5
     have HB5:=Lib.hid hb5
     rw [HLV.out] at K3
     generalize hlv2 : levV c k B = lv2 at *
     clear hB hB1 hB2 hB3 hb hb5 hbl5 K2 HB3 hlv2
     go_wp2_with fail
     refine K3.out.mono ?_
     rintro e w5 ⟨rfl,hu,hl⟩
     have hAr:=hu.below (B:=wr.heap.size) (fun k hk => by omega) HB5.out.size
     have HB6:=Lib.hid (HB5.out.trans hAr)
     have HL:=Lib.hid hl
     clear hu hAr K3 HB5 HBL5 c3
     cases hx : c.exact k with
     | true =>
       obtain ⟨ha,hv⟩:=HL.out.arr hx
       have K:=Lib.hid (excells_any ha)
       rw [HLV.out] at hv
       clear ha hl
       subst hv
       go_wp2_with (first
         | (go_at_call 190; ((with_reducible refine K.out.mono ?_)); rintro e w6 ⟨x,rfl,g,cg,hxv,hig,hgg,hgc,hgc2,hb6⟩; obtain ⟨zl,hzl⟩ : ∃ zl,(List.zipWith (· - ·) zs ys).length = zl:=⟨_,rfl⟩; rw [hzl] at hxv; subst hxv; (have HB7:=Lib.hid (HB6.out.then hb6)); (have HX:=Lib.hid (show NumRow w.heap.size w6 (.slice (some ⟨g,0,none⟩) zl cg) (List.zipWith (· - ·) zs ys) from ⟨g,cg,by rw [hzl],hig,by have:=HB6.out.size; have:=HG.out.2.2.1.size; omega⟩)); (have HO:=Lib.hid (own_below (own_below HG.out.1 HB7.out) ((Below.refl _ _).alloc (Nat.le_refl _) (.cells #[.slice (some ⟨g,0,none⟩) zl cg] 125)))); (have HW:=Lib.hid (own_below HG.out.1 HB7.out)); (have hz4 : w.heap.size ≤ w6.heap.size:=Nat.le_trans HG.out.2.2.1.size HB7.out.size); clear hig hgg hgc hgc2 hb6 hzl)
         | (at_builtin; refine wpList_append_own _ rfl (.tmp 46) (.tmp 49) 331 rfl w.heap.size 125 i0 (.slice none 0 0) 1 24 Tryz.underlying331 hi hz0 hz1 hz2 rfl (by decide) u7 k vs rfl HO.out ⟨w6.heap.size,0,none⟩ 1 1 [.slice (some ⟨g,0,none⟩) zl cg] rfl rfl (news_one w6 _ 125) (by intro u hu; simp at hu; subst hu; rfl) hm1 hm2 (by simp; omega) ?_; intro v' w7 hown' hg' _))
       have HR7:=Lib.hid ((HG.out.2.1.below HB7.out).more HX.out HW.out hg')
       have HG7:=Lib.hid (show w7.ownsRow w.heap.size 125 1 v' (k + 1) (vs ++ [.slice (some ⟨g,0,none⟩) zl cg]) ∧ NumRows w.heap.size w7 (vs ++ [.slice (some ⟨g,0,none⟩) zl cg]) (R.take (k + 1)) ∧ Below w.heap.size w w7 ∧ w7.heap[w.heap.size]? = some (.cells #[.func (.func 146) #[] #[]] 265 (0,0)) from by
         have hbb:=(Below.refl w6.heap.size w6).alloc (Nat.le_refl _) (.cells #[.slice (some ⟨g,0,none⟩) zl cg] 125)
         have hbl6:=(hbb.block _ (lt_of_block ((HB7.out.block _ (lt_of_block HG.out.2.2.2)).trans HG.out.2.2.2))).trans ((HB7.out.block _ (lt_of_block HG.out.2.2.2)).trans HG.out.2.2.2)
         have hkind : ∀ j,some j = u7.ownBlock → w.heap.size ≤ j ∧ j ≠ w.heap.size:=by
           intro j hj
           rcases HO.out with ⟨_,⟨e,_⟩ | ⟨g2,cap2,cur,e,hg2,hh,_⟩⟩
           · rw [e] at hj; simp [Value.ownBlock] at hj
           · rw [e] at hj; simp [Value.ownBlock] at hj; subst hj
             exact ⟨hg2,by rintro e2; rw [e2,hbl6] at hh; simp at hh⟩
         refine ⟨hown',?_,?_,?_⟩
         · rw [List.take_add_one,HRk.out]; exact HR7.out
         · exact ((HG.out.2.2.1.then HB7.out).alloc hz4 _).trans ((Upd.of_grown hg').below (fun j hj => (hkind j hj).1) (by have:=hbb.size; omega))
         · exact (Upd.of_grown hg').heap hbl6 (fun e => (hkind _ e).2 rfl))
       clear hown' hg' HR7 HX HO HW HB7 HB6 HL HA
       go_wp2_with fail
       go_roundw
       case rel => exact ⟨k + 1,_,by omega,by go_num,rfl,Lib.hid HG7.out⟩
       case measure => simp [intOf]; omega
     | false =>
       obtain ⟨ha,hv⟩:=HL.out.sk hx
       have K:=Lib.hid (skcells_any ha)
       rw [HLV.out] at hv
       clear ha hl
       subst hv
       go_wp2_with (first
         | (go_at_call 218; ((with_reducible refine K.out.mono ?_)); rintro e w6 ⟨x,rfl,g,cg,hxv,hig,hgg,hgc,hgc2,hb6⟩; obtain ⟨zl,hzl⟩ : ∃ zl,(List.zipWith (· - ·) zs ys).length = zl:=⟨_,rfl⟩; rw [hzl] at hxv; subst hxv; (have HB7:=Lib.hid (HB6.out.then hb6)); (have HX:=Lib.hid (show NumRow w.heap.size w6 (.slice (some ⟨g,0,none⟩) zl cg) (List.zipWith (· - ·) zs ys) from ⟨g,cg,by rw [hzl],hig,by have:=HB6.out.size; have:=HG.out.2.2.1.size; omega⟩)); (have HO:=Lib.hid (own_below (own_below HG.out.1 HB7.out) ((Below.refl _ _).alloc (Nat.le_refl _) (.cells #[.slice (some ⟨g,0,none⟩) zl cg] 125)))); (have HW:=Lib.hid (own_below HG.out.1 HB7.out)); (have hz4 : w.heap.size ≤ w6.heap.size:=Nat.le_trans HG.out.2.2.1.size HB7.out.size); clear hig hgg hgc hgc2 hb6 hzl)
         | (at_builtin; refine wpList_append_own _ rfl (.tmp 46) (.tmp 49) 331 rfl w.heap.size 125 i0 (.slice none 0 0) 1 24 Tryz.underlying331 hi hz0 hz1 hz2 rfl (by decide) u7 k vs rfl HO.out ⟨w6.heap.size,0,none⟩ 1 1 [.slice (some ⟨g,0,none⟩) zl cg] rfl rfl (news_one w6 _ 125) (by intro u hu; simp at hu; subst hu; rfl) hm1 hm2 (by simp; omega) ?_; intro v' w7 hown' hg' _))
       have HR7:=Lib.hid ((HG.out.2.1.below HB7.out).more HX.out HW.out hg')
       have HG7:=Lib.hid (show w7.ownsRow w.heap.size 125 1 v' (k + 1) (vs ++ [.slice (some ⟨g,0,none⟩) zl cg]) ∧ NumRows w.heap.size w7 (vs ++ [.slice (some ⟨g,0,none⟩) zl cg]) (R.take (k + 1)) ∧ Below w.heap.size w w7 ∧ w7.heap[w.heap.size]? = some (.cells #[.func (.func 146) #[] #[]] 265 (0,0)) from by
         have hbb:=(Below.refl w6.heap.size w6).alloc (Nat.le_refl _) (.cells #[.slice (some ⟨g,0,none⟩) zl cg] 125)
         have hbl6:=(hbb.block _ (lt_of_block ((HB7.out.block _ (lt_of_block HG.out.2.2.2)).trans HG.out.2.2.2))).trans ((HB7.out.block _ (lt_of_block HG.out.2.2.2)).trans HG.out.2.2.2)
         have hkind : ∀ j,some j = u7.ownBlock → w.heap.size ≤ j ∧ j ≠ w.heap.size:=by
           intro j hj
           rcases HO.out with ⟨_,⟨e,_⟩ | ⟨g2,cap2,cur,e,hg2,hh,_⟩⟩
           · rw [e] at hj; simp [Value.ownBlock] at hj
           · rw [e] at hj; simp [Value.ownBlock] at hj; subst hj
             exact ⟨hg2,by rintro e2; rw [e2,hbl6] at hh; simp at hh⟩
         refine ⟨hown',?_,?_,?_⟩
         · rw [List.take_add_one,HRk.out]; exact HR7.out
         · exact ((HG.out.2.2.1.then HB7.out).alloc hz4 _).trans ((Upd.of_grown hg').below (fun j hj => (hkind j hj).1) (by have:=hbb.size; omega))
         · exact (Upd.of_grown hg').heap hbl6 (fun e => (hkind _ e).2 rfl))
       clear hown' hg' HR7 HX HO HW HB7 HB6 HL HA
       go_wp2_with fail
       go_roundw
       case rel => exact ⟨k + 1,_,by omega,by go_num,rfl,Lib.hid HG7.out⟩
       case measure => simp [intOf]; omega
   · have hkm : k = m:=by omega
     subst hkm
     clear hlt
     have HV:=Lib.hid HG.out.2.1
     have HWB:=Lib.hid HG.out.2.2.1
     have HO:=Lib.hid HG.out.1
     obtain ⟨wo,hwo⟩ : ∃ wo,wo = wr:=⟨_,rfl⟩
     subst hwo
     have hk1 : 1 ≤ k:=by have:=HM.out; omega
     obtain ⟨hvl,hown⟩:=HO.out
     rcases hown with ⟨_,h0⟩ | ⟨g,cap,cur,rfl,hg,hh,hnc,hcm,hcs,ht⟩
     · omega
     clear HG
     have HH:=Lib.hid hh
     have HT:=Lib.hid ht
     have HS:=Lib.hid (H.out.below HWB.out)
     have hlow : ∀ j,w.heap.size ≤ j → ¬ RowsOf L j:=by
       rintro j hj ⟨A,hA,rfl⟩
       have:=(H.out.lt.2.2 A hA).2.2
       omega
     have HLOW:=Lib.hid hlow
     have HGG:=Lib.hid hg
     have hnc2 : k ≤ cap:=hnc
     have hcap64 : cap ≤ 9223372036854775807:=by unfold maxLen at hcm; exact hcm
     clear hh ht hlow hvl hg hnc hcm hcs
     go_wp2_with fail
     go_loopw [57] (fun u WR => ∃ j : Nat,j ≤ k ∧ u = .int .i64 j ∧ Hid (StackIs WR p q c L (loadS C R j) ∧ Upd (RowsOf L) wo WR)) (fun u _ => k - (intOf u).toNat)
     case atStart => exact ⟨0,by omega,rfl,Lib.hid ⟨HS.out,Upd.refl _ _⟩⟩
     case round =>
       obtain ⟨j,hj,rfl,HJ⟩:=hrel
       by_cases hlj : j < k
       · obtain ⟨zs,hzs⟩ : ∃ zs,C[j]? = some zs:=⟨_,List.getElem?_eq_getElem (by have:=HN.out; have:=HM.out; omega)⟩
         obtain ⟨ys,hys⟩ : ∃ ys,C2[j]? = some ys:=⟨_,List.getElem?_eq_getElem (by have:=HN.out; have:=HM.out; omega)⟩
         obtain ⟨A,hA⟩ : ∃ A,L[j]? = some A:=⟨_,List.getElem?_eq_getElem (by have:=HN.out; have:=HM.out; omega)⟩
         obtain ⟨B,hB⟩ : ∃ B,L2[j]? = some B:=⟨_,List.getElem?_eq_getElem (by have:=HN.out; have:=HM.out; omega)⟩
         have hRk : R[j]? = some (List.zipWith (· - ·) zs ys):=by rw [← HR.out.1,List.getElem?_zipWith,hzs,hys]
         have hlz:=(H.out.lev j A zs hA hzs).len
         have hly:=(H2.out.lev j B ys hB hys).len
         have hlw : (List.zipWith (· - ·) zs ys).length = zs.length:=by rw [List.length_zipWith,hlz,hly,Nat.min_self]
         obtain ⟨x,hx⟩ : ∃ x,vs[j]? = some x:=⟨_,List.getElem?_eq_getElem (by have:=HV.out.1; rw [List.length_take] at this; have:=HR.out.2; have:=HN.out; have:=HM.out; omega)⟩
         obtain ⟨gk,ck,rfl,hik,hgk⟩:=HV.out.2 j x _ hx (by rw [List.getElem?_take,if_pos hlj]; exact hRk)
         have hzj : (loadS C R j)[j]? = some zs:=by rw [loadS_from _ _ _ _ (Nat.le_refl _)]; exact hzs
         have hnr:=HLOW.out gk hgk
         have K:=Lib.hid (stload_ok HJ.out.1 j A zs (List.zipWith (· - ·) zs ys) gk hA hzj (hik.upd HJ.out.2 hnr) hlw (fun e => hnr (e ▸ ⟨A,List.mem_of_getElem? hA,rfl⟩)) ck)
         have hcell : wr.cell? ⟨g,j,none⟩ = some (.slice (some ⟨gk,0,none⟩) (List.zipWith (· - ·) zs ys).length ck):=by
           refine (HJ.out.2.cell (lt_of_block HH.out) (HLOW.out g HGG.out) j).trans ?_
           refine (cell_of_row _ _ _ _ _ _ HH.out).trans ?_
           have h1:=congrArg (fun l => l[j]?) HT.out
           simp only [Nat.mul_one] at h1
           rw [List.getElem?_take,if_pos hlj,hx] at h1
           simpa using h1
         have HRG:=Lib.hid (show R.getD j [] = List.zipWith (· - ·) zs ys by rw [List.getD_eq_getElem?_getD,hRk]; rfl)
         generalize (List.zipWith (· - ·) zs ys).length = zl at *
         clear hzs hys hA hB hRk hlz hly hlw hx hik hgk hzj hnr
         go_wp2_with (go_at_call 103; ((with_reducible refine K.out.mono ?_)); rintro e w4 ⟨rfl,hu,hs⟩)
         have HJ2:=Lib.hid (show StackIs w4 p q c L (loadS C R (j + 1)) ∧ Upd (RowsOf L) wo w4 from ⟨by rw [loadS,HRG.out]; exact hs,HJ.out.2.trans hu⟩)
         clear hu hs
         go_wp2_with fail
         go_roundw
         case rel => exact ⟨j + 1,by omega,by go_num,Lib.hid HJ2.out⟩
         case measure => simp [intOf]; omega
       · have hjk : j = k:=by omega
         subst hjk
         have HF:=Lib.hid (show Upd (RowsOf L) w wr ∧ StackIs wr p q c L R from ⟨(Upd.of_below HWB.out).then HJ.out.2 (fun i hi _ => hi),by
           have h1:=HJ.out.1
           have h2 : j = C.length:=by have:=HN.out; have:=HM.out; omega
           rw [h2,loadS_all _ _ HR.out.2] at h1
           exact h1⟩)
         go_wp2_with fail
         try rw [Exit.noGoto_ret]
         go_ret
         exact ⟨rfl,HF.out⟩
end Go.Proofs.YtejaocnhekjfiaaGreatDoor
namespace Go.Proofs.YtejaocnhekjfiaaGreatDoor
open Go.RowKit
set_option linter.unusedVariables false
set_option maxRecDepth 100000 in
set_option maxHeartbeats 4000000 in
theorem allsubtract_no {w p q c L C p2 q2 L2 C2} (h : StackIs w p q c L C) (h2 : StackIs w p2 q2 c L2 C2) (hmode : c.mode = 2) :
   Calls Tryz.prog 145 #[.agg #[.func (.func 146) #[] #[]],.pointer (some ⟨p,0,none⟩),.pointer (some ⟨p2,0,none⟩)] w (RVal (.int .i64 3) w):=by
 have hb0:=(Below.refl w.heap.size w).alloc (Nat.le_refl _) (.cells #[.func (.func 146) #[] #[]] 265)
 have hbl:=heap_alloc_new w (.cells #[.func (.func 146) #[] #[]] 265)
 have HB0:=Lib.hid hb0
 have HBL:=Lib.hid hbl
 have hlen:=h.len; have hlenC:=h.lenC; have hlen2:=h2.len; have hlenC2:=h2.lenC
 have b59:=h.ok.b59
 have KA:=Lib.hid (fun w' (hb : Below w.heap.size w w') => alike_ok (h.below hb) (h2.below hb))
 have KC:=Lib.hid (fun w' (hb : Below w.heap.size w w') => stconfig_any (h.below hb))
 obtain ⟨zs,hzs⟩ : ∃ zs,C[0]? = some zs:=⟨_,List.getElem?_eq_getElem (by omega)⟩
 obtain ⟨ys,hys⟩ : ∃ ys,C2[0]? = some ys:=⟨_,List.getElem?_eq_getElem (by omega)⟩
 have KX:=Lib.hid (fun w' (hb : Below w.heap.size w w') => stat_ok (h.below hb) 0 (L[0]'(by omega)) zs (List.getElem?_eq_getElem _) hzs)
 have KY:=Lib.hid (fun w' (hb : Below w.heap.size w w') => stat_ok (h2.below hb) 0 (L2[0]'(by omega)) ys (List.getElem?_eq_getElem _) hys)
 have HMODE:=Lib.hid hmode
 clear h h2 hlen hlenC hlen2 hlenC2 hb0 hzs hys hmode
 go_enter Tryz.func145,Tryz.ntmps145
 go_wp2_with fail
 go_step3
 go_wp2_with fail
 refine (KA.out _ HB0.out).mono ?_
 rintro e w1 ⟨rfl,hb⟩
 have HB1:=Lib.hid (HB0.out.then hb)
 have hbl1:=(hb.block _ (lt_of_block HBL.out)).trans HBL.out
 have HBL1:=Lib.hid hbl1
 clear hb HBL hbl HB0 KA hbl1
 go_wp2_with fail
 go_step3
 go_wp2_with fail
 refine (KC.out _ HB1.out).mono ?_
 rintro e w2 ⟨rfl,hb⟩
 have HB2:=Lib.hid (HB1.out.then hb)
 have HBL2:=Lib.hid ((hb.block _ (lt_of_block HBL1.out)).trans HBL1.out)
 clear hb HBL1 HB1 KC
 unfold cfgV
 obtain ⟨m,hm⟩ : ∃ m,c.bits + 1 = m:=⟨_,rfl⟩
 have HM:=Lib.hid hm
 have hw1 : IntKind.i64.wrap ((c.bits : Int) + 1) = (m : Int):=by rw [IntWalk.i64_in _ (by omega)]; omega
 have hm1 : 0 < m:=by omega
 go_wp2_with fail
 go_loopw [24] (fun u24 wr => u24 = .int .i64 0 ∧ wr = w2) (fun _ _ => 0)
 case atStart => exact ⟨rfl,rfl⟩
 case round =>
   obtain ⟨rfl,rfl⟩:=hrel
   have K1:=Lib.hid (KX.out _ HB2.out)
   have K2:=Lib.hid (fun w' (hb : Below wr.heap.size wr w') => KY.out w' (HB2.out.then hb))
   go_wp2_with fail
   refine K1.out.mono ?_
   rintro e w3 ⟨v,rfl,A,rfl,hA,hA1,hA2,hA3,hb⟩
   have HA:=Lib.hid hA
   have HB3:=Lib.hid hb
   clear hA hb K1
   generalize hlv : levV c 0 A = lv at *
   have HLV:=Lib.hid hlv
   clear hlv
   go_wp2_with fail
   refine (K2.out _ HB3.out).mono ?_
   rintro e w4 ⟨v2,rfl,B,rfl,hB,hB1,hB2,hB3,hb⟩
   have K3:=Lib.hid (levsubtract_no (HA.out.below hb) hB HMODE.out)
   have hb5:=HB3.out.then hb
   have hbl5:=(hb5.block _ (lt_of_block HBL2.out)).trans HBL2.out
   have c3 : w4.cell? ⟨w.heap.size,0,none⟩ = some (.func (.func 146) #[] #[]):=(cell_of_row _ _ _ _ _ _ hbl5).trans rfl
   have HB5:=Lib.hid (HB2.out.then hb5)
   rw [HLV.out] at K3
   generalize hlv2 : levV c 0 B = lv2 at *
   clear hB hB1 hB2 hB3 hb hb5 hbl5 K2 HB3 hlv2
   go_wp2_with fail
   refine K3.out.mono ?_
   rintro e w5 ⟨rfl,hb⟩
   have HB6:=Lib.hid (HB5.out.then hb)
   clear hb
   go_wp2_with fail
   try rw [Exit.noGoto_ret]
   go_ret
   exact ⟨rfl,HB6.out⟩
set_option maxRecDepth 100000 in
set_option maxHeartbeats 1000000 in
theorem merge_ok {w p q c L C p2 q2 L2 C2} (h : StackIs w p q c L C) (h2 : StackIs w p2 q2 c L2 C2) (f1 : ∀ zs ∈ C,FitL 4611686018427387903 zs) (f2 : ∀ zs ∈ C2,FitL 4611686018427387903 zs) :
   Calls Tryz.prog 94 #[.pointer (some ⟨p,0,none⟩),.pointer (some ⟨p2,0,none⟩)] w (RSt w p q c L (List.zipWith (List.zipWith (· + ·)) C C2) (.int .i64 0)):=by
 have K:=Lib.hid (allmerge_ok h h2 f1 f2)
 clear h h2 f1 f2
 generalize List.zipWith (List.zipWith (· + ·)) C C2 = R at *
 go_enter Tryz.func94,Tryz.ntmps94
 go_wp2_with fail
 refine K.out.mono ?_
 rintro e w1 ⟨rfl,hu,hs⟩
 have HU:=Lib.hid (And.intro hu hs); clear hu hs
 go_wp2_with fail
 go_ret
 exact ⟨rfl,HU.out⟩
set_option maxRecDepth 100000 in
set_option maxHeartbeats 1000000 in
theorem subtract_ok {w p q c L C p2 q2 L2 C2} (h : StackIs w p q c L C) (h2 : StackIs w p2 q2 c L2 C2) (f1 : ∀ zs ∈ C,FitL 4611686018427387903 zs) (f2 : ∀ zs ∈ C2,FitL 4611686018427387903 zs) (hm : c.mode ≠ 2) :
   Calls Tryz.prog 95 #[.pointer (some ⟨p,0,none⟩),.pointer (some ⟨p2,0,none⟩)] w (RSt w p q c L (List.zipWith (List.zipWith (· - ·)) C C2) (.int .i64 0)):=by
 have K:=Lib.hid (allsubtract_ok h h2 f1 f2 hm)
 clear h h2 f1 f2 hm
 generalize List.zipWith (List.zipWith (· - ·)) C C2 = R at *
 go_enter Tryz.func95,Tryz.ntmps95
 go_wp2_with fail
 refine K.out.mono ?_
 rintro e w1 ⟨rfl,hu,hs⟩
 have HU:=Lib.hid (And.intro hu hs); clear hu hs
 go_wp2_with fail
 go_ret
 exact ⟨rfl,HU.out⟩
set_option maxRecDepth 100000 in
set_option maxHeartbeats 1000000 in
theorem subtract_no {w p q c L C p2 q2 L2 C2} (h : StackIs w p q c L C) (h2 : StackIs w p2 q2 c L2 C2) (hm : c.mode = 2) :
   Calls Tryz.prog 95 #[.pointer (some ⟨p,0,none⟩),.pointer (some ⟨p2,0,none⟩)] w (RVal (.int .i64 3) w):=by
 have K:=Lib.hid (allsubtract_no h h2 hm)
 clear h h2 hm
 go_enter Tryz.func95,Tryz.ntmps95
 go_wp2_with fail
 refine K.out.mono ?_
 rintro e w1 ⟨rfl,hb⟩
 have HU:=Lib.hid hb; clear hb
 go_wp2_with fail
 go_ret
 exact ⟨rfl,HU.out⟩
end Go.Proofs.YtejaocnhekjfiaaGreatDoor
namespace Go.Proofs.YtejaocnhekjfiaaGreatDoor
open Go.RowKit
set_option linter.unusedVariables false
def PAt (w : World) (b : Nat) (h l : Int) : Prop:=w.heap[b]? = some (.cells #[.int .i64 h,.int .u64 l] 148 (0,0))
theorem PAt.c0 {w b h l} (k : PAt w b h l) : w.cell? ⟨b,0,none⟩ = some (.int .i64 h):=(cell_of_row _ _ _ _ _ _ k).trans rfl
theorem PAt.c1 {w b h l} (k : PAt w b h l) : w.cell? ⟨b,1,none⟩ = some (.int .u64 l):=(cell_of_row _ _ _ _ _ _ k).trans rfl
theorem PAt.f {w b h l} (k : PAt w b h l) (i : Nat) : w.frozen? ⟨b,i,none⟩ = false:=frozen_of_row _ _ _ _ _ k
theorem PAt.new (w : World) (h l : Int) {b : Nat} (hb : b = w.heap.size) : PAt (w.alloc (.cells #[.int .i64 h,.int .u64 l] 148)) b h l:=by subst hb; exact heap_alloc_new w _
theorem PAt.below {w w' b h l} (k : PAt w b h l) (hb : Below w.heap.size w w') : PAt w' b h l:=(hb.block b (lt_of_block k)).trans k
theorem PAt.alloc {w b h l} (k : PAt w b h l) (o : Obj) : PAt (w.alloc o) b h l:=k.below ((Below.refl _ _).alloc (Nat.le_refl _) o)
theorem PAt.drew {w b h l} (k : PAt w b h l) : PAt w.drew b h l:=k
theorem then_draw {w w0 w' : World} (h : Below w.heap.size w w0) (hb : Below w0.drew.heap.size w0.drew w') : Below w.heap.size w w':=h.drew.then hb
theorem then_make {w w0 w' : World} {p : Obj} (h : Below w.heap.size w w0) (hb : Below (w0.alloc p).heap.size (w0.alloc p) w') : Below w.heap.size w w':=(h.alloc h.size p).then hb
theorem then_make_draw {w w0 w' : World} {p : Obj} (h : Below w.heap.size w w0) (hb : Below (w0.alloc p).drew.heap.size (w0.alloc p).drew w') : Below w.heap.size w w':=(h.alloc h.size p).drew.then hb
theorem two_set {w : World} {g : Nat} {x y p q : Value} {t : TypeId} (h : w.heap[g]? = some (.cells #[p,q] t (0,0))) : ((w.setCell ⟨g,0,none⟩ x).setCell ⟨g,1,none⟩ y).heap[g]? = some (.cells #[x,y] t (0,0)):=by
 rw [heap_setCell_same _ _ _ _ _ _ (heap_setCell_same _ _ _ _ _ _ h)]; rfl
theorem two_other {w : World} {g b : Nat} {x y : Value} {o : Obj} (h : w.heap[b]? = some o) (hn : b ≠ g) : ((w.setCell ⟨g,0,none⟩ x).setCell ⟨g,1,none⟩ y).heap[b]? = some o:=by
 rw [heap_setCell_other _ _ _ _ hn,heap_setCell_other _ _ _ _ hn]; exact h
theorem two_keep {w : World} {g q i : Nat} {v x y : Value} (h : w.cell? ⟨g,i,none⟩ = some v) (hn : g ≠ q) : ((w.setCell ⟨q,0,none⟩ x).setCell ⟨q,1,none⟩ y).cell? ⟨g,i,none⟩ = some v:=by
 rw [World.cell?_setCell_other _ _ _ _ (by intro h2; exact hn (congrArg Addr.block h2).symm),World.cell?_setCell_other _ _ _ _ (by intro h2; exact hn (congrArg Addr.block h2).symm)]; exact h
def ZAt (v0 w : World) (q : Nat) : Prop:=v0.heap.size ≤ q ∧ PAt w q 0 0
theorem zat_keep {v0 w w' : World} {q : Nat} (z : ZAt v0 w q) (hb : Below w.heap.size w w') : ZAt v0 w' q:=⟨z.1,z.2.below hb⟩
theorem zat_make {v0 w w' : World} (t : Below v0.heap.size v0 w) (hb : Below (w.alloc (.cells #[.int .i64 0,.int .u64 0] 148)).heap.size (w.alloc (.cells #[.int .i64 0,.int .u64 0] 148)) w') : ZAt v0 w' w.heap.size:=⟨t.size,(PAt.new w 0 0 rfl).below hb⟩
theorem zat_make_draw {v0 w w' : World} (t : Below v0.heap.size v0 w) (hb : Below (w.alloc (.cells #[.int .i64 0,.int .u64 0] 148)).drew.heap.size (w.alloc (.cells #[.int .i64 0,.int .u64 0] 148)).drew w') : ZAt v0 w' w.heap.size:=⟨t.size,(PAt.new w 0 0 rfl).drew.below hb⟩
set_option maxRecDepth 100000 in
set_option maxHeartbeats 1000000 in
theorem skconfig_any {w b g r c n zs} (h : SkIs w b g r c n zs) : Calls Tryz.prog 216 #[.pointer (some ⟨b,0,none⟩)] w fun e w' => e = .returned (cfgV c) ∧ Below w.heap.size w w':=by
 obtain ⟨c0,c1,c2,c3,c4,c5,c6⟩:=h.cells
 have e1:=fun o => cell_make c1 o
 have e2:=fun o => cell_make c2 o
 have e3:=fun o => cell_make c3 o
 have e4:=fun o => cell_make c4 o
 have e5:=fun o => cell_make c5 o
 clear h
 go_enter Tryz.func216,Tryz.ntmps216
 go_wp2_with fail
 exact bodyPost_ret (v:=cfgV c) (by simp [results,Tryz.results216,go_sem,cfgV]) rfl ⟨rfl,(Below.refl _ _).alloc (Nat.le_refl _) _⟩
set_option maxRecDepth 100000 in
set_option maxHeartbeats 1000000 in
theorem sklevel_any {w b g r c n zs} (h : SkIs w b g r c n zs) : Calls Tryz.prog 217 #[.pointer (some ⟨b,0,none⟩)] w fun e w' => e = .returned (.int .i64 n) ∧ w = w':=by
 obtain ⟨c0,c1,c2,c3,c4,c5,c6⟩:=h.cells
 clear h
 go_enter Tryz.func217,Tryz.ntmps217
 go_wp2_with fail
 go_ret
 exact ⟨rfl,rfl⟩
set_option maxRecDepth 100000 in
set_option maxHeartbeats 1000000 in
theorem exconfig_any {w b g r c n zs} (h : ArrIs w b g r c n zs) : Calls Tryz.prog 187 #[.pointer (some ⟨b,0,none⟩)] w fun e w' => e = .returned (cfgV c) ∧ Below w.heap.size w w':=by
 obtain ⟨c0,c1,c2,c3,c4,c5,c6⟩:=h.cells
 have e0:=fun o => cell_make c0 o
 have e1:=fun o => cell_make c1 o
 have e2:=fun o => cell_make c2 o
 have e3:=fun o => cell_make c3 o
 have e4:=fun o => cell_make c4 o
 clear h
 go_enter Tryz.func187,Tryz.ntmps187
 go_wp2_with fail
 exact bodyPost_ret (v:=cfgV c) (by simp [results,Tryz.results187,go_sem,cfgV]) rfl ⟨rfl,(Below.refl _ _).alloc (Nat.le_refl _) _⟩
set_option maxRecDepth 100000 in
set_option maxHeartbeats 1000000 in
theorem exlevel_any {w b g r c n zs} (h : ArrIs w b g r c n zs) : Calls Tryz.prog 188 #[.pointer (some ⟨b,0,none⟩)] w fun e w' => e = .returned (.int .i64 n) ∧ w = w':=by
 obtain ⟨c0,c1,c2,c3,c4,c5,c6⟩:=h.cells
 clear h
 go_enter Tryz.func188,Tryz.ntmps188
 go_wp2_with fail
 go_ret
 exact ⟨rfl,rfl⟩
end Go.Proofs.YtejaocnhekjfiaaGreatDoor
namespace Go.Proofs.YtejaocnhekjfiaaGreatDoor.S02
open Go.RowKit
set_option linter.unusedVariables false
theorem mul_any (x y : Int) (w : World) (hx : 0 ≤ x) (hx2 : x ≤ 18446744073709551615) (hy : 0 ≤ y) (hy2 : y ≤ 18446744073709551615) :
   Calls Tryz.prog 157 #[.int .u64 x,.int .u64 y] w fun e w' => e = .returned (.tuple #[.int .u64 (x * y / 18446744073709551616),.int .u64 (x * y % 18446744073709551616)]) ∧ w' = w:=by
 obtain ⟨X,rfl⟩:=Int.eq_ofNat_of_zero_le hx
 obtain ⟨Y,rfl⟩:=Int.eq_ofNat_of_zero_le hy
 have h:=Tryz.bits_Mul64 X Y (by omega) (by omega) w
 simpa using h
theorem u64_neg {a : Int} (h1 : -9223372036854775808 ≤ a) (h2 : a < 0) : IntKind.u64.wrap a = a + 18446744073709551616:=by rw [IntKind.wrap_u64]; omega
theorem w64_u64 {H : Int} (h1 : -9223372036854775808 ≤ H) (h2 : H ≤ 9223372036854775807) : wrap64 (IntKind.u64.wrap H) = H:=by
 rw [IntKind.wrap_u64]; unfold wrap64; omega
theorem prod_bound {a b : Int} (h1 : -9223372036854775808 ≤ a) (h2 : a ≤ 9223372036854775807) (h3 : -9223372036854775808 ≤ b) (h4 : b ≤ 9223372036854775807) :
   -85070591730234615865843651857942052864 ≤ a * b ∧ a * b ≤ 85070591730234615865843651857942052864:=by
 have key : a.natAbs * b.natAbs ≤ 9223372036854775808 * 9223372036854775808:=Nat.mul_le_mul (by omega) (by omega)
 rw [← Int.natAbs_mul] at key
 omega
set_option maxRecDepth 100000 in
set_option maxHeartbeats 1000000 in
theorem times_any (a b : Int) (w : World) (h1 : -9223372036854775808 ≤ a) (h2 : a ≤ 9223372036854775807) (h3 : -9223372036854775808 ≤ b) (h4 : b ≤ 9223372036854775807) :
   Calls Tryz.prog 220 #[.int .i64 a,.int .i64 b] w fun e w' => e = .returned (W (a * b)) ∧ Below w.heap.size w w':=by
 have hb:=prod_bound h1 h2 h3 h4
 rcases (show (0 ≤ a ∧ 0 ≤ b) ∨ (a < 0 ∧ 0 ≤ b) ∨ (0 ≤ a ∧ b < 0) ∨ (a < 0 ∧ b < 0) from by omega) with ⟨ga,gb⟩ | ⟨ga,gb⟩ | ⟨ga,gb⟩ | ⟨ga,gb⟩
 · have k:=fun w => mul_any a b w (by omega) (by omega) (by omega) (by omega)
   have hp : 0 ≤ a * b:=Int.mul_nonneg ga gb
   unfold W
   have hH : 0 ≤ hiOf (a * b) ∧ hiOf (a * b) ≤ 9223372036854775807:=by unfold hiOf; omega
   change ∀ w,Calls Tryz.prog 157 #[.int .u64 a,.int .u64 b] w fun e w' => e = .returned (.tuple #[.int .u64 (hiOf (a * b)),.int .u64 (loOf (a * b))]) ∧ w' = w at k
   generalize hiOf (a * b) = H at *
   generalize loOf (a * b) = L at *
   clear hb hp
   obtain ⟨hH1,hH2⟩:=hH
   have da : decide (a < 0) = false:=by simp; omega
   have db : decide (b < 0) = false:=by simp; omega
   go_enter Tryz.func220,Tryz.ntmps220
   go_wp2_with fail
   refine (k _).mono ?_
   rintro e w1 ⟨rfl,rfl⟩
   go_wp2
   exact bodyPost_ret (v:=.agg #[.int .i64 H,.int .u64 L]) (by simp [results,Tryz.results220,go_sem]) rfl ⟨rfl,(Below.refl _ _).alloc (Nat.le_refl _) _⟩
 · have hwa:=u64_neg h1 ga
   have e1 : (a + 18446744073709551616) * b = a * b + 18446744073709551616 * b:=by rw [Int.add_mul]
   have k:=fun w => mul_any (a + 18446744073709551616) b w (by omega) (by omega) (by omega) (by omega)
   rw [e1] at k
   have e2 : (a * b + 18446744073709551616 * b) % 18446744073709551616 = loOf (a * b):=by unfold loOf; omega
   have e3 : (a * b + 18446744073709551616 * b) / 18446744073709551616 = hiOf (a * b) + b:=by unfold hiOf; omega
   rw [e2,e3] at k
   have hH : -9223372036854775808 ≤ hiOf (a * b) ∧ hiOf (a * b) ≤ 9223372036854775807:=by unfold hiOf; omega
   unfold W
   generalize hiOf (a * b) = H at *
   generalize loOf (a * b) = L at *
   have hs : H + b - b = H:=by omega
   clear hb e1 e2 e3
   obtain ⟨hH1,hH2⟩:=hH
   have da : decide (a < 0) = true:=by simp; omega
   have db : decide (b < 0) = false:=by simp; omega
   generalize a + 18446744073709551616 = ua at *
   generalize H + b = M at *
   go_enter Tryz.func220,Tryz.ntmps220
   go_wp2_with fail
   refine (k _).mono ?_
   rintro e w1 ⟨rfl,rfl⟩
   go_wp2
   rw [w64_u64 hH1 hH2]
   exact bodyPost_ret (v:=.agg #[.int .i64 H,.int .u64 L]) (by simp [results,Tryz.results220,go_sem]) rfl ⟨rfl,(Below.refl _ _).alloc (Nat.le_refl _) _⟩
 · have hwb:=u64_neg h3 gb
   have e1 : a * (b + 18446744073709551616) = a * b + 18446744073709551616 * a:=by rw [Int.mul_add,Int.mul_comm a 18446744073709551616]
   have k:=fun w => mul_any a (b + 18446744073709551616) w (by omega) (by omega) (by omega) (by omega)
   rw [e1] at k
   have e2 : (a * b + 18446744073709551616 * a) % 18446744073709551616 = loOf (a * b):=by unfold loOf; omega
   have e3 : (a * b + 18446744073709551616 * a) / 18446744073709551616 = hiOf (a * b) + a:=by unfold hiOf; omega
   rw [e2,e3] at k
   have hH : -9223372036854775808 ≤ hiOf (a * b) ∧ hiOf (a * b) ≤ 9223372036854775807:=by unfold hiOf; omega
   unfold W
   generalize hiOf (a * b) = H at *
   generalize loOf (a * b) = L at *
   have hs : H + a - a = H:=by omega
   clear hb e1 e2 e3
   obtain ⟨hH1,hH2⟩:=hH
   have da : decide (a < 0) = false:=by simp; omega
   have db : decide (b < 0) = true:=by simp; omega
   generalize b + 18446744073709551616 = ub at *
   generalize H + a = M at *
   go_enter Tryz.func220,Tryz.ntmps220
   go_wp2_with fail
   refine (k _).mono ?_
   rintro e w1 ⟨rfl,rfl⟩
   go_wp2
   rw [w64_u64 hH1 hH2]
   exact bodyPost_ret (v:=.agg #[.int .i64 H,.int .u64 L]) (by simp [results,Tryz.results220,go_sem]) rfl ⟨rfl,(Below.refl _ _).alloc (Nat.le_refl _) _⟩
 · have hwa:=u64_neg h1 ga
   have hwb:=u64_neg h3 gb
   have e1 : (a + 18446744073709551616) * (b + 18446744073709551616) = a * b + 18446744073709551616 * a + 18446744073709551616 * b + 18446744073709551616 * 18446744073709551616:=by rw [Int.add_mul,Int.mul_add,Int.mul_add,Int.mul_comm a 18446744073709551616]; omega
   have k:=fun w => mul_any (a + 18446744073709551616) (b + 18446744073709551616) w (by omega) (by omega) (by omega) (by omega)
   rw [e1] at k
   have e2 : (a * b + 18446744073709551616 * a + 18446744073709551616 * b + 18446744073709551616 * 18446744073709551616) % 18446744073709551616 = loOf (a * b):=by unfold loOf; omega
   have e3 : (a * b + 18446744073709551616 * a + 18446744073709551616 * b + 18446744073709551616 * 18446744073709551616) / 18446744073709551616 = hiOf (a * b) + a + b + 18446744073709551616:=by unfold hiOf; omega
   rw [e2,e3] at k
   have hH : -9223372036854775808 ≤ hiOf (a * b) ∧ hiOf (a * b) ≤ 9223372036854775807:=by unfold hiOf; omega
   unfold W
   generalize hiOf (a * b) = H at *
   generalize loOf (a * b) = L at *
   have hs : H + a + b + 18446744073709551616 - (b + 18446744073709551616) = H + a:=by omega
   have hr : wrap64 (IntKind.u64.wrap (IntKind.u64.wrap (H + a) - (a + 18446744073709551616))) = H:=by
     rw [show wrap64 (IntKind.u64.wrap (IntKind.u64.wrap (H + a) - (a + 18446744073709551616))) = wrap64 (IntKind.u64.wrap H) from by
       rw [IntKind.wrap_u64,IntKind.wrap_u64,IntKind.wrap_u64]; congr 1; omega,w64_u64 hH.1 hH.2]
   clear hb e1 e2 e3
   obtain ⟨hH1,hH2⟩:=hH
   have da : decide (a < 0) = true:=by simp; omega
   have db : decide (b < 0) = true:=by simp; omega
   generalize H + a + b + 18446744073709551616 = M at *
   generalize a + 18446744073709551616 = ua at *
   generalize b + 18446744073709551616 = ub at *
   generalize H + a = N at *
   go_enter Tryz.func220,Tryz.ntmps220
   go_wp2_with fail
   refine (k _).mono ?_
   rintro e w1 ⟨rfl,rfl⟩
   go_wp2
   exact bodyPost_ret (v:=.agg #[.int .i64 H,.int .u64 L]) (by simp [results,Tryz.results220,go_sem]) rfl ⟨rfl,(Below.refl _ _).alloc (Nat.le_refl _) _⟩
end Go.Proofs.YtejaocnhekjfiaaGreatDoor.S02
