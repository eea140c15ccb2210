/- Walks and plain laws, part 3: S05Kth S05Contr Lin2 Change Raise Sk Sk2 Sk3 Sk4 Sk5 Sk6 Ex Ex2 Ex3 Ex4 Lev. -/
import Derived.Test.YtejaocnhekjfiaaGreatDoorK02
import Derived.StillTailTactics
namespace Go.Proofs.YtejaocnhekjfiaaGreatDoor.S05
open Go.RowKit
set_option linter.unusedVariables false
def lenAt (w : World) (b : Nat) : Nat:=match w.cell? ⟨b,0,none⟩ with
 | some (.slice _ n _) => n
 | _ => 0
theorem lenAt_of {w : World} {b : Nat} {a : Option Addr} {n c : Nat} {t : TypeId} (h : w.heap[b]? = some (.cells #[.slice a n c] t (0,0))) : lenAt w b = n:=by
 unfold lenAt; rw [cell_of_one h]
theorem _root_.Go.Proofs.YtejaocnhekjfiaaGreatDoor.Row.stored {w : World} {a : Option Addr} {n : Nat} {l : List Int} {B : Nat} {a' : Option Addr} {n' c' : Nat} {t : TypeId} (h : Row w a n (l.map i64v))
   (hB : w.heap[B]? = some (.cells #[.slice a' n' c'] t (0,0))) (v : Value) : Row (w.setCell ⟨B,0,none⟩ v) a n (l.map i64v):=by
 refine ⟨h.1,fun i x hx => ?_⟩
 obtain ⟨b,o,e,hc,hlt⟩:=h.2 i x hx
 refine ⟨b,o,e,?_,by simpa [World.setCell] using hlt⟩
 by_cases hb : b = B
 · subst hb
   rw [cell_of_row _ _ _ _ _ _ hB] at hc
   obtain ⟨y,_,rfl⟩:=List.mem_map.1 (List.mem_of_getElem? hx)
   match h2 : o + i,hc with
   | 0,hc => simp [i64v] at hc
   | (j + 1),hc => simp at hc
 · have : (w.setCell ⟨B,0,none⟩ v).cell? ⟨b,o + i,none⟩ = w.cell? ⟨b,o + i,none⟩:=World.cell?_of_block (heap_setCell_other _ _ _ _ hb)
   rw [this]; exact hc
theorem after_round {w w1 : World} {B : Nat} {a0 : Option Addr} {m c' : Nat} {a' : Option Addr} {n' c1 : Nat} {l : List Int} {X Y : Obj}
   (hB : w1.heap[B]? = some (.cells #[.slice a0 m c'] 419 (0,0))) (hr : Row w1 a' n' (l.map i64v)) (hb : Below w.heap.size w w1) (hle : w.heap.size ≤ B) :
   (((w1.setCell ⟨B,0,none⟩ (.slice a' n' c1)).alloc X).alloc Y).heap[B]? = some (.cells #[.slice a' n' c1] 419 (0,0)) ∧
   Row (((w1.setCell ⟨B,0,none⟩ (.slice a' n' c1)).alloc X).alloc Y) a' n' (l.map i64v) ∧
   Below w.heap.size w (((w1.setCell ⟨B,0,none⟩ (.slice a' n' c1)).alloc X).alloc Y):=by
 have h1:=one_setCell (u:=.slice a' n' c1) hB
 have hlt:=lt_of_block h1
 have hw : Below (w1.setCell ⟨B,0,none⟩ (.slice a' n' c1)).heap.size (w1.setCell ⟨B,0,none⟩ (.slice a' n' c1)) (((w1.setCell ⟨B,0,none⟩ (.slice a' n' c1)).alloc X).alloc Y):=
   ((Below.refl _ _).alloc (Nat.le_refl _) _).alloc (by rw [World.size_alloc]; omega) _
 have hb2:=hb.setCell (p:=⟨B,0,none⟩) hle (.slice a' n' c1)
 exact ⟨(hw.block _ hlt).trans h1,(hr.stored hB _).below hw,hb2.trans (hw.mono hb2.size)⟩
set_option maxRecDepth 100000 in
set_option maxHeartbeats 1000000 in
theorem kth_in (a : Option Addr) (n c : Nat) (k : Nat) (l : List Int) (w : World) (hl : Row w a n (l.map i64v)) (hn : n ≤ 1000) (hk : k < n) :
   Calls Tryz.prog 312 #[.slice a n c,.int .i64 (k : Int)] w fun e w' => e = .returned (.tuple #[.int .i64 (Ord.kth l k),.bool true]) ∧ Below w.heap.size w w':=by
 have hlen : l.length = n:=by have:=hl.1; simpa using this
 have hst : (w.alloc (.cells #[.slice a n c] 419)).heap[w.heap.size]? = some (.cells #[.slice a l.length c] 419 (0,0)):=by rw [hlen]; exact heap_alloc_new w _
 have hrow : Row (w.alloc (.cells #[.slice a n c] 419)) a l.length (l.map i64v):=by rw [hlen]; exact hl.below ((Below.refl _ _).alloc (Nat.le_refl _) _)
 have HS:=Lib.hid hst
 have HR:=Lib.hid hrow
 have HN:=Lib.hid hlen
 have hbel : Below w.heap.size w (w.alloc (.cells #[.slice a n c] 419)):=(Below.refl _ _).alloc (Nat.le_refl _) _
 clear hl hlen hst hrow
 have hk0 : (0 : Int) ≤ (k : Int):=by omega
 have hb1 : decide ((k : Int) < 0) = false:=by simp
 have hb2 : decide (n ≤ k) = false:=by simp; omega
 go_enter Tryz.func312,Tryz.ntmps312
 go_wp2
 go_step3
 go_wp2
 go_step3
 go_wp2
 generalize w.alloc (.cells #[.slice a n c] 419) = w0 at *
 go_loopw [1] (fun q wr => ∃ (j : Nat) (cur : List Int) (a' : Option Addr) (c' : Nat),q = .int .i64 j ∧ j < cur.length ∧ cur.length ≤ n ∧ (∀ x,Ord.Is cur j x → Ord.Is l k x) ∧ wr.heap[w.heap.size]? = some (.cells #[.slice a' cur.length c'] 419 (0,0)) ∧ Row wr a' cur.length (cur.map i64v) ∧ Below w.heap.size w wr) (fun _ wr => lenAt wr w.heap.size)
 case atStart => exact ⟨k,l,a,c,rfl,by rw [HN.out]; exact hk,by rw [HN.out]; exact Nat.le_refl _,fun _ h => h,HS.out,HR.out,hbel⟩
 case round =>
   obtain ⟨j,cur,a',c',rfl,hj,hcn,himp,hblk,hrow,hbr⟩:=hrel
   clear HS HR hbel
   have hla:=lenAt_of hblk
   have HLA:=Lib.hid hla; clear hla
   have cB:=cell_of_one hblk
   have fB:=free_of_one hblk
   have HB:=Lib.hid hblk; clear hblk
   have HR:=Lib.hid hrow; clear hrow
   have HI:=Lib.hid himp; clear himp
   obtain ⟨x,hx⟩ : ∃ x,cur[cur.length / 2]? = some x:=⟨cur[cur.length / 2]'(by omega),by rw [List.getElem?_eq_getElem]⟩
   obtain ⟨b,o,rfl,hc,hbl⟩:=HR.out.2 (cur.length / 2) (i64v x) (by simp [hx])
   have hcx : wr.cell? ⟨b,o + cur.length / 2,none⟩ = some (.int .i64 x):=hc
   have hxm : x ∈ cur:=List.mem_of_getElem? hx
   have hsame:=Ord.same_pos hxm
   have hlens:=Ord.lengths cur x
   have HLEN:=Lib.hid hlens
   have hl1 : (Ord.less cur x).length ≤ 1000:=by omega
   have hl2 : (Ord.more cur x).length ≤ 1000:=by omega
   have hl3 : Ord.same cur x ≤ 1000:=by omega
   clear hc hx hlens
   generalize hm : cur.length = m at *
   have HM:=Lib.hid hm; clear hm
   have hBw : w.heap.size < wr.heap.size:=by
     have:=HB.out
     exact lt_of_block this
   have hlens:=HLEN.out
   have hm':=HM.out
   rcases (show j < (Ord.less cur x).length ∨ (¬ j < (Ord.less cur x).length ∧ j < (Ord.less cur x).length + Ord.same cur x) ∨ ¬ j < (Ord.less cur x).length + Ord.same cur x from by omega) with h | ⟨h1,h2⟩ | h
   · clear hlens hm'
     go_wp2_with (go_at_call 313; refine (part_any _ m c' x cur _ HR.out (by omega)).mono ?_; rintro e w1 ⟨a1,c1,a2,c2,rfl,r1,r2,hb1'⟩; have dB : w1.cell? ⟨w.heap.size,0,none⟩ = some (.slice (some ⟨b,o,none⟩) m c'):=(hb1'.cell hBw).trans cB; have eB : w1.frozen? ⟨w.heap.size,0,none⟩ = false:=(hb1'.frozen hBw).trans fB; have hlt1 : w.heap.size < w1.heap.size:=Nat.lt_of_lt_of_le hBw hb1'.size; have HB1:=Lib.hid ((hb1'.block _ hBw).trans HB.out); have HR1:=Lib.hid r1; have HR2:=Lib.hid r2; clear r1 r2)
     go_roundw
     case rel =>
       obtain ⟨q1,q2,q3⟩:=after_round (c1:=c1) (X:=.cells #[.slice a1 (Ord.less cur x).length c1] 419) (Y:=.cells #[.slice a2 (Ord.more cur x).length c2] 419) HB1.out HR1.out (hbr.trans (hb1'.mono hbr.size)) (Nat.le_refl _)
       exact ⟨j,Ord.less cur x,a1,c1,rfl,by omega,by have:=HLEN.out; have:=HM.out; omega,fun y hy => HI.out y hy.of_less,q1,q2,q3⟩
     case measure =>
       obtain ⟨q1,q2,q3⟩:=after_round (c1:=c1) (X:=.cells #[.slice a1 (Ord.less cur x).length c1] 419) (Y:=.cells #[.slice a2 (Ord.more cur x).length c2] 419) HB1.out HR1.out (hbr.trans (hb1'.mono hbr.size)) (Nat.le_refl _)
       have e1:=lenAt_of q1
       have e2:=HLA.out
       have:=HLEN.out
       have:=HM.out
       show lenAt _ _ < lenAt _ _
       rw [e1,e2]; omega
   · clear hlens hm'
     have hge : (Ord.less cur x).length ≤ j:=by omega
     have hx : Ord.kth l k = x:=Ord.kth_eq (HI.out x (Ord.Is.of_same h1 h2))
     have HX:=Lib.hid hx; clear hx h1
     go_wp2_with (go_at_call 313; refine (part_any _ m c' x cur _ HR.out (by omega)).mono ?_; rintro e w1 ⟨a1,c1,a2,c2,rfl,r1,r2,hb1'⟩; have dB : w1.cell? ⟨w.heap.size,0,none⟩ = some (.slice (some ⟨b,o,none⟩) m c'):=(hb1'.cell hBw).trans cB; have eB : w1.frozen? ⟨w.heap.size,0,none⟩ = false:=(hb1'.frozen hBw).trans fB; have hlt1 : w.heap.size < w1.heap.size:=Nat.lt_of_lt_of_le hBw hb1'.size; have HB1:=Lib.hid ((hb1'.block _ hBw).trans HB.out); have HR1:=Lib.hid r1; have HR2:=Lib.hid r2; clear r1 r2)
     rw [Exit.noGoto_ret]
     go_ret2
     exact ⟨by rw [HX.out]; rfl,(hbr.trans (hb1'.mono hbr.size)).trans ((((Below.refl _ _).alloc (Nat.le_refl _) _).alloc (by simp) _).mono (by omega))⟩
   · have hge : (Ord.less cur x).length ≤ j:=by omega
     have hge2 : (Ord.less cur x).length + Ord.same cur x ≤ j:=by omega
     have hj2 : j - ((Ord.less cur x).length + Ord.same cur x) < (Ord.more cur x).length:=by omega
     clear hlens hm'
     go_wp2_with (go_at_call 313; refine (part_any _ m c' x cur _ HR.out (by omega)).mono ?_; rintro e w1 ⟨a1,c1,a2,c2,rfl,r1,r2,hb1'⟩; have dB : w1.cell? ⟨w.heap.size,0,none⟩ = some (.slice (some ⟨b,o,none⟩) m c'):=(hb1'.cell hBw).trans cB; have eB : w1.frozen? ⟨w.heap.size,0,none⟩ = false:=(hb1'.frozen hBw).trans fB; have hlt1 : w.heap.size < w1.heap.size:=Nat.lt_of_lt_of_le hBw hb1'.size; have HB1:=Lib.hid ((hb1'.block _ hBw).trans HB.out); have HR1:=Lib.hid r1; have HR2:=Lib.hid r2; clear r1 r2)
     go_roundw
     case rel =>
       obtain ⟨q1,q2,q3⟩:=after_round (c1:=c2) (X:=.cells #[.slice a1 (Ord.less cur x).length c1] 419) (Y:=.cells #[.slice a2 (Ord.more cur x).length c2] 419) HB1.out HR2.out (hbr.trans (hb1'.mono hbr.size)) (Nat.le_refl _)
       exact ⟨j - ((Ord.less cur x).length + Ord.same cur x),Ord.more cur x,a2,c2,(by go_num),by omega,by have:=HLEN.out; have:=HM.out; omega,fun y hy => HI.out y (Ord.Is.of_more (by omega) hy),q1,q2,q3⟩
     case measure =>
       obtain ⟨q1,q2,q3⟩:=after_round (c1:=c2) (X:=.cells #[.slice a1 (Ord.less cur x).length c1] 419) (Y:=.cells #[.slice a2 (Ord.more cur x).length c2] 419) HB1.out HR2.out (hbr.trans (hb1'.mono hbr.size)) (Nat.le_refl _)
       have e1:=lenAt_of q1
       have e2:=HLA.out
       have:=HLEN.out
       have:=HM.out
       show lenAt _ _ < lenAt _ _
       rw [e1,e2]; omega
end Go.Proofs.YtejaocnhekjfiaaGreatDoor.S05
namespace Go.Proofs.YtejaocnhekjfiaaGreatDoor.S05
open Go.RowKit
set_option linter.unusedVariables false
set_option maxRecDepth 100000 in
set_option maxHeartbeats 1000000 in
theorem kth_neg (a : Option Addr) (n c : Nat) (k : Int) (w : World) (hk : k < 0) :
   Calls Tryz.prog 312 #[.slice a n c,.int .i64 k] w fun e w' => e = .returned (.tuple #[.int .i64 0,.bool false]) ∧ w = w':=by
 go_enter Tryz.func312,Tryz.ntmps312
 go_wp2
 go_step3
 go_wp2
 rw [Exit.noGoto_ret]
 go_ret2
 exact ⟨rfl,rfl⟩
set_option maxRecDepth 100000 in
set_option maxHeartbeats 1000000 in
theorem kth_far (a : Option Addr) (n c : Nat) (k : Int) (w : World) (hk0 : 0 ≤ k) (hk : (n : Int) ≤ k) :
   Calls Tryz.prog 312 #[.slice a n c,.int .i64 k] w fun e w' => e = .returned (.tuple #[.int .i64 0,.bool false]) ∧ w = w':=by
 have hb1 : decide (k < 0) = false:=by simp; omega
 go_enter Tryz.func312,Tryz.ntmps312
 go_wp2
 go_step3
 go_wp2
 rw [Exit.noGoto_ret]
 go_ret2
 exact ⟨rfl,rfl⟩
noncomputable def kthOf (l : List Int) (k : Int) : Int:=if 0 ≤ k ∧ k < l.length then Ord.kth l k.toNat else 0
def kthOk (l : List Int) (k : Int) : Bool:=decide (0 ≤ k ∧ k < (l.length : Int))
theorem kth_any (a : Option Addr) (n c : Nat) (k : Int) (l : List Int) (w : World) (hl : Row w a n (l.map i64v)) (hn : n ≤ 1000) :
   Calls Tryz.prog 312 #[.slice a n c,.int .i64 k] w fun e w' => e = .returned (.tuple #[.int .i64 (kthOf l k),.bool (kthOk l k)]) ∧ Below w.heap.size w w':=by
 have hlen : l.length = n:=by have:=hl.1; simpa using this
 unfold kthOf kthOk
 by_cases h0 : k < 0
 · have e : ¬ (0 ≤ k ∧ k < (l.length : Int)):=by omega
   rw [if_neg e,decide_eq_false e]
   exact (kth_neg a n c k w h0).mono fun e w' ⟨h1,h2⟩ => ⟨h1,by rw [← h2]; exact Below.refl _ _⟩
 · by_cases h1 : (n : Int) ≤ k
   · have e : ¬ (0 ≤ k ∧ k < (l.length : Int)):=by omega
     rw [if_neg e,decide_eq_false e]
     exact (kth_far a n c k w (by omega) h1).mono fun e w' ⟨h1,h2⟩ => ⟨h1,by rw [← h2]; exact Below.refl _ _⟩
   · have e : (0 ≤ k ∧ k < (l.length : Int)):=by omega
     rw [if_pos e,decide_eq_true e]
     obtain ⟨j,rfl⟩:=Int.eq_ofNat_of_zero_le (show 0 ≤ k by omega)
     rw [Int.toNat_natCast]
     exact kth_in a n c j l w hl hn (by omega)
theorem min_any (a : Option Addr) (n c : Nat) (l : List Int) (w : World) (hl : Row w a n (l.map i64v)) (hn : n ≤ 1000) :
   Calls Tryz.prog 307 #[.slice a n c] w fun e w' => e = .returned (.tuple #[.int .i64 (kthOf l 0),.bool (kthOk l 0)]) ∧ Below w.heap.size w w':=by
 go_enter Tryz.func307,Tryz.ntmps307
 go_wp2_with (go_at_call 312; refine (kth_any a n c 0 l _ hl hn).mono ?_; rintro e w1 ⟨rfl,hb1⟩)
 go_ret2
 exact ⟨rfl,hb1⟩
def mid (n : Nat) : Int:=((n : Int) - 1).tdiv 2
theorem mid_eq (n : Nat) : mid n = (((n - 1) / 2 : Nat) : Int):=by
 unfold mid
 rcases Nat.eq_zero_or_pos n with h | h
 · subst h; rfl
 · rw [Int.tdiv_eq_ediv_of_nonneg (by omega)]; omega
theorem median_any (a : Option Addr) (n c : Nat) (l : List Int) (w : World) (hl : Row w a n (l.map i64v)) (hn : n ≤ 1000) :
   Calls Tryz.prog 309 #[.slice a n c] w fun e w' => e = .returned (.tuple #[.int .i64 (kthOf l (mid n)),.bool (kthOk l (mid n))]) ∧ Below w.heap.size w w':=by
 go_enter Tryz.func309,Tryz.ntmps309
 go_wp2_with (go_at_call 312; refine (kth_any a n c (((n : Int) - 1).tdiv 2) l _ hl hn).mono ?_; rintro e w1 ⟨rfl,hb1⟩)
 go_ret2
 exact ⟨rfl,hb1⟩
theorem kthOf_eq {l : List Int} {k : Nat} {x : Int} (h : Ord.Is l k x) : kthOf l (k : Int) = x ∧ kthOk l (k : Int) = true:=by
 have hlt:=h.lt
 unfold kthOf kthOk
 have e : (0 ≤ (k : Int) ∧ (k : Int) < (l.length : Int)):=by omega
 rw [if_pos e,decide_eq_true e,Int.toNat_natCast]
 exact ⟨Ord.kth_eq h,rfl⟩
theorem kthOf_is {l : List Int} {k : Nat} (h : k < l.length) : Ord.Is l k (kthOf l (k : Int)):=by
 have:=Ord.kth_is h
 rw [(kthOf_eq this).1]; exact this
end Go.Proofs.YtejaocnhekjfiaaGreatDoor.S05
namespace Go.Proofs.YtejaocnhekjfiaaGreatDoor
open Go.RowKit
set_option linter.unusedVariables false
noncomputable def minV (l : List Int) : Int:=S05.kthOf l 0
noncomputable def midV (l : List Int) : Int:=S05.kthOf l (S05.mid l.length)
theorem NewInts.toRow {w w1 : World} {zs : List Int} {v : Value} (h : NewInts w zs v w1) : ∃ a c,v = .slice a zs.length c ∧ Row w1 a zs.length (zs.map S05.i64v):=by
 obtain ⟨g,c,rfl,hi,_⟩:=h
 exact ⟨_,c,rfl,hi.toRow⟩
set_option maxRecDepth 100000 in
set_option maxHeartbeats 1000000 in
theorem of_least {w g r R W zs b cols} (h : GridIs w g r R W zs) (hc : ColsI w b (cI cols)) (hm : Meet cols R W) (cap : Nat) :
   Calls Tryz.prog 308 #[.agg #[.func (.func 307) #[] #[]],.pointer (some ⟨g,0,none⟩),.slice (some ⟨b,0,none⟩) R cap] w fun e w' =>
     e = .returned (.tuple #[.int .i64 (minV (readC W zs cols)),.int .i64 0]) ∧ Below w.heap.size w w':=by
 have hb1:=(Below.refl w.heap.size w).alloc (Nat.le_refl _) (.cells #[.func (.func 307) #[] #[]] 415)
 have KR:=Lib.hid (read_ok (h.below hb1) (hc.below hb1) hm cap)
 have B0:=Lib.hid (heap_alloc_new w (.cells #[.func (.func 307) #[] #[]] 415))
 have HL:=Lib.hid (show (readC W zs cols).length ≤ 1000 by rw [readC_len,hm.len]; have:=h.r8; omega)
 have HB:=Lib.hid hb1
 clear h hc hm hb1
 generalize readC W zs cols = l at *
 go_enter Tryz.func308,Tryz.ntmps308
 go_wp2_with fail
 refine KR.out.mono ?_
 rintro e w2 ⟨v,rfl,hv⟩
 obtain ⟨a,c,rfl,hrow⟩:=hv.toRow
 have KT:=Lib.hid (S05.min_any a l.length c l w2 hrow HL.out)
 obtain ⟨_,_,_,_,_,_,_,hb2⟩:=hv
 have HB2:=Lib.hid (HB.out.trans (hb2.mono HB.out.size))
 have B2:=(hb2.block _ (lt_of_block B0.out)).trans B0.out
 have c0 : w2.cell? ⟨w.heap.size,0,none⟩ = some (.func (.func 307) #[] #[]):=(cell_of_row _ _ _ _ _ _ B2).trans rfl
 clear hrow hb2 B2 B0 KR HB
 go_wp2_with (go_at_call 307; ((with_reducible refine KT.out.mono ?_)); rintro e w3 ⟨rfl,hb3⟩)
 have HB3:=Lib.hid (HB2.out.then hb3); clear hb3
 go_wp2_with fail
 go_ret2
 exact ⟨rfl,HB3.out⟩
set_option maxRecDepth 100000 in
set_option maxHeartbeats 1000000 in
theorem least_ok {w g r R W zs b cols} (h : GridIs w g r R W zs) (hc : ColsI w b (cI cols)) (hm : Meet cols R W) (cap : Nat) :
   Calls Tryz.prog 302 #[.pointer (some ⟨g,0,none⟩),.slice (some ⟨b,0,none⟩) R cap] w fun e w' =>
     e = .returned (.tuple #[.int .i64 (minV (readC W zs cols)),.int .i64 0]) ∧ Below w.heap.size w w':=by
 have K:=Lib.hid (of_least h hc hm cap)
 clear h hc hm
 go_enter Tryz.func302,Tryz.ntmps302
 go_wp2_with (go_at_call 308; ((with_reducible refine K.out.mono ?_)); rintro e w3 ⟨rfl,hb3⟩)
 have HB3:=Lib.hid hb3; clear hb3
 go_wp2_with fail
 go_ret2
 exact ⟨rfl,HB3.out⟩
set_option maxRecDepth 100000 in
set_option maxHeartbeats 1000000 in
theorem of_middle {w g r R W zs b cols} (h : GridIs w g r R W zs) (hc : ColsI w b (cI cols)) (hm : Meet cols R W) (cap : Nat) :
   Calls Tryz.prog 308 #[.agg #[.func (.func 309) #[] #[]],.pointer (some ⟨g,0,none⟩),.slice (some ⟨b,0,none⟩) R cap] w fun e w' =>
     e = .returned (.tuple #[.int .i64 (midV (readC W zs cols)),.int .i64 0]) ∧ Below w.heap.size w w':=by
 have hb1:=(Below.refl w.heap.size w).alloc (Nat.le_refl _) (.cells #[.func (.func 309) #[] #[]] 415)
 have KR:=Lib.hid (read_ok (h.below hb1) (hc.below hb1) hm cap)
 have B0:=Lib.hid (heap_alloc_new w (.cells #[.func (.func 309) #[] #[]] 415))
 have HL:=Lib.hid (show (readC W zs cols).length ≤ 1000 by rw [readC_len,hm.len]; have:=h.r8; omega)
 have HB:=Lib.hid hb1
 clear h hc hm hb1
 generalize readC W zs cols = l at *
 go_enter Tryz.func308,Tryz.ntmps308
 go_wp2_with fail
 refine KR.out.mono ?_
 rintro e w2 ⟨v,rfl,hv⟩
 obtain ⟨a,c,rfl,hrow⟩:=hv.toRow
 have KT:=Lib.hid (S05.median_any a l.length c l w2 hrow HL.out)
 obtain ⟨_,_,_,_,_,_,_,hb2⟩:=hv
 have HB2:=Lib.hid (HB.out.trans (hb2.mono HB.out.size))
 have B2:=(hb2.block _ (lt_of_block B0.out)).trans B0.out
 have c0 : w2.cell? ⟨w.heap.size,0,none⟩ = some (.func (.func 309) #[] #[]):=(cell_of_row _ _ _ _ _ _ B2).trans rfl
 clear hrow hb2 B2 B0 KR HB
 go_wp2_with (go_at_call 309; ((with_reducible refine KT.out.mono ?_)); rintro e w3 ⟨rfl,hb3⟩)
 have HB3:=Lib.hid (HB2.out.then hb3); clear hb3
 go_wp2_with fail
 go_ret2
 exact ⟨rfl,HB3.out⟩
set_option maxRecDepth 100000 in
set_option maxHeartbeats 1000000 in
theorem middle_ok {w g r R W zs b cols} (h : GridIs w g r R W zs) (hc : ColsI w b (cI cols)) (hm : Meet cols R W) (cap : Nat) :
   Calls Tryz.prog 303 #[.pointer (some ⟨g,0,none⟩),.slice (some ⟨b,0,none⟩) R cap] w fun e w' =>
     e = .returned (.tuple #[.int .i64 (midV (readC W zs cols)),.int .i64 0]) ∧ Below w.heap.size w w':=by
 have K:=Lib.hid (of_middle h hc hm cap)
 clear h hc hm
 go_enter Tryz.func303,Tryz.ntmps303
 go_wp2_with (go_at_call 308; ((with_reducible refine K.out.mono ?_)); rintro e w3 ⟨rfl,hb3⟩)
 have HB3:=Lib.hid hb3; clear hb3
 go_wp2_with fail
 go_ret2
 exact ⟨rfl,HB3.out⟩
end Go.Proofs.YtejaocnhekjfiaaGreatDoor
namespace Go.Proofs.YtejaocnhekjfiaaGreatDoor
open Go.RowKit
set_option linter.unusedVariables false
def putC (W : Nat) (zs : List Int) (cols : List Nat) (vs : List Int) : Nat → List Int
 | 0 => zs
 | k + 1 => (putC W zs cols vs k).set (k * W + cols.getD k 0) (vs.getD k 0)
theorem putC_len (W : Nat) (zs : List Int) (cols : List Nat) (vs : List Int) (k : Nat) : (putC W zs cols vs k).length = zs.length:=by
 induction k with
 | zero => rfl
 | succ k ih => simp [putC,ih]
def mapTo (f : Int → Int) (l : List Int) (k : Nat) : List Int:=(l.take k).map f ++ l.drop k
theorem mapTo_zero (f : Int → Int) (l : List Int) : mapTo f l 0 = l:=by simp [mapTo]
theorem mapTo_all (f : Int → Int) (l : List Int) : mapTo f l l.length = l.map f:=by simp [mapTo]
theorem mapTo_len (f : Int → Int) {l : List Int} {k : Nat} : (mapTo f l k).length = l.length:=by simp [mapTo]; omega
theorem mapTo_at (f : Int → Int) {l : List Int} {k : Nat} {x : Int} (h : l[k]? = some x) : (mapTo f l k)[k]? = some x:=by
 obtain ⟨h1,h1'⟩:=List.getElem?_eq_some_iff.1 h
 unfold mapTo
 have hl : ((l.take k).map f).length = k:=by simp; omega
 rw [List.getElem?_append_right (by omega),hl,Nat.sub_self,List.getElem?_drop,Nat.add_zero]; exact h
theorem mapTo_set (f : Int → Int) {l : List Int} {k : Nat} {x : Int} (h : l[k]? = some x) : (mapTo f l k).set k (f x) = mapTo f l (k + 1):=by
 obtain ⟨h1,h1'⟩:=List.getElem?_eq_some_iff.1 h
 unfold mapTo
 have hl : ((l.take k).map f).length = k:=by simp; omega
 rw [List.set_append_right _ _ (by omega),hl,Nat.sub_self,List.take_add_one,h,List.map_append,List.append_assoc]
 congr 1
 rw [List.drop_eq_getElem_cons h1]
 rfl
def changeC (W : Nat) (zs : List Int) (cols : List Nat) (d : Int) : List Int:=putC W zs cols ((readC W zs cols).map (· + d)) cols.length
theorem ColsI.ne {w w' : World} {b r : Nat} {cs zs : List Int} (h : ColsI w b cs) (h2 : Ints w r zs) : b ≠ r:=by
 rintro rfl
 obtain ⟨s1,e1⟩:=h.row
 obtain ⟨s2,e2⟩:=h2.row
 rw [e1] at e2
 simp at e2
set_option maxRecDepth 100000 in
set_option maxHeartbeats 2000000 in
theorem change_ok {w g r R W zs b cols} (h : GridIs w g r R W zs) (hc : ColsI w b (cI cols)) (hm : Meet cols R W) (cap : Nat) (d : Int)
   (hf : FitL 4611686018427387903 (readC W zs cols)) (hd : -4611686018427387903 ≤ d ∧ d ≤ 4611686018427387903) :
   Calls Tryz.prog 305 #[.pointer (some ⟨g,0,none⟩),.slice (some ⟨b,0,none⟩) R cap,.int .i64 d] w (RGrid w g r R W (changeC W zs cols d)):=by
 have KR:=Lib.hid (read_ok h hc hm cap)
 have HG:=Lib.hid h
 have HC:=Lib.hid hc
 have HM:=Lib.hid hm
 have HF:=Lib.hid hf
 have hr8:=h.r8
 have HL:=Lib.hid (show (readC W zs cols).length = R by rw [readC_len,hm.len])
 have HX:=Lib.hid (show changeC W zs cols d = putC W zs cols ((readC W zs cols).map (· + d)) R by unfold changeC; rw [hm.len])
 have HR:=Lib.hid (And.intro h.row.lt h.glt)
 have HNE:=Lib.hid (hc.ne (w':=w) h.row)
 generalize readC W zs cols = vs at *
 clear h hc hm hf
 go_enter Tryz.func305,Tryz.ntmps305
 go_wp2_with fail
 refine KR.out.mono ?_
 rintro e w2 ⟨v,rfl,gl,cl,rfl,hi,hgl,hcl,hcl2,hb⟩
 rw [HL.out] at hcl
 rw [HL.out]
 have HI2:=Lib.hid hi
 have HGL:=Lib.hid hgl
 have HB2:=Lib.hid hb
 clear hi hgl hb KR
 go_wp2_with fail
 go_loopw [26] (fun u wr => ∃ k : Nat,k ≤ R ∧ u = .int .i64 k ∧ Hid (Ints wr gl (mapTo (· + d) vs k)) ∧ Hid (Below w.heap.size w wr)) (fun u _ => R - (intOf u).toNat)
 case atStart => exact ⟨0,Nat.zero_le _,rfl,Lib.hid (by rw [mapTo_zero]; exact HI2.out),Lib.hid HB2.out⟩
 case round =>
   obtain ⟨k,hk,rfl,HI,HB⟩:=hrel
   by_cases hlt : k < R
   · obtain ⟨x,hx⟩ : ∃ x,vs[k]? = some x:=⟨vs[k]'(by rw [HL.out]; exact hlt),List.getElem?_eq_getElem _⟩
     have hfx:=HF.out x (List.mem_of_getElem? hx)
     have KP:=Lib.hid (plus_in x d wr ⟨by omega,by omega⟩ ⟨by omega,by omega⟩)
     have HS:=Lib.hid (mapTo_set (· + d) hx)
     have o0:=HI.out.cell (mapTo_at (· + d) hx)
     clear hx hfx
     have hd':=Lib.hid hd
     clear hd
     go_wp2_with fail
     refine KP.out.mono ?_
     rintro e w3 ⟨rfl,hb⟩
     have HI3:=Lib.hid (HI.out.below hb)
     have HB3:=Lib.hid (HB.out.trans (hb.mono HB.out.size))
     have hl3 : k < (mapTo (· + d) vs k).length:=by rw [mapTo_len,HL.out]; exact hlt
     obtain ⟨z,hz⟩ : ∃ z,(mapTo (· + d) vs k)[k]? = some z:=⟨_,List.getElem?_eq_getElem hl3⟩
     have o1:=HI3.out.cell hz
     have f1:=HI3.out.frozen k
     have HL3:=Lib.hid hl3
     clear hb hl3 hz
     go_wp2_with fail
     go_roundw
     case rel =>
       refine ⟨k + 1,by omega,by go_num,Lib.hid ?_,Lib.hid (HB3.out.setCell (p:=⟨gl,k,none⟩) HGL.out _)⟩
       rw [← HS.out]
       exact HI3.out.set k (x + d) HL3.out
     case measure => simp [intOf]; omega
   · have hkk : k = R:=by omega
     have hfa : decide (k < R) = false:=by simpa using hlt
     have HI2:=Lib.hid (show Ints wr gl (vs.map (· + d)) by have:=HI.out; rw [hkk,← HL.out,mapTo_all] at this; exact this)
     have HLv:=Lib.hid (show (vs.map (· + d)).length = R by simp [HL.out])
     clear hlt hkk HI
     generalize vs.map (· + d) = us at *
     obtain ⟨w5,rfl⟩ : ∃ w5 : World,w5 = wr:=⟨_,rfl⟩
     have HG5:=Lib.hid (HG.out.below HB.out)
     have HC5:=Lib.hid (HC.out.below HB.out)
     go_wp2_with fail
     go_loopw [46] (fun u wr => ∃ j : Nat,j ≤ R ∧ u = .int .i64 j ∧ Hid (GridIs wr g r R W (putC W zs cols us j)) ∧ Hid (Upd (· = r) w5 wr)) (fun u _ => R - (intOf u).toNat)
     case atStart => exact ⟨0,Nat.zero_le _,rfl,Lib.hid HG5.out,Lib.hid (Upd.refl _ _)⟩
     case round =>
       obtain ⟨j,hj,rfl,HGj,HU⟩:=hrel
       by_cases hlt : j < R
       · obtain ⟨x,hx,hxw⟩:=HM.out.at_ hlt
         obtain ⟨y,hy⟩ : ∃ y,us[j]? = some y:=⟨us[j]'(by rw [HLv.out]; exact hlt),List.getElem?_eq_getElem _⟩
         have hga:=grid_at HGj.out hlt hxw
         have KP:=Lib.hid (put_in HGj.out j x _ y hlt hxw rfl hga.2)
         have o0:=(HC5.out.upd HU.out (by have:=HNE.out; exact this)).cell (cI_at hx)
         have o1:=(HI2.out.upd HU.out (by have:=HR.out.1; have:=HGL.out; omega)).cell hy
         have HS:=Lib.hid (show (putC W zs cols us j).set (j * W + x) y = putC W zs cols us (j + 1) by
           simp only [putC,List.getD_eq_getElem?_getD,hx,hy]; rfl)
         have HN:=Lib.hid (HGj.out.set (j * W + x) y hga.2)
         clear hga hx hy
         go_wp2_with fail
         refine KP.out.mono ?_
         rintro e w6 ⟨rfl,rfl⟩
         have HN2:=Lib.hid (show GridIs (wr.setCell ⟨r,j * W + x,none⟩ (.int .i64 y)) g r R W (putC W zs cols us (j + 1)) by rw [← HS.out]; exact HN.out)
         have HU2:=Lib.hid (HU.out.trans (Upd.store (S:=(· = r)) wr r (j * W + x) (.int .i64 y) rfl))
         generalize wr.setCell ⟨r,j * W + x,none⟩ (.int .i64 y) = w7 at *
         go_wp2_with fail
         go_roundw
         case rel => exact ⟨j + 1,by omega,by go_num,Lib.hid HN2.out,Lib.hid HU2.out⟩
         case measure => simp [intOf]; omega
       · have hkk : j = R:=by omega
         have hfa2 : decide (j < R) = false:=by simpa using hlt
         have HF2:=Lib.hid (show GridIs wr g r R W (changeC W zs cols d) by have t:=HGj.out; rw [hkk] at t; rw [HX.out]; exact t)
         clear hlt hkk
         go_wp2_with fail
         go_ret
         exact ⟨rfl,(Upd.of_below HB.out).trans HU.out,HF2.out⟩
end Go.Proofs.YtejaocnhekjfiaaGreatDoor
namespace Go.Proofs.YtejaocnhekjfiaaGreatDoor
open Go.RowKit
set_option linter.unusedVariables false
def riseAt (zs : List Int) (p : Nat) (n : Int) : List Int:=if zs.getD p 0 < n then zs.set p n else zs
def riseC (W : Nat) (zs : List Int) (cols : List Nat) (n : Int) : Nat → List Int
 | 0 => zs
 | k + 1 => riseAt (riseC W zs cols n k) (k * W + cols.getD k 0) n
noncomputable def raiseC (W : Nat) (zs : List Int) (cols : List Nat) (d : Int) : List Int:=riseC W zs cols (minV (readC W zs cols) + d) cols.length
theorem GridIs.drewN {w g r R W zs} (h : GridIs w g r R W zs) (m : Nat) : GridIs (w.drewN m) g r R W zs:=h.upd (S:=fun _ => False) ((Upd.refl _ _).drewN m) id id
def NGrid (w : World) (g r R W : Nat) (zs : List Int) (e : Ending) (w' : World) : Prop:=e = .returned (.tuple #[]) ∧ Upd (· = r) w w' ∧ GridIs w' g r R W zs
set_option maxRecDepth 100000 in
set_option maxHeartbeats 1000000 in
theorem rise_any {w g r R W zs} (h : GridIs w g r R W zs) (row col b2 b3 : Nat) (n : Int) (hr : row < R) (hc : col < W)
   (h2 : w.cell? ⟨b2,0,none⟩ = some (.pointer (some ⟨g,0,none⟩))) (h3 : w.cell? ⟨b3,0,none⟩ = some (.int .i64 n)) :
   Calls Tryz.prog 310 #[.int .i64 row,.int .i64 col,.pointer (some ⟨b2,0,none⟩),.pointer (some ⟨b3,0,none⟩)] w (NGrid w g r R W (riseAt zs (row * W + col) n)):=by
 have hga:=grid_at h hr hc
 have KA:=fun m => (at_in (h.drewN m) row col _ _ hr hc rfl hga.1).turned
 have KP:=Lib.hid (fun m => put_in (h.drewN m) row col _ n hr hc rfl hga.2)
 have HN:=Lib.hid (fun m => (h.drewN m).set (row * W + col) n hga.2)
 have HG:=Lib.hid (fun m => h.drewN m)
 by_cases hlt : zs.getD (row * W + col) 0 < n
 · have HX:=Lib.hid (show riseAt zs (row * W + col) n = zs.set (row * W + col) n by unfold riseAt; rw [if_pos hlt])
   have g0 : decide (zs.getD (row * W + col) 0 < n) = true:=by simpa using hlt
   generalize zs.getD (row * W + col) 0 = y at *
   clear hga h hlt hr hc
   go_enter Tryz.func310,Tryz.ntmps310
   go_upto_region 0 with fail
   go_quiet ((go_at_call 294; exact Calls.quiet_of_same (KA _)))
   clear KA
   go_wp2_with fail
   refine (KP.out _).mono ?_
   rintro e w1 ⟨rfl,rfl⟩
   have HN2:=Lib.hid (HN.out nq)
   have HU2:=Lib.hid (((Upd.refl (· = r) w).drewN nq).trans (Upd.store (S:=(· = r)) (w.drewN nq) r (row * W + col) (.int .i64 n) rfl))
   generalize (w.drewN nq).setCell ⟨r,row * W + col,none⟩ (.int .i64 n) = w7 at *
   go_wp2_with fail
   go_end0
   exact ⟨rfl,HU2.out,by rw [HX.out]; exact HN2.out⟩
 · have HX:=Lib.hid (show riseAt zs (row * W + col) n = zs by unfold riseAt; rw [if_neg hlt])
   have g0 : decide (zs.getD (row * W + col) 0 < n) = false:=by simpa using hlt
   generalize zs.getD (row * W + col) 0 = y at *
   clear hga h hlt hr hc
   go_enter Tryz.func310,Tryz.ntmps310
   go_upto_region 0 with fail
   go_quiet ((go_at_call 294; exact Calls.quiet_of_same (KA _)))
   clear KA
   go_wp2_with fail
   go_end0
   exact ⟨rfl,(Upd.refl _ _).drewN _,by rw [HX.out]; exact HG.out _⟩
theorem riseC_len (W : Nat) (zs : List Int) (cols : List Nat) (n : Int) (k : Nat) : (riseC W zs cols n k).length = zs.length:=by
 induction k with
 | zero => rfl
 | succ k ih => unfold riseC riseAt; split <;> simp [ih]
set_option maxRecDepth 100000 in
set_option maxHeartbeats 2000000 in
theorem raise_ok {w g r R W zs b cols} (h : GridIs w g r R W zs) (hc : ColsI w b (cI cols)) (hm : Meet cols R W) (cap : Nat) (d : Int)
   (hf : -4611686018427387903 ≤ minV (readC W zs cols) ∧ minV (readC W zs cols) ≤ 4611686018427387903) (hd : 0 ≤ d ∧ d ≤ 4611686018427387903) :
   Calls Tryz.prog 304 #[.pointer (some ⟨g,0,none⟩),.slice (some ⟨b,0,none⟩) R cap,.int .i64 d] w (RGrid w g r R W (raiseC W zs cols d)):=by
 have hb1:=(Below.refl w.heap.size w).alloc (Nat.le_refl _) (.cells #[.pointer (some ⟨g,0,none⟩)] 291)
 have B0:=Lib.hid (heap_alloc_new w (.cells #[.pointer (some ⟨g,0,none⟩)] 291))
 have KL:=Lib.hid (least_ok (h.below hb1) (hc.below hb1) hm cap)
 have HG:=Lib.hid h
 have HC:=Lib.hid hc
 have HM:=Lib.hid hm
 have hr8:=h.r8
 have HX:=Lib.hid (show raiseC W zs cols d = riseC W zs cols (minV (readC W zs cols) + d) R by unfold raiseC; rw [hm.len])
 have HR:=Lib.hid (And.intro h.row.lt h.glt)
 have HNE:=Lib.hid (hc.ne (w':=w) h.row)
 have HB:=Lib.hid hb1
 generalize minV (readC W zs cols) = m at *
 have KP:=Lib.hid (fun w => plus_in m d w ⟨by omega,by omega⟩ ⟨by omega,by omega⟩)
 have c0 : (w.alloc (.cells #[.pointer (some ⟨g,0,none⟩)] 291)).cell? ⟨w.heap.size,0,none⟩ = some (.pointer (some ⟨g,0,none⟩)):=(cell_of_row _ _ _ _ _ _ B0.out).trans rfl
 have g0 : decide (d < 0) = false:=by simp; omega
 have C0:=Lib.hid c0
 clear h hc hm hb1 hf hd c0
 go_enter Tryz.func304,Tryz.ntmps304
 go_wp2_with fail
 refine KL.out.mono ?_
 rintro e w2 ⟨rfl,hb⟩
 have HB2:=Lib.hid (HB.out.trans (hb.mono HB.out.size))
 have c0:=below_cell hb C0.out
 have C1:=Lib.hid c0
 clear hb KL HB
 go_wp2_with fail
 refine (KP.out _).mono ?_
 rintro e w3 ⟨rfl,hb⟩
 have HB3:=Lib.hid (HB2.out.then hb)
 have c1:=below_cell hb C1.out
 have C2:=Lib.hid c1
 clear hb c0
 have C3:=Lib.hid (cell_make c1 (.cells #[.int .i64 (m + d)] 2))
 have D3:=Lib.hid (show (w3.alloc (.cells #[.int .i64 (m + d)] 2)).cell? ⟨w3.heap.size,0,none⟩ = some (.int .i64 (m + d)) from (cell_of_row _ _ _ _ _ _ (heap_alloc_new w3 (.cells #[.int .i64 (m + d)] 2))).trans rfl)
 have HB4:=Lib.hid (HB3.out.alloc HB3.out.size (.cells #[.int .i64 (m + d)] 2))
 have HZ:=Lib.hid (show w.heap.size ≤ w3.heap.size from HB3.out.size)
 have HL1:=Lib.hid (block_lt_of_cell C3.out)
 have HL2:=Lib.hid (block_lt_of_cell D3.out)
 clear c1
 go_wp2_with fail
 generalize w3.alloc (.cells #[.int .i64 (m + d)] 2) = w4 at *
 generalize w3.heap.size = bn at *
 generalize m + d = n at *
 have HG4:=Lib.hid (HG.out.below HB4.out)
 have HC4:=Lib.hid (HC.out.below HB4.out)
 go_loopw [36] (fun u wr => ∃ j : Nat,j ≤ R ∧ u = .int .i64 j ∧ Hid (GridIs wr g r R W (riseC W zs cols n j)) ∧ Hid (Upd (· = r) w4 wr)) (fun u _ => R - (intOf u).toNat)
 case atStart => exact ⟨0,Nat.zero_le _,rfl,Lib.hid HG4.out,Lib.hid (Upd.refl _ _)⟩
 case round =>
   obtain ⟨j,hj,rfl,HGj,HU⟩:=hrel
   by_cases hlt : j < R
   · obtain ⟨x,hx,hxw⟩:=HM.out.at_ hlt
     have o0:=(HC4.out.upd HU.out (by have:=HNE.out; exact this)).cell (cI_at hx)
     have p0 : wr.cell? ⟨w.heap.size,0,none⟩ = some (.pointer (some ⟨g,0,none⟩)):=(HU.out.cell HL1.out (by have:=HR.out.1; omega) 0).trans C3.out
     have p1 : wr.cell? ⟨bn,0,none⟩ = some (.int .i64 n):=(HU.out.cell HL2.out (by have:=HR.out.1; have:=HZ.out; omega) 0).trans D3.out
     have KX:=Lib.hid (rise_any HGj.out j x w.heap.size bn n hlt hxw p0 p1)
     have HS:=Lib.hid (show riseAt (riseC W zs cols n j) (j * W + x) n = riseC W zs cols n (j + 1) by
       simp only [riseC,List.getD_eq_getElem?_getD,hx]; rfl)
     clear hx p0 p1
     go_wp2_with fail
     refine KX.out.mono ?_
     rintro e w6 ⟨rfl,hu,hg⟩
     have HN2:=Lib.hid (show GridIs w6 g r R W (riseC W zs cols n (j + 1)) by rw [← HS.out]; exact hg)
     have HU2:=Lib.hid (HU.out.trans hu)
     clear hu hg
     go_wp2_with fail
     go_roundw
     case rel => exact ⟨j + 1,by omega,by go_num,Lib.hid HN2.out,Lib.hid HU2.out⟩
     case measure => simp [intOf]; omega
   · have hkk : j = R:=by omega
     have hfa2 : decide (j < R) = false:=by simpa using hlt
     have HF2:=Lib.hid (show GridIs wr g r R W (raiseC W zs cols d) by have t:=HGj.out; rw [hkk] at t; rw [HX.out]; exact t)
     clear hlt hkk
     go_wp2_with fail
     go_ret
     exact ⟨rfl,(Upd.of_below HB4.out).trans HU.out,HF2.out⟩
end Go.Proofs.YtejaocnhekjfiaaGreatDoor
namespace Go.Proofs.YtejaocnhekjfiaaGreatDoor
open Go.RowKit
set_option linter.unusedVariables false
def colsN (c : Cfg) (n key : Nat) : List Nat:=(List.range c.rows).map fun row => c.col n row key
theorem colsOf_eq (c : Cfg) (n key : Nat) : colsOf c n key = cI (colsN c n key):=by simp [colsOf,cI,colsN]
theorem colsN_meet (c : Cfg) (hc : c.ok) (n key : Nat) : Meet (colsN c n key) c.rows c.width:=
 ⟨by simp [colsN],fun x hx => by simp only [colsN,List.mem_map] at hx; obtain ⟨r,_,rfl⟩:=hx; exact c.col_lt hc _ _ _⟩
theorem SkIs.cells {w b g r c n zs} (h : SkIs w b g r c n zs) : w.cell? ⟨b,0,none⟩ = some (.pointer (some ⟨g,0,none⟩)) ∧ w.cell? ⟨b,1,none⟩ = some (.int .i64 c.bits) ∧ w.cell? ⟨b,2,none⟩ = some (.int .i64 c.rows) ∧ w.cell? ⟨b,3,none⟩ = some (.int .i64 c.width) ∧ w.cell? ⟨b,4,none⟩ = some (.int .i64 c.mode) ∧ w.cell? ⟨b,5,none⟩ = some (.int .u64 c.seed) ∧ w.cell? ⟨b,6,none⟩ = some (.int .i64 n):=
 ⟨(cell_of_row _ _ _ _ _ _ h.blk).trans rfl,(cell_of_row _ _ _ _ _ _ h.blk).trans rfl,(cell_of_row _ _ _ _ _ _ h.blk).trans rfl,(cell_of_row _ _ _ _ _ _ h.blk).trans rfl,(cell_of_row _ _ _ _ _ _ h.blk).trans rfl,(cell_of_row _ _ _ _ _ _ h.blk).trans rfl,(cell_of_row _ _ _ _ _ _ h.blk).trans rfl⟩
theorem SkIs.drewN {w b g r c n zs} (h : SkIs w b g r c n zs) (m : Nat) : SkIs (w.drewN m) b g r c n zs:=⟨h.blk,h.grid.drewN m⟩
def skRead (c : Cfg) (n : Nat) (zs : List Int) (key : Nat) : List Int:=readC c.width zs (colsN c n key)
noncomputable def skPoint (c : Cfg) (n : Nat) (zs : List Int) (key : Nat) : Int:=if c.mode = 3 then midV (skRead c n zs key) else minV (skRead c n zs key)
set_option maxRecDepth 100000 in
set_option maxHeartbeats 1000000 in
theorem skcells_any {w b g r c n zs} (h : SkIs w b g r c n zs) : Calls Tryz.prog 218 #[.pointer (some ⟨b,0,none⟩)] w (RNewInts w zs):=by
 obtain ⟨c0,_⟩:=h.cells
 have K:=Lib.hid (gcells_any h.grid)
 clear h
 go_enter Tryz.func218,Tryz.ntmps218
 go_wp2_with (go_at_call 221; ((with_reducible refine K.out.mono ?_)); rintro e w' ⟨v,rfl,hv⟩)
 have HV:=Lib.hid hv; clear hv
 go_wp2
 go_ret
 exact ⟨v,rfl,HV.out⟩
def NewColsN (c : Cfg) (n key : Nat) (w : World) (e : Ending) (w' : World) : Prop:=
 ∃ g : Nat,e = .returned (.slice (some ⟨g,0,none⟩) c.rows c.rows) ∧ ColsI w' g (cI (colsN c n key)) ∧ w.heap.size ≤ g ∧ Below w.heap.size w w'
theorem columnsN_ok (c : Cfg) (hc : c.ok) (n key : Nat) (hn : n ≤ c.bits) (hk : key < 2 ^ (c.bits - n)) (w : World) :
   Calls Tryz.prog 21 #[cfgV c,.int .i64 n,.int .u64 key] w (NewColsN c n key w):=
 (columns_ok c hc n key hn hk w).mono fun _ _ ⟨g,h1,h2,h3,h4⟩ => ⟨g,by rw [h1]; simp [colsOf],by rw [← colsOf_eq]; exact h2,h3,h4⟩
theorem undrew {w w1 : World} (h : Below w.drew.heap.size w.drew w1) : Below w.heap.size w w1:=⟨h.os,h.tape,h.output,h.size,h.block⟩
set_option maxRecDepth 100000 in
set_option maxHeartbeats 2000000 in
theorem skpoint_ok {w b g r c n zs} (h : SkIs w b g r c n zs) (hc : c.ok) (hn : n ≤ c.bits) (key : Nat) (hk : key < 2 ^ (c.bits - n)) :
   Calls Tryz.prog 299 #[.pointer (some ⟨b,0,none⟩),.int .u64 key] w fun e w' => e = .returned (.tuple #[.int .i64 (skPoint c n zs key),.int .i64 0]) ∧ Below w.heap.size w w':=by
 have hS:=h.cells
 obtain ⟨c0,c1,c2,c3,c4,c5,c6⟩:=h.cells
 have KC:=Lib.hid (fun w => columnsN_ok c hc n key hn hk w)
 have HS:=Lib.hid h
 have HM:=Lib.hid (colsN_meet c hc n key)
 unfold cfgV at KC
 have hq:=fun w gc => Lib.run_eql_slice_nil (P:=Tryz.prog) w 59 3 (some ⟨gc,0,none⟩) c.rows c.rows 0 0 Tryz.underlying59
 clear hk hn
 go_enter Tryz.func299,Tryz.ntmps299
 go_upto_region 1 with fail
 go_region_held3 (fun w' => w'.cell? ⟨b,0,none⟩ = some (.pointer (some ⟨g,0,none⟩)) ∧ w'.cell? ⟨b,1,none⟩ = some (.int .i64 c.bits) ∧ w'.cell? ⟨b,2,none⟩ = some (.int .i64 c.rows) ∧ w'.cell? ⟨b,3,none⟩ = some (.int .i64 c.width) ∧ w'.cell? ⟨b,4,none⟩ = some (.int .i64 c.mode) ∧ w'.cell? ⟨b,5,none⟩ = some (.int .u64 c.seed) ∧ w'.cell? ⟨b,6,none⟩ = some (.int .i64 n))
   (first | assumption)
   (first | (go_at_call 21; ((with_reducible refine (KC.out _).mono ?_)); rintro e w1 ⟨gc,rfl,hci,hgc,hb1⟩; (have hS1:=(((HS.out.drewN 1).below hb1).cells))))
 rename_i hHeld
 clear hHeld
 have hb2:=undrew hb1
 have HB:=Lib.hid hb2
 have HG1:=HS.out.grid.below hb2
 have KL:=Lib.hid (least_ok HG1 hci HM.out c.rows)
 have KM:=Lib.hid (middle_ok HG1 hci HM.out c.rows)
 obtain ⟨e0,e1,e2,e3,e4,e5,e6⟩:=hS1
 by_cases hm : c.mode = 3
 · have HX:=Lib.hid (show skPoint c n zs key = midV (readC c.width zs (colsN c n key)) by unfold skPoint skRead; rw [if_pos hm])
   rw [hm] at e4
   clear hci hgc hb1 hb2 HG1 KC HS hS c0 c1 c2 c3 c4 c5 c6 hm KL
   go_wp2_with fail
   refine KM.out.mono ?_
   rintro e w2 ⟨rfl,hb⟩
   have HB2:=Lib.hid (HB.out.then hb); clear hb
   go_wp2_with fail
   go_ret2
   exact ⟨by rw [HX.out]; rfl,HB2.out⟩
 · have HX:=Lib.hid (show skPoint c n zs key = minV (readC c.width zs (colsN c n key)) by unfold skPoint skRead; rw [if_neg hm])
   have g0 : decide ((c.mode : Int) = 3) = false:=by simp; omega
   have g1 : ((c.mode : Int) == 3) = false:=by simp; omega
   clear hci hgc hb1 hb2 HG1 KC HS hS c0 c1 c2 c3 c4 c5 c6 hm KM
   go_wp2_with fail
   refine KL.out.mono ?_
   rintro e w2 ⟨rfl,hb⟩
   have HB2:=Lib.hid (HB.out.then hb); clear hb
   go_wp2_with fail
   go_ret2
   exact ⟨by rw [HX.out]; rfl,HB2.out⟩
end Go.Proofs.YtejaocnhekjfiaaGreatDoor
namespace Go.Proofs.YtejaocnhekjfiaaGreatDoor
open Go.RowKit
set_option linter.unusedVariables false
def errOf (c : Cfg) (d : Int) : Int:=if c.mode = 2 ∧ d < 0 then 3 else 0
theorem minV_mem {l : List Int} (h : l ≠ []) : minV l ∈ l:=by
 have:=S05.kthOf_is (l:=l) (k:=0) (List.length_pos_iff.2 h)
 exact this.mem
set_option maxRecDepth 100000 in
set_option maxHeartbeats 4000000 in
theorem skcheck_ok {w b g r c n zs} (h : SkIs w b g r c n zs) (hc : c.ok) (hn : n ≤ c.bits) (key : Nat) (hk : key < 2 ^ (c.bits - n)) (d : Int)
   (hf : FitL 4611686018427387903 (skRead c n zs key)) (hd : -4611686018427387903 ≤ d ∧ d ≤ 4611686018427387903) :
   Calls Tryz.prog 297 #[.pointer (some ⟨b,0,none⟩),.int .u64 key,.int .i64 d] w (RVal (.int .i64 (errOf c d)) w):=by
 have hS:=h.cells
 obtain ⟨c0,c1,c2,c3,c4,c5,c6⟩:=h.cells
 have KC:=Lib.hid (fun w => columnsN_ok c hc n key hn hk w)
 have HS:=Lib.hid h
 have HM:=Lib.hid (colsN_meet c hc n key)
 have HF:=Lib.hid hf
 have HR:=Lib.hid (And.intro hc.r1 hc.r8)
 have HL:=Lib.hid (show (skRead c n zs key).length = c.rows by unfold skRead; rw [readC_len,HM.out.len])
 unfold cfgV at KC
 have hq:=fun w gc => Lib.run_eql_slice_nil (P:=Tryz.prog) w 59 3 (some ⟨gc,0,none⟩) c.rows c.rows 0 0 Tryz.underlying59
 have HD:=Lib.hid hd
 clear hk hn hf hd
 go_enter Tryz.func297,Tryz.ntmps297
 go_upto_region 1 with fail
 go_region_held3 (fun w' => w'.cell? ⟨b,0,none⟩ = some (.pointer (some ⟨g,0,none⟩)) ∧ w'.cell? ⟨b,1,none⟩ = some (.int .i64 c.bits) ∧ w'.cell? ⟨b,2,none⟩ = some (.int .i64 c.rows) ∧ w'.cell? ⟨b,3,none⟩ = some (.int .i64 c.width) ∧ w'.cell? ⟨b,4,none⟩ = some (.int .i64 c.mode) ∧ w'.cell? ⟨b,5,none⟩ = some (.int .u64 c.seed) ∧ w'.cell? ⟨b,6,none⟩ = some (.int .i64 n))
   (first | assumption)
   (first | (go_at_call 21; ((with_reducible refine (KC.out _).mono ?_)); rintro e w1 ⟨gc,rfl,hci,hgc,hb1⟩; (have hS1:=(((HS.out.drewN 1).below hb1).cells))))
 rename_i hHeld
 clear hHeld
 have hb2:=undrew hb1
 have HB:=Lib.hid hb2
 have HG1:=Lib.hid (HS.out.grid.below hb2)
 have HCI:=Lib.hid hci
 have KR:=Lib.hid (read_ok HG1.out hci HM.out c.rows)
 have HS1:=Lib.hid (HS.out.below hb2)
 clear hci hgc hb1 hb2 KC hS c0 c1 c2 c3 c4 c5 c6
 obtain ⟨e0,e1,e2,e3,e4,e5,e6⟩:=hS1
 have HV:=Lib.hid (show skRead c n zs key = readC c.width zs (colsN c n key) from rfl)
 go_wp2_with fail
 refine KR.out.mono ?_
 rintro e w2 ⟨v,rfl,gl,cl,rfl,hi,hgl,hcl,hcl2,hb⟩
 rw [← HV.out] at hi hcl ⊢
 rw [HL.out] at hcl ⊢
 have HI2:=Lib.hid hi
 have HB2:=Lib.hid (HB.out.then hb)
 have HG2:=Lib.hid (HG1.out.below hb)
 have HC2:=Lib.hid (HCI.out.below hb)
 have hS2:=(HS1.out.below hb).cells
 obtain ⟨e0,e1,e2,e3,e4,e5,e6⟩:=hS2
 clear hi hgl hb KR HG1 HCI HB HV HS HS1
 by_cases hm : c.mode = 2
 · rw [hm] at e4
   by_cases hd0 : d < 0
   · have HX:=Lib.hid (show errOf c d = 3 by unfold errOf; rw [if_pos ⟨hm,hd0⟩])
     have g0 : decide (d < 0) = true:=by simpa using hd0
     clear hm hd0
     go_wp2_with fail
     go_ret
     exact ⟨by rw [HX.out]; rfl,HB2.out⟩
   · have HX:=Lib.hid (show errOf c d = 0 by unfold errOf; rw [if_neg (fun h => hd0 h.2)])
     have g0 : decide (d < 0) = false:=by simpa using hd0
     have KL:=Lib.hid (least_ok HG2.out HC2.out HM.out c.rows)
     clear hm hd0
     go_wp2_with fail
     refine KL.out.mono ?_
     rintro e w3 ⟨rfl,hb⟩
     have HB3:=Lib.hid (HB2.out.then hb); clear hb
     have hmem:=minV_mem (l:=skRead c n zs key) (by intro e0; have:=HL.out; rw [e0] at this; simp at this; have:=HR.out.1; omega)
     have hfm:=HF.out _ hmem
     have HE:=Lib.hid (show minV (readC c.width zs (colsN c n key)) = minV (skRead c n zs key) from rfl)
     rw [HE.out]
     generalize minV (skRead c n zs key) = m at *
     have KP:=Lib.hid (fun w => plus_in m d w ⟨by omega,by omega⟩ ⟨by have:=HD.out; omega,by have:=HD.out; omega⟩)
     have HC4:=Lib.hid (show (w3.alloc (.cells #[.int .i64 m] 2)).cell? ⟨w3.heap.size,0,none⟩ = some (.int .i64 m) from (cell_of_row _ _ _ _ _ _ (heap_alloc_new w3 (.cells #[.int .i64 m] 2))).trans rfl)
     have HB4:=Lib.hid (HB3.out.alloc HB3.out.size (.cells #[.int .i64 m] 2))
     clear hmem hfm
     go_wp2_with fail
     generalize w3.alloc (.cells #[.int .i64 m] 2) = w4 at *
     generalize w3.heap.size = bl at *
     go_loopw [61] (fun u wr => ∃ k : Nat,k ≤ 1 ∧ u = .int .i64 k ∧ Hid (Below w4.heap.size w4 wr)) (fun u _ => 1 - (intOf u).toNat)
     case atStart => exact ⟨0,by omega,rfl,Lib.hid (Below.refl _ _)⟩
     case round =>
       obtain ⟨k,hk,rfl,HBr⟩:=hrel
       have o0:=below_cell HBr.out HC4.out
       obtain rfl | rfl : k = 0 ∨ k = 1:=by omega
       · go_wp2_with fail
         refine (KP.out _).mono ?_
         rintro e w5 ⟨rfl,hb⟩
         have HB5:=Lib.hid (HBr.out.trans (hb.mono HBr.out.size)); clear hb
         go_wp2_with fail
         exact ⟨⟨1,by omega,rfl,Lib.hid HB5.out⟩,by simp [intOf]⟩
       · go_wp2_with fail
         go_ret
         exact ⟨by rw [HX.out]; rfl,HB4.out.trans (HBr.out.mono HB4.out.size)⟩
 · have HX:=Lib.hid (show errOf c d = 0 by unfold errOf; rw [if_neg (fun h => hm h.1)])
   have g0 : decide ((c.mode : Int) = 2) = false:=by simp; omega
   have g1 : ((c.mode : Int) == 2) = false:=by simp; omega
   clear hm
   go_wp2_with fail
   go_loopw [61] (fun u wr => ∃ k : Nat,k ≤ c.rows ∧ u = .int .i64 k ∧ Hid (Below w2.heap.size w2 wr)) (fun u _ => c.rows - (intOf u).toNat)
   case atStart => exact ⟨0,by omega,rfl,Lib.hid (Below.refl _ _)⟩
   case round =>
     obtain ⟨k,hk,rfl,HBr⟩:=hrel
     have hr8:=HR.out.2
     by_cases hlt : k < c.rows
     · obtain ⟨x,hx⟩ : ∃ x,(skRead c n zs key)[k]? = some x:=⟨(skRead c n zs key)[k]'(by rw [HL.out]; exact hlt),List.getElem?_eq_getElem _⟩
       have hfx:=HF.out x (List.mem_of_getElem? hx)
       have KP:=Lib.hid (plus_in x d wr ⟨by omega,by omega⟩ ⟨by have:=HD.out; omega,by have:=HD.out; omega⟩)
       have o0:=(HI2.out.below HBr.out).cell hx
       clear hx hfx
       go_wp2_with fail
       refine KP.out.mono ?_
       rintro e w5 ⟨rfl,hb⟩
       have HB5:=Lib.hid (HBr.out.trans (hb.mono HBr.out.size)); clear hb
       go_wp2_with fail
       go_roundw
       case rel => exact ⟨k + 1,by omega,by go_num,Lib.hid HB5.out⟩
       case measure => simp [intOf]; omega
     · have hfa : decide (k < c.rows) = false:=by simpa using hlt
       clear hlt
       go_wp2_with fail
       go_ret
       exact ⟨by rw [HX.out]; rfl,HB2.out.trans (HBr.out.mono HB2.out.size)⟩
end Go.Proofs.YtejaocnhekjfiaaGreatDoor
namespace Go.Proofs.YtejaocnhekjfiaaGreatDoor
open Go.RowKit
set_option linter.unusedVariables false
noncomputable def skUpd (c : Cfg) (n : Nat) (zs : List Int) (key : Nat) (d : Int) : List Int:=if c.mode = 2 then raiseC c.width zs (colsN c n key) d else changeC c.width zs (colsN c n key) d
def RSk (w : World) (b g r : Nat) (c : Cfg) (n : Nat) (v : Value) (zs : List Int) (e : Ending) (w' : World) : Prop:=e = .returned v ∧ Upd (· = r) w w' ∧ SkIs w' b g r c n zs
theorem SkIs.ne {w b g r c n zs} (h : SkIs w b g r c n zs) : b ≠ r:=by
 rintro rfl
 obtain ⟨s,e⟩:=h.grid.row.row
 have:=h.blk
 rw [e] at this
 simp at this
theorem SkIs.regrid {w w' : World} {b g r c n zs ys} (h : SkIs w b g r c n zs) (hu : Upd (· = r) w w') (hg : GridIs w' g r c.rows c.width ys) : SkIs w' b g r c n ys:=
 ⟨hu.heap h.blk h.ne,hg⟩
set_option maxRecDepth 100000 in
set_option maxHeartbeats 4000000 in
theorem skupd_ok {w b g r c n zs} (h : SkIs w b g r c n zs) (hc : c.ok) (hn : n ≤ c.bits) (key : Nat) (hk : key < 2 ^ (c.bits - n)) (d : Int)
   (hf : FitL 4611686018427387903 (skRead c n zs key)) (hd : -4611686018427387903 ≤ d ∧ d ≤ 4611686018427387903) (he : c.mode = 2 → 0 ≤ d) :
   Calls Tryz.prog 300 #[.pointer (some ⟨b,0,none⟩),.int .u64 key,.int .i64 d] w (RSk w b g r c n (.int .i64 0) (skUpd c n zs key d)):=by
 have h0 : errOf c d = 0:=by unfold errOf; rw [if_neg (fun h => by have:=he h.1; omega)]
 have KK:=skcheck_ok h hc hn key hk d hf hd
 rw [h0] at KK
 have KK:=Lib.hid KK
 have KC:=Lib.hid (fun w => columnsN_ok c hc n key hn hk w)
 have HS:=Lib.hid h
 have HM:=Lib.hid (colsN_meet c hc n key)
 have HF:=Lib.hid hf
 have HR:=Lib.hid (And.intro hc.r1 hc.r8)
 have HL:=Lib.hid (show (skRead c n zs key).length = c.rows by unfold skRead; rw [readC_len,HM.out.len])
 unfold cfgV at KC
 have HD:=Lib.hid hd
 have HE:=Lib.hid he
 clear hk hn hf hd h0 he
 go_enter Tryz.func300,Tryz.ntmps300
 go_wp2_with fail
 refine KK.out.mono ?_
 rintro e w0 ⟨rfl,hb⟩
 have HS0:=Lib.hid (HS.out.below hb)
 have HB0:=Lib.hid hb
 have hS:=HS0.out.cells
 obtain ⟨c0,c1,c2,c3,c4,c5,c6⟩:=HS0.out.cells
 clear hb KK
 go_upto_region 4 with fail
 go_region_held3 (fun w' => w'.cell? ⟨b,0,none⟩ = some (.pointer (some ⟨g,0,none⟩)) ∧ w'.cell? ⟨b,1,none⟩ = some (.int .i64 c.bits) ∧ w'.cell? ⟨b,2,none⟩ = some (.int .i64 c.rows) ∧ w'.cell? ⟨b,3,none⟩ = some (.int .i64 c.width) ∧ w'.cell? ⟨b,4,none⟩ = some (.int .i64 c.mode) ∧ w'.cell? ⟨b,5,none⟩ = some (.int .u64 c.seed) ∧ w'.cell? ⟨b,6,none⟩ = some (.int .i64 n))
   (first | assumption)
   (first | (go_at_call 21; ((with_reducible refine (KC.out _).mono ?_)); rintro e w1 ⟨gc,rfl,hci,hgc,hb1⟩; (have hS1:=(((HS0.out.drewN 1).below hb1).cells))))
 rename_i hHeld
 clear hHeld
 have hb2:=undrew hb1
 have HB:=Lib.hid (HB0.out.then hb2)
 have HS1:=Lib.hid (HS0.out.below hb2)
 have HCI:=Lib.hid hci
 clear hgc hb1 hb2 KC hS c0 c1 c2 c3 c4 c5 c6 hci
 obtain ⟨e0,e1,e2,e3,e4,e5,e6⟩:=hS1
 by_cases hm : c.mode = 2
 · rw [hm] at e4
   have hd0:=HE.out hm
   have HX:=Lib.hid (show skUpd c n zs key d = raiseC c.width zs (colsN c n key) d by unfold skUpd; rw [if_pos hm])
   have hmem:=minV_mem (l:=skRead c n zs key) (by intro e0; have:=HL.out; rw [e0] at this; simp at this; have:=HR.out.1; omega)
   have hfm:=HF.out _ hmem
   have K:=Lib.hid (raise_ok HS1.out.grid HCI.out HM.out c.rows d (by exact hfm) ⟨hd0,by have:=HD.out; omega⟩)
   clear hm hmem hfm hd0
   go_wp2_with fail
   refine K.out.mono ?_
   rintro e w2 ⟨rfl,hu,hg⟩
   have HU:=Lib.hid ((Upd.of_below HB.out).trans hu)
   have HG:=Lib.hid hg
   clear hu hg
   go_wp2_with fail
   go_ret
   exact ⟨rfl,HU.out,by rw [HX.out]; exact HS.out.regrid HU.out HG.out⟩
 · have g0 : decide ((c.mode : Int) = 2) = false:=by simp; omega
   have g1 : ((c.mode : Int) == 2) = false:=by simp; omega
   have HX:=Lib.hid (show skUpd c n zs key d = changeC c.width zs (colsN c n key) d by unfold skUpd; rw [if_neg hm])
   have K:=Lib.hid (change_ok HS1.out.grid HCI.out HM.out c.rows d (by exact HF.out) HD.out)
   clear hm
   go_wp2_with fail
   refine K.out.mono ?_
   rintro e w2 ⟨rfl,hu,hg⟩
   have HU:=Lib.hid ((Upd.of_below HB.out).trans hu)
   have HG:=Lib.hid hg
   clear hu hg
   go_wp2_with fail
   go_ret
   exact ⟨rfl,HU.out,by rw [HX.out]; exact HS.out.regrid HU.out HG.out⟩
end Go.Proofs.YtejaocnhekjfiaaGreatDoor
namespace Go.Proofs.YtejaocnhekjfiaaGreatDoor
open Go.RowKit
set_option linter.unusedVariables false
theorem make7 {w : World} {b g n : Nat} {c : Cfg} (h : w.cell? ⟨b,0,none⟩ = some (.pointer (some ⟨g,0,none⟩)) ∧ w.cell? ⟨b,1,none⟩ = some (.int .i64 c.bits) ∧ w.cell? ⟨b,2,none⟩ = some (.int .i64 c.rows) ∧ w.cell? ⟨b,3,none⟩ = some (.int .i64 c.width) ∧ w.cell? ⟨b,4,none⟩ = some (.int .i64 c.mode) ∧ w.cell? ⟨b,5,none⟩ = some (.int .u64 c.seed) ∧ w.cell? ⟨b,6,none⟩ = some (.int .i64 n)) (o : Obj) : (w.alloc o).cell? ⟨b,0,none⟩ = some (.pointer (some ⟨g,0,none⟩)) ∧ (w.alloc o).cell? ⟨b,1,none⟩ = some (.int .i64 c.bits) ∧ (w.alloc o).cell? ⟨b,2,none⟩ = some (.int .i64 c.rows) ∧ (w.alloc o).cell? ⟨b,3,none⟩ = some (.int .i64 c.width) ∧ (w.alloc o).cell? ⟨b,4,none⟩ = some (.int .i64 c.mode) ∧ (w.alloc o).cell? ⟨b,5,none⟩ = some (.int .u64 c.seed) ∧ (w.alloc o).cell? ⟨b,6,none⟩ = some (.int .i64 n):=
 ⟨cell_make h.1 _,cell_make h.2.1 _,cell_make h.2.2.1 _,cell_make h.2.2.2.1 _,cell_make h.2.2.2.2.1 _,cell_make h.2.2.2.2.2.1 _,cell_make h.2.2.2.2.2.2 _⟩
theorem make5 {w : World} {b : Nat} {c : Cfg} (h : w.cell? ⟨b,0,none⟩ = some (.int .i64 c.bits) ∧ w.cell? ⟨b,1,none⟩ = some (.int .i64 c.rows) ∧ w.cell? ⟨b,2,none⟩ = some (.int .i64 c.width) ∧ w.cell? ⟨b,3,none⟩ = some (.int .i64 c.mode) ∧ w.cell? ⟨b,4,none⟩ = some (.int .u64 c.seed)) (o : Obj) : (w.alloc o).cell? ⟨b,0,none⟩ = some (.int .i64 c.bits) ∧ (w.alloc o).cell? ⟨b,1,none⟩ = some (.int .i64 c.rows) ∧ (w.alloc o).cell? ⟨b,2,none⟩ = some (.int .i64 c.width) ∧ (w.alloc o).cell? ⟨b,3,none⟩ = some (.int .i64 c.mode) ∧ (w.alloc o).cell? ⟨b,4,none⟩ = some (.int .u64 c.seed):=
 ⟨cell_make h.1 _,cell_make h.2.1 _,cell_make h.2.2.1 _,cell_make h.2.2.2.1 _,cell_make h.2.2.2.2 _⟩
theorem cfg5 {w : World} {b : Nat} {c : Cfg} (h : w.heap[b]? = some (cfgO c)) : w.cell? ⟨b,0,none⟩ = some (.int .i64 c.bits) ∧ w.cell? ⟨b,1,none⟩ = some (.int .i64 c.rows) ∧ w.cell? ⟨b,2,none⟩ = some (.int .i64 c.width) ∧ w.cell? ⟨b,3,none⟩ = some (.int .i64 c.mode) ∧ w.cell? ⟨b,4,none⟩ = some (.int .u64 c.seed):=
 ⟨(cell_of_row _ _ _ _ _ _ h).trans rfl,(cell_of_row _ _ _ _ _ _ h).trans rfl,(cell_of_row _ _ _ _ _ _ h).trans rfl,(cell_of_row _ _ _ _ _ _ h).trans rfl,(cell_of_row _ _ _ _ _ _ h).trans rfl⟩
def NewSk (c : Cfg) (n : Nat) (zs : List Int) (w : World) (v : Value) (w' : World) : Prop:=
 ∃ b g r : Nat,v = .pointer (some ⟨b,0,none⟩) ∧ SkIs w' b g r c n zs ∧ w.heap.size ≤ b ∧ w.heap.size ≤ g ∧ w.heap.size ≤ r ∧ Below w.heap.size w w'
theorem newSk_make {c : Cfg} {n : Nat} {zs : List Int} {w w1 : World} {g r : Nat} (hg : GridIs w1 g r c.rows c.width zs) (h1 : w.heap.size ≤ g) (h2 : w.heap.size ≤ r) (hb : Below w.heap.size w w1) :
   NewSk c n zs w (.pointer (some ⟨w1.heap.size,0,none⟩)) (w1.alloc (.cells #[.pointer (some ⟨g,0,none⟩),.int .i64 c.bits,.int .i64 c.rows,.int .i64 c.width,.int .i64 c.mode,.int .u64 c.seed,.int .i64 n] 298)):=
 ⟨_,g,r,rfl,⟨heap_alloc_new _ _,hg.upd (S:=fun _ => False) ((Upd.refl _ _).alloc _) id id⟩,hb.size,h1,h2,hb.alloc hb.size _⟩
def RNewSk (c : Cfg) (n : Nat) (zs : List Int) (w : World) (e : Ending) (w' : World) : Prop:=∃ v,e = .returned v ∧ NewSk c n zs w v w'
set_option maxRecDepth 100000 in
set_option maxHeartbeats 4000000 in
theorem skcopy_any {w b g r c n zs} (h : SkIs w b g r c n zs) : Calls Tryz.prog 205 #[.pointer (some ⟨b,0,none⟩)] w (RNewSk c n zs w):=by
 have hS:=h.cells
 obtain ⟨c0,c1,c2,c3,c4,c5,c6⟩:=h.cells
 have KG:=Lib.hid (fun w1 (hb : Below w.heap.size w w1) => gcopy_any (h.grid.below hb))
 have HS:=Lib.hid h
 clear h
 go_enter Tryz.func205,Tryz.ntmps205
 go_upto_region 1 with fail
 go_region_held3 (fun w' => w'.cell? ⟨b,0,none⟩ = some (.pointer (some ⟨g,0,none⟩)) ∧ w'.cell? ⟨b,1,none⟩ = some (.int .i64 c.bits) ∧ w'.cell? ⟨b,2,none⟩ = some (.int .i64 c.rows) ∧ w'.cell? ⟨b,3,none⟩ = some (.int .i64 c.width) ∧ w'.cell? ⟨b,4,none⟩ = some (.int .i64 c.mode) ∧ w'.cell? ⟨b,5,none⟩ = some (.int .u64 c.seed) ∧ w'.cell? ⟨b,6,none⟩ = some (.int .i64 n))
   (first | assumption | exact make7 hS1 _)
   (first | (go_at_call 232; ((with_reducible refine (KG.out _ (Below.refl _ _).drew).mono ?_)); rintro e w1 ⟨g1,r1,rfl,hgi,hg1,hr1,hb1⟩; (have hS1:=(((HS.out.drewN 1).below hb1).cells))))
 have HB:=Lib.hid (undrew hb1)
 have HG:=Lib.hid hgi
 have H1:=Lib.hid (show w.heap.size ≤ g1 from hg1)
 have H2:=Lib.hid (show w.heap.size ≤ r1 from hr1)
 clear hgi hg1 hr1 hb1 hS1
 rename_i hHeld
 clear hHeld
 go_wp2_with fail
 go_ret
 exact ⟨_,rfl,newSk_make HG.out H1.out H2.out HB.out⟩
set_option maxRecDepth 100000 in
set_option maxHeartbeats 4000000 in
theorem sknew_ok (c : Cfg) (hc : c.ok) (n : Nat) (hn : n ≤ c.bits) (w : World) :
   Calls Tryz.prog 126 #[cfgV c,.int .i64 n] w fun e w' => ∃ v,e = .returned (.tuple #[v,.int .i64 0]) ∧ NewSk c n (List.replicate (c.rows * c.width) 0) w v w':=by
 have KK:=Lib.hid (fun w => keys_ok c hc n hn w)
 have hb0:=(Below.refl w.heap.size w).alloc (Nat.le_refl _) (cfgO c)
 have hbl:=heap_alloc_new w (cfgO c)
 have HB:=Lib.hid hb0
 have hp:=pow_lt59 (c.bits - n) (by have:=hc.b59; omega)
 have g0 : decide (((2 ^ (c.bits - n) : Nat) : Int) = 0) = false:=by
   generalize 2 ^ (c.bits - n) = t at *
   simp; omega
 have g1 : (((2 ^ (c.bits - n) : Nat) : Int) == 0) = false:=by
   generalize 2 ^ (c.bits - n) = t at *
   simp; omega
 have KG:=Lib.hid (fun w => gnew_any w c.rows c.width hc.r1 hc.r8 hc.w1 hc.w8)
 have hc5:=cfg5 hbl
 have C5:=Lib.hid hc5
 have HBL:=Lib.hid hbl
 generalize 2 ^ (c.bits - n) = m at *
 unfold cfgV cfgO at *
 obtain ⟨a0,a1,a2,a3,a4⟩:=hc5
 clear hb0 hc hn hp hbl
 go_enter Tryz.func126,Tryz.ntmps126
 go_wp2_with fail
 refine (KK.out _).mono ?_
 rintro e w2 ⟨rfl,hb⟩
 have HB2:=Lib.hid (HB.out.trans (hb.mono HB.out.size))
 have hc5:=cfg5 (c:=c) ((hb.block _ (lt_of_block HBL.out)).trans HBL.out)
 have HBL2:=Lib.hid ((hb.block _ (lt_of_block HBL.out)).trans HBL.out)
 clear hb a0 a1 a2 a3 a4 KK HB C5 HBL
 obtain ⟨a0,a1,a2,a3,a4⟩:=id hc5
 go_upto_region 3 with fail
 go_region_held3 (fun w' => w'.cell? ⟨w.heap.size,0,none⟩ = some (.int .i64 c.bits) ∧ w'.cell? ⟨w.heap.size,1,none⟩ = some (.int .i64 c.rows) ∧ w'.cell? ⟨w.heap.size,2,none⟩ = some (.int .i64 c.width) ∧ w'.cell? ⟨w.heap.size,3,none⟩ = some (.int .i64 c.mode) ∧ w'.cell? ⟨w.heap.size,4,none⟩ = some (.int .u64 c.seed))
   (first | assumption | exact make5 hS1 _)
   (first | (go_at_call 166; ((with_reducible refine (KG.out _).mono ?_)); rintro e w3 ⟨g1,r1,rfl,hgi,hg1,hr1,hb1⟩; (have hS1:=cfg5 (c:=c) ((hb1.block _ (lt_of_block HBL2.out)).trans HBL2.out))))
 rename_i hHeld
 clear hHeld hS1
 have HB3:=Lib.hid (HB2.out.then (undrew hb1))
 have HG:=Lib.hid hgi
 have H1:=Lib.hid (show w.heap.size ≤ g1 from Nat.le_trans HB2.out.size hg1)
 have H2:=Lib.hid (show w.heap.size ≤ r1 from Nat.le_trans HB2.out.size hr1)
 clear hgi hg1 hr1 hb1
 go_wp2_with fail
 go_ret2
 exact ⟨_,rfl,newSk_make HG.out H1.out H2.out HB3.out⟩
end Go.Proofs.YtejaocnhekjfiaaGreatDoor
namespace Go.Proofs.YtejaocnhekjfiaaGreatDoor
open Go.RowKit
set_option linter.unusedVariables false
set_option maxRecDepth 100000 in
set_option maxHeartbeats 4000000 in
theorem skalike_ok {w b g r b2 g2 r2 c n zs ys} (h : SkIs w b g r c n zs) (h2 : SkIs w b2 g2 r2 c n ys) :
   Calls Tryz.prog 222 #[.pointer (some ⟨b,0,none⟩),.pointer (some ⟨b2,0,none⟩)] w fun e w' => e = .returned (.bool true) ∧ Below w.heap.size w w':=by
 obtain ⟨c0,c1,c2,c3,c4,c5,c6⟩:=h.cells
 obtain ⟨d0,d1,d2,d3,d4,d5,d6⟩:=h2.cells
 clear h h2
 go_enter Tryz.func222,Tryz.ntmps222
 go_upto_region 1 with fail
 go_quiet (fail)
 go_wp2_with fail
 go_ret
 exact ⟨rfl,⟨rfl,rfl,rfl,Nat.le_refl _,fun _ _ => rfl⟩⟩
set_option maxRecDepth 100000 in
set_option maxHeartbeats 4000000 in
theorem skmerge_ok {w b g r b2 g2 r2 c n zs ys} (h : SkIs w b g r c n zs) (h2 : SkIs w b2 g2 r2 c n ys) (f1 : FitL 4611686018427387903 zs) (f2 : FitL 4611686018427387903 ys) :
   Calls Tryz.prog 191 #[.pointer (some ⟨b,0,none⟩),.pointer (some ⟨b2,0,none⟩)] w (RSk w b g r c n (.int .i64 0) (List.zipWith (· + ·) zs ys)):=by
 have KA:=Lib.hid (skalike_ok h h2)
 have HS:=Lib.hid h
 have HS2:=Lib.hid h2
 have F1:=Lib.hid f1
 have F2:=Lib.hid f2
 clear h h2 f1 f2
 go_enter Tryz.func191,Tryz.ntmps191
 go_wp2_with fail
 refine KA.out.mono ?_
 rintro e w1 ⟨rfl,hb⟩
 have H1:=Lib.hid (HS.out.below hb)
 have H2:=Lib.hid (HS2.out.below hb)
 have HB:=Lib.hid hb
 obtain ⟨c0,c1,c2,c3,c4,c5,c6⟩:=H1.out.cells
 obtain ⟨d0,d1,d2,d3,d4,d5,d6⟩:=H2.out.cells
 have K:=Lib.hid (fun w' (hb : Below w1.heap.size w1 w') => gplus_any (H1.out.grid.below hb) (H2.out.grid.below hb) F1.out F2.out)
 clear hb
 go_upto_region 3 with fail
 go_still_tail 10,(by kernel_rfl)
 change wpList _ _ _ _ _ w1.drew
 go_wp2_with fail
 refine (K.out _ (Below.refl _ _).drew).mono ?_
 rintro e w2 ⟨rfl,hu,hg⟩
 have HU:=Lib.hid (((Upd.of_below HB.out).trans (Upd.refl (· = r) w1).drew).trans hu)
 have HG:=Lib.hid hg
 clear hu hg
 go_wp2_with fail
 go_ret
 exact ⟨rfl,HU.out,HS.out.regrid HU.out HG.out⟩
set_option maxRecDepth 100000 in
set_option maxHeartbeats 4000000 in
theorem sksubtract_ok {w b g r b2 g2 r2 c n zs ys} (h : SkIs w b g r c n zs) (h2 : SkIs w b2 g2 r2 c n ys) (f1 : FitL 4611686018427387903 zs) (f2 : FitL 4611686018427387903 ys) (hm : c.mode ≠ 2) :
   Calls Tryz.prog 193 #[.pointer (some ⟨b,0,none⟩),.pointer (some ⟨b2,0,none⟩)] w (RSk w b g r c n (.int .i64 0) (List.zipWith (· - ·) zs ys)):=by
 have KA:=Lib.hid (skalike_ok h h2)
 have HS:=Lib.hid h
 have HS2:=Lib.hid h2
 have F1:=Lib.hid f1
 have F2:=Lib.hid f2
 clear h h2 f1 f2
 go_enter Tryz.func193,Tryz.ntmps193
 go_wp2_with fail
 refine KA.out.mono ?_
 rintro e w1 ⟨rfl,hb⟩
 have H1:=Lib.hid (HS.out.below hb)
 have H2:=Lib.hid (HS2.out.below hb)
 have HB:=Lib.hid hb
 obtain ⟨c0,c1,c2,c3,c4,c5,c6⟩:=H1.out.cells
 obtain ⟨d0,d1,d2,d3,d4,d5,d6⟩:=H2.out.cells
 have K:=Lib.hid (fun w' (hb : Below w1.heap.size w1 w') => gminus_any (H1.out.grid.below hb) (H2.out.grid.below hb) F1.out F2.out)
 have g0 : decide ((c.mode : Int) = 2) = false:=by simp; omega
 have g1 : ((c.mode : Int) == 2) = false:=by simp; omega
 clear hb hm
 go_upto_region 5 with fail
 go_still_tail 10,(by kernel_rfl)
 change wpList _ _ _ _ _ w1.drew
 go_wp2_with fail
 refine (K.out _ (Below.refl _ _).drew).mono ?_
 rintro e w2 ⟨rfl,hu,hg⟩
 have HU:=Lib.hid (((Upd.of_below HB.out).trans (Upd.refl (· = r) w1).drew).trans hu)
 have HG:=Lib.hid hg
 clear hu hg
 go_wp2_with fail
 go_ret
 exact ⟨rfl,HU.out,HS.out.regrid HU.out HG.out⟩
set_option maxRecDepth 100000 in
set_option maxHeartbeats 4000000 in
theorem sksubtract_no {w b g r b2 g2 r2 c n zs ys} (h : SkIs w b g r c n zs) (h2 : SkIs w b2 g2 r2 c n ys) (hm : c.mode = 2) :
   Calls Tryz.prog 193 #[.pointer (some ⟨b,0,none⟩),.pointer (some ⟨b2,0,none⟩)] w (RVal (.int .i64 3) w):=by
 have KA:=Lib.hid (skalike_ok h h2)
 have HS:=Lib.hid h
 clear h h2
 go_enter Tryz.func193,Tryz.ntmps193
 go_wp2_with fail
 refine KA.out.mono ?_
 rintro e w1 ⟨rfl,hb⟩
 have H1:=Lib.hid (HS.out.below hb)
 have HB:=Lib.hid hb
 obtain ⟨c0,c1,c2,c3,c4,c5,c6⟩:=H1.out.cells
 rw [hm] at c4
 clear hb hm
 go_wp2_with fail
 go_ret
 exact ⟨rfl,HB.out⟩
end Go.Proofs.YtejaocnhekjfiaaGreatDoor
namespace Go.Proofs.YtejaocnhekjfiaaGreatDoor
open Go.RowKit
set_option linter.unusedVariables false
def loadL (ys zs : List Int) (k : Nat) : List Int:=ys.take k ++ zs.drop k
theorem loadL_zero (ys zs : List Int) : loadL ys zs 0 = zs:=by simp [loadL]
theorem loadL_all {ys zs : List Int} (h : ys.length = zs.length) : loadL ys zs zs.length = ys:=by unfold loadL; rw [← h]; simp; omega
theorem loadL_len {ys zs : List Int} (h : ys.length = zs.length) {k : Nat} (hk : k ≤ zs.length) : (loadL ys zs k).length = zs.length:=by unfold loadL; simp; omega
theorem loadL_set {ys zs : List Int} {k : Nat} {y : Int} (h : ys[k]? = some y) (hk : k < zs.length) : (loadL ys zs k).set k y = loadL ys zs (k + 1):=by
 obtain ⟨h1,h1'⟩:=List.getElem?_eq_some_iff.1 h
 unfold loadL
 have hl : (ys.take k).length = k:=by simp; omega
 rw [List.set_append_right _ _ (by omega),hl,Nat.sub_self,List.take_add_one,h,List.append_assoc]
 congr 1
 rw [List.drop_eq_getElem_cons hk]
 rfl
set_option maxRecDepth 100000 in
set_option maxHeartbeats 4000000 in
theorem skload_ok {w b g r c n zs gl ys} (h : SkIs w b g r c n zs) (hl : Ints w gl ys) (hlen : ys.length = zs.length) (hne : gl ≠ r) (cap : Nat) :
   Calls Tryz.prog 298 #[.pointer (some ⟨b,0,none⟩),.slice (some ⟨gl,0,none⟩) ys.length cap] w (RSk w b g r c n (.bool true) ys):=by
 have hS:=h.cells
 obtain ⟨c0,c1,c2,c3,c4,c5,c6⟩:=h.cells
 have HS:=Lib.hid h
 have HI:=Lib.hid hl
 have HNE:=Lib.hid hne
 have hz:=h.grid.len
 have hsz:=h.grid.size
 obtain ⟨N,hN⟩ : ∃ N,zs.length = N:=⟨_,rfl⟩
 have hN2 : ys.length = N:=by rw [hlen,hN]
 have hw : IntKind.i64.wrap ((c.rows : Int) * (c.width : Int)) = (N : Int):=by
   have e : (c.rows : Int) * (c.width : Int) = (N : Int):=by rw [← hN,hz]; simp
   rw [e]; exact IntWalk.i64_in _ (by omega)
 have hm : (c.rows : Int) * (c.width : Int) = (N : Int):=by rw [← hN,hz]; simp
 have hw1:=h.grid.w1
 have hw8:=h.grid.w8
 have HL:=Lib.hid (And.intro hN hN2)
 rw [hN2]
 rw [hN] at hsz
 clear h hl hlen hne hz hN hN2
 go_enter Tryz.func298,Tryz.ntmps298
 go_upto_region 1 with fail
 go_quiet (fail)
 clear hw hm
 have HU0:=Lib.hid ((Upd.refl (· = r) w).drewN nq)
 have HS1:=Lib.hid (HS.out.drewN nq)
 have HI1:=Lib.hid (HI.out.upd (HU0.out) HNE.out)
 generalize w.drewN nq = w1 at *
 clear hS c0 c1 c2 c3 c4 c5 c6
 go_wp2_with fail
 go_loopw [23] (fun u wr => ∃ k : Nat,k ≤ N ∧ u = .int .i64 k ∧ Hid (SkIs wr b g r c n (loadL ys zs k)) ∧ Hid (Upd (· = r) w1 wr)) (fun u _ => N - (intOf u).toNat)
 case atStart => exact ⟨0,Nat.zero_le _,rfl,Lib.hid (by rw [loadL_zero]; exact HS1.out),Lib.hid (Upd.refl _ _)⟩
 case round =>
   obtain ⟨k,hk,rfl,HK,HU⟩:=hrel
   by_cases hlt : k < N
   · obtain ⟨y,hy⟩ : ∃ y,ys[k]? = some y:=⟨ys[k]'(by rw [HL.out.2]; exact hlt),List.getElem?_eq_getElem _⟩
     have o0:=(HI1.out.upd HU.out HNE.out).cell hy
     obtain ⟨c0,c1,c2,c3,c4,c5,c6⟩:=HK.out.cells
     obtain ⟨q,hq⟩ : ∃ q : Nat,k / c.width = q:=⟨_,rfl⟩
     obtain ⟨t,ht⟩ : ∃ t : Nat,k % c.width = t:=⟨_,rfl⟩
     have hqt : q * c.width + t = k:=by rw [← hq,← ht]; have:=Nat.div_add_mod k c.width; rw [Nat.mul_comm]; exact this
     have htw : t < c.width:=by rw [← ht]; exact Nat.mod_lt _ hw1
     have hqr : q < c.rows:=by
       rw [← hq]
       refine Nat.div_lt_of_lt_mul ?_
       have:=HS.out.grid.len
       rw [HL.out.1] at this
       rw [Nat.mul_comm]; omega
     have d1 : (k : Int).tdiv (c.width : Int) = (q : Int):=by rw [← hq]; rfl
     have d2 : (k : Int).tmod (c.width : Int) = (t : Int):=by rw [← ht]; rfl
     have d3 : (k : Int) / (c.width : Int) = (q : Int):=by rw [← hq]; simp
     have d4 : (k : Int) % (c.width : Int) = (t : Int):=by rw [← ht]; simp
     have d7 : ¬ ((c.width : Int) = 0):=by omega
     have d8 : ¬ (c.width = 0):=by omega
     have hqk : q ≤ k:=by rw [← hq]; exact Nat.div_le_self _ _
     have d9 : IntKind.i64.wrap (q : Int) = (q : Int):=IntWalk.i64_in _ (by omega)
     have d5 : ((c.width : Int) == 0) = false:=by simp; omega
     have d6 : decide ((c.width : Int) = 0) = false:=by simp; omega
     have hkl : k < (loadL ys zs k).length:=by rw [loadL_len (by rw [HL.out.1,HL.out.2]) (by rw [HL.out.1]; exact hk),HL.out.1]; exact hlt
     have KP:=Lib.hid (fun w' (hb : Below wr.heap.size wr w') => put_in (HK.out.grid.below hb) q t k y hqr htw hqt hkl)
     have HN:=Lib.hid (fun w' (hb : Below wr.heap.size wr w') => (HK.out.grid.below hb).set k y hkl)
     have HSL:=Lib.hid (loadL_set (zs:=zs) hy (by rw [HL.out.1]; exact hlt))
     have hk0 : (0 : Int) ≤ (k : Int):=by omega
     have hq8 : (q : Int) ≤ 1024:=by omega
     have ht8 : (t : Int) ≤ 128:=by omega
     clear hy hq ht hqt htw hqr hkl
     go_upto_region 6 with fail
     go_still_tail 20,(by kernel_rfl)
     change wpList _ _ _ _ _ wr.drew
     clear d1 d2 d3 d4 d5 d6 d7 d8 d9
     go_wp2_with fail
     refine (KP.out _ (Below.refl _ _).drew).mono ?_
     rintro e w2 ⟨rfl,rfl⟩
     have HG2:=Lib.hid (show GridIs (wr.drew.setCell ⟨r,k,none⟩ (.int .i64 y)) g r c.rows c.width (loadL ys zs (k + 1)) by rw [← HSL.out]; exact HN.out _ (Below.refl _ _).drew)
     have HU2:=Lib.hid (((Upd.refl (· = r) wr).drew).trans (Upd.store (S:=(· = r)) wr.drew r k (.int .i64 y) rfl))
     have HK2:=Lib.hid (HK.out.regrid HU2.out HG2.out)
     have HU3:=Lib.hid (HU.out.trans HU2.out)
     generalize wr.drew.setCell ⟨r,k,none⟩ (.int .i64 y) = w7 at *
     go_wp2_with fail
     go_roundw
     case rel => exact ⟨k + 1,by omega,by go_num,Lib.hid HK2.out,Lib.hid HU3.out⟩
     case measure => simp [intOf]; omega
   · have hkk : k = N:=by omega
     have hfa : decide (k < N) = false:=by simpa using hlt
     have HF:=Lib.hid (show SkIs wr b g r c n ys by have t:=HK.out; rw [hkk,← HL.out.1,loadL_all (by rw [HL.out.1,HL.out.2])] at t; exact t)
     clear hlt hkk
     go_wp2_with fail
     go_ret
     exact ⟨rfl,HU0.out.trans HU.out,HF.out⟩
end Go.Proofs.YtejaocnhekjfiaaGreatDoor
namespace Go.Proofs.YtejaocnhekjfiaaGreatDoor
open Go.RowKit
set_option linter.unusedVariables false
theorem ArrIs.cells {w b g r c n zs} (h : ArrIs w b g r c n zs) : w.cell? ⟨b,0,none⟩ = some (.int .i64 c.bits) ∧ w.cell? ⟨b,1,none⟩ = some (.int .i64 c.rows) ∧ w.cell? ⟨b,2,none⟩ = some (.int .i64 c.width) ∧ w.cell? ⟨b,3,none⟩ = some (.int .i64 c.mode) ∧ w.cell? ⟨b,4,none⟩ = some (.int .u64 c.seed) ∧ w.cell? ⟨b,5,none⟩ = some (.int .i64 n) ∧ w.cell? ⟨b,6,none⟩ = some (.pointer (some ⟨g,0,none⟩)):=
 ⟨(cell_of_row _ _ _ _ _ _ h.blk).trans rfl,(cell_of_row _ _ _ _ _ _ h.blk).trans rfl,(cell_of_row _ _ _ _ _ _ h.blk).trans rfl,(cell_of_row _ _ _ _ _ _ h.blk).trans rfl,(cell_of_row _ _ _ _ _ _ h.blk).trans rfl,(cell_of_row _ _ _ _ _ _ h.blk).trans rfl,(cell_of_row _ _ _ _ _ _ h.blk).trans rfl⟩
theorem ArrIs.ne {w b g r c n zs} (h : ArrIs w b g r c n zs) : b ≠ r:=by
 rintro rfl
 obtain ⟨s,e⟩:=h.grid.row.row
 have:=h.blk
 rw [e] at this
 simp at this
theorem ArrIs.regrid {w w' : World} {b g r c n zs ys} (h : ArrIs w b g r c n zs) (hu : Upd (· = r) w w') (hg : GridIs w' g r 1 (2 ^ (c.bits - n)) ys) : ArrIs w' b g r c n ys:=
 ⟨hu.heap h.blk h.ne,hg⟩
theorem ArrIs.drewN {w b g r c n zs} (h : ArrIs w b g r c n zs) (m : Nat) : ArrIs (w.drewN m) b g r c n zs:=⟨h.blk,h.grid.drewN m⟩
def RArr (w : World) (b g r : Nat) (c : Cfg) (n : Nat) (v : Value) (zs : List Int) (e : Ending) (w' : World) : Prop:=e = .returned v ∧ Upd (· = r) w w' ∧ ArrIs w' b g r c n zs
theorem arr_at {w b g r c n zs} (h : ArrIs w b g r c n zs) {key : Nat} (hk : key < 2 ^ (c.bits - n)) : zs[key]? = some (zs.getD key 0) ∧ key < zs.length:=by
 have:=grid_at h.grid (k:=0) (c:=key) (by omega) hk
 rwa [Nat.zero_mul,Nat.zero_add] at this
theorem at_zero {w g r R W zs} (h : GridIs w g r R W zs) (col : Nat) (x : Int) (hc : col < W) (hx : zs[col]? = some x) :
   Calls Tryz.prog 294 #[.pointer (some ⟨g,0,none⟩),.int .i64 0,.int .i64 col] w fun e w' => e = .returned (.int .i64 x) ∧ w = w':=
 at_in h 0 col col x h.r1 hc (by omega) hx
theorem put_zero {w g r R W zs} (h : GridIs w g r R W zs) (col : Nat) (x : Int) (hc : col < W) (hl : col < zs.length) :
   Calls Tryz.prog 295 #[.pointer (some ⟨g,0,none⟩),.int .i64 0,.int .i64 col,.int .i64 x] w fun e w' => e = .returned (.bool true) ∧ w' = w.setCell ⟨r,col,none⟩ (.int .i64 x):=
 put_in h 0 col col x h.r1 hc (by omega) hl
set_option maxRecDepth 100000 in
set_option maxHeartbeats 1000000 in
theorem excells_any {w b g r c n zs} (h : ArrIs w b g r c n zs) : Calls Tryz.prog 190 #[.pointer (some ⟨b,0,none⟩)] w (RNewInts w zs):=by
 obtain ⟨c0,c1,c2,c3,c4,c5,c6⟩:=h.cells
 have K:=Lib.hid (gcells_any h.grid)
 clear h
 go_enter Tryz.func190,Tryz.ntmps190
 go_wp2_with (go_at_call 221; ((with_reducible refine K.out.mono ?_)); rintro e w' ⟨v,rfl,hv⟩)
 have HV:=Lib.hid hv; clear hv
 go_wp2
 go_ret
 exact ⟨v,rfl,HV.out⟩
set_option maxRecDepth 100000 in
set_option maxHeartbeats 1000000 in
theorem expoint_ok {w b g r c n zs} (h : ArrIs w b g r c n zs) (key : Nat) (hk : key < 2 ^ (c.bits - n)) :
   Calls Tryz.prog 291 #[.pointer (some ⟨b,0,none⟩),.int .u64 key] w fun e w' => e = .returned (.tuple #[.int .i64 (zs.getD key 0),.int .i64 0]) ∧ w = w':=by
 obtain ⟨c0,c1,c2,c3,c4,c5,c6⟩:=h.cells
 have ha:=arr_at h hk
 have KW:=Lib.hid (width_any h.grid)
 have KA:=Lib.hid (at_zero h.grid key _ hk ha.1)
 have hM:=h.grid.w8
 generalize 2 ^ (c.bits - n) = M at *
 have g0 : decide (M ≤ key) = false:=by simpa using hk
 have hM2 : (M : Int) ≤ 128:=by omega
 have hk2 : (key : Int) ≤ 128:=by omega
 generalize zs.getD key 0 = y at *
 clear h hk hM ha
 go_enter Tryz.func291,Tryz.ntmps291
 go_wp2_with (first | (go_at_call 293; ((with_reducible refine KW.out.mono ?_)); rintro e w' ⟨rfl,rfl⟩) | (go_at_call 294; ((with_reducible refine KA.out.mono ?_)); rintro e w' ⟨rfl,rfl⟩))
 go_ret2
 exact ⟨rfl,rfl⟩
set_option maxRecDepth 100000 in
set_option maxHeartbeats 2000000 in
theorem excheck_ok {w b g r c n zs} (h : ArrIs w b g r c n zs) (key : Nat) (hk : key < 2 ^ (c.bits - n)) (d : Int)
   (hf : -4611686018427387903 ≤ zs.getD key 0 ∧ zs.getD key 0 ≤ 4611686018427387903) (hd : -4611686018427387903 ≤ d ∧ d ≤ 4611686018427387903) :
   Calls Tryz.prog 289 #[.pointer (some ⟨b,0,none⟩),.int .u64 key,.int .i64 d] w (RVal (.int .i64 (errOf c d)) w):=by
 obtain ⟨c0,c1,c2,c3,c4,c5,c6⟩:=h.cells
 have ha:=arr_at h hk
 have KW:=Lib.hid (width_any h.grid)
 have KA:=Lib.hid (at_zero h.grid key _ hk ha.1)
 have hM:=h.grid.w8
 generalize 2 ^ (c.bits - n) = M at *
 have g0 : decide (M ≤ key) = false:=by simpa using hk
 have hM2 : (M : Int) ≤ 128:=by omega
 have hk2 : (key : Int) ≤ 128:=by omega
 have KP:=Lib.hid (fun w => plus_in (zs.getD key 0) d w ⟨by omega,by omega⟩ ⟨by omega,by omega⟩)
 generalize zs.getD key 0 = y at *
 clear h hk hM ha hf hd
 by_cases hm : c.mode = 2
 · rw [hm] at c3
   by_cases hd0 : d < 0
   · have HX:=Lib.hid (show errOf c d = 3 by unfold errOf; rw [if_pos ⟨hm,hd0⟩])
     have g1 : decide (d < 0) = true:=by simpa using hd0
     clear hm hd0
     go_enter Tryz.func289,Tryz.ntmps289
     go_wp2_with (go_at_call 293; ((with_reducible refine KW.out.mono ?_)); rintro e w' ⟨rfl,rfl⟩)
     go_ret
     exact ⟨by rw [HX.out]; rfl,Below.refl _ _⟩
   · have HX:=Lib.hid (show errOf c d = 0 by unfold errOf; rw [if_neg (fun h => hd0 h.2)])
     have g1 : decide (d < 0) = false:=by simpa using hd0
     clear hm hd0
     go_enter Tryz.func289,Tryz.ntmps289
     go_wp2_with (first | (go_at_call 293; ((with_reducible refine KW.out.mono ?_)); rintro e w' ⟨rfl,rfl⟩) | (go_at_call 294; ((with_reducible refine KA.out.mono ?_)); rintro e w' ⟨rfl,rfl⟩) | (go_at_call 245; ((with_reducible refine (KP.out _).mono ?_)); rintro e w1 ⟨rfl,hb⟩))
     go_ret
     exact ⟨by rw [HX.out]; rfl,hb⟩
 · have HX:=Lib.hid (show errOf c d = 0 by unfold errOf; rw [if_neg (fun h => hm h.1)])
   have g1 : decide ((c.mode : Int) = 2) = false:=by simp; omega
   have g2 : ((c.mode : Int) == 2) = false:=by simp; omega
   clear hm
   go_enter Tryz.func289,Tryz.ntmps289
   go_wp2_with (first | (go_at_call 293; ((with_reducible refine KW.out.mono ?_)); rintro e w' ⟨rfl,rfl⟩) | (go_at_call 294; ((with_reducible refine KA.out.mono ?_)); rintro e w' ⟨rfl,rfl⟩) | (go_at_call 245; ((with_reducible refine (KP.out _).mono ?_)); rintro e w1 ⟨rfl,hb⟩))
   go_ret
   exact ⟨by rw [HX.out]; rfl,hb⟩
end Go.Proofs.YtejaocnhekjfiaaGreatDoor
namespace Go.Proofs.YtejaocnhekjfiaaGreatDoor
open Go.RowKit
set_option linter.unusedVariables false
def exUpd (zs : List Int) (key : Nat) (d : Int) : List Int:=zs.set key (zs.getD key 0 + d)
set_option maxRecDepth 100000 in
set_option maxHeartbeats 400000 in
theorem exupd_ok {w b g r c n zs} (h : ArrIs w b g r c n zs) (key : Nat) (hk : key < 2 ^ (c.bits - n)) (d : Int)
   (hf : -4611686018427387903 ≤ zs.getD key 0 ∧ zs.getD key 0 ≤ 4611686018427387903) (hd : -4611686018427387903 ≤ d ∧ d ≤ 4611686018427387903) (he : c.mode = 2 → 0 ≤ d) :
   Calls Tryz.prog 292 #[.pointer (some ⟨b,0,none⟩),.int .u64 key,.int .i64 d] w (RArr w b g r c n (.int .i64 0) (exUpd zs key d)):=by
 have h0 : errOf c d = 0:=by unfold errOf; rw [if_neg (fun h => by have:=he h.1; omega)]
 have KK:=excheck_ok h key hk d hf hd
 rw [h0] at KK
 have KK:=Lib.hid KK
 have ha:=arr_at h hk
 have HA:=Lib.hid h
 have hM:=h.grid.w8
 have KA:=Lib.hid (fun w' (hb : Below w.heap.size w w') => (at_zero (h.grid.below hb) key _ hk ha.1).turned)
 have KP:=Lib.hid (fun w' (hb : Below w.heap.size w w') => put_zero (h.grid.below hb) key (zs.getD key 0 + d) hk ha.2)
 have HX:=Lib.hid (show exUpd zs key d = zs.set key (zs.getD key 0 + d) from rfl)
 have HN:=Lib.hid (fun w' (hb : Below w.heap.size w w') => (h.grid.below hb).set key (zs.getD key 0 + d) ha.2)
 have hw : IntKind.i64.wrap (zs.getD key 0 + d) = zs.getD key 0 + d:=IntWalk.i64_in _ (by omega)
 have hk2 : (key : Int) ≤ 128:=by have:=hM; generalize 2 ^ (c.bits - n) = M at *; omega
 have hwk : IntKind.i64.wrap (key : Int) = (key : Int):=IntWalk.i64_in _ (by omega)
 generalize zs.getD key 0 = y at *
 clear h hk hM ha hf hd h0 he
 go_enter Tryz.func292,Tryz.ntmps292
 go_wp2_with fail
 refine KK.out.mono ?_
 rintro e w1 ⟨rfl,hb⟩
 obtain ⟨c0,c1,c2,c3,c4,c5,c6⟩:=(HA.out.below hb).cells
 have HB:=Lib.hid hb
 clear hb
 go_upto_region 3 with fail
 go_still_tail 15,(by kernel_rfl)
 still_call (KA.out _ HB.out.drew)
 repeat still_step
 refine wpStill_nil ?_
 change wpList _ _ _ _ _ w1.drew
 go_wp2_with fail
 refine (KP.out _ HB.out.drew).mono ?_
 rintro e w2 ⟨rfl,rfl⟩
 have HG2:=Lib.hid (show GridIs (w1.drew.setCell ⟨r,key,none⟩ (.int .i64 (y + d))) g r 1 (2 ^ (c.bits - n)) (exUpd zs key d) by rw [HX.out]; exact HN.out _ HB.out.drew)
 have HU2:=Lib.hid ((Upd.of_below HB.out.drew).trans (Upd.store (S:=(· = r)) w1.drew r key (.int .i64 (y + d)) rfl))
 have HA2:=Lib.hid (HA.out.regrid HU2.out HG2.out)
 generalize w1.drew.setCell ⟨r,key,none⟩ (.int .i64 (y + d)) = w7 at *
 go_wp2_with fail
 go_ret
 exact ⟨rfl,HU2.out,HA2.out⟩
end Go.Proofs.YtejaocnhekjfiaaGreatDoor
namespace Go.Proofs.YtejaocnhekjfiaaGreatDoor
open Go.RowKit
set_option linter.unusedVariables false
theorem makeA7 {w : World} {b g n : Nat} {c : Cfg} (h : w.cell? ⟨b,0,none⟩ = some (.int .i64 c.bits) ∧ w.cell? ⟨b,1,none⟩ = some (.int .i64 c.rows) ∧ w.cell? ⟨b,2,none⟩ = some (.int .i64 c.width) ∧ w.cell? ⟨b,3,none⟩ = some (.int .i64 c.mode) ∧ w.cell? ⟨b,4,none⟩ = some (.int .u64 c.seed) ∧ w.cell? ⟨b,5,none⟩ = some (.int .i64 n) ∧ w.cell? ⟨b,6,none⟩ = some (.pointer (some ⟨g,0,none⟩))) (o : Obj) : (w.alloc o).cell? ⟨b,0,none⟩ = some (.int .i64 c.bits) ∧ (w.alloc o).cell? ⟨b,1,none⟩ = some (.int .i64 c.rows) ∧ (w.alloc o).cell? ⟨b,2,none⟩ = some (.int .i64 c.width) ∧ (w.alloc o).cell? ⟨b,3,none⟩ = some (.int .i64 c.mode) ∧ (w.alloc o).cell? ⟨b,4,none⟩ = some (.int .u64 c.seed) ∧ (w.alloc o).cell? ⟨b,5,none⟩ = some (.int .i64 n) ∧ (w.alloc o).cell? ⟨b,6,none⟩ = some (.pointer (some ⟨g,0,none⟩)):=
 ⟨cell_make h.1 _,cell_make h.2.1 _,cell_make h.2.2.1 _,cell_make h.2.2.2.1 _,cell_make h.2.2.2.2.1 _,cell_make h.2.2.2.2.2.1 _,cell_make h.2.2.2.2.2.2 _⟩
set_option maxRecDepth 100000 in
set_option maxHeartbeats 2000000 in
theorem exload_ok {w b g r c n zs gl ys} (h : ArrIs w b g r c n zs) (hl : Ints w gl ys) (hlen : ys.length = zs.length) (hne : gl ≠ r) (cap : Nat) :
   Calls Tryz.prog 290 #[.pointer (some ⟨b,0,none⟩),.slice (some ⟨gl,0,none⟩) ys.length cap] w (RArr w b g r c n (.bool true) ys):=by
 obtain ⟨c0,c1,c2,c3,c4,c5,c6⟩:=h.cells
 have KW:=Lib.hid (width_any h.grid)
 have HA:=Lib.hid h
 have HI:=Lib.hid hl
 have HNE:=Lib.hid hne
 have hz : zs.length = 2 ^ (c.bits - n):=by rw [h.grid.len,Nat.one_mul]
 have hsz:=h.grid.size
 have HL:=Lib.hid (And.intro hz hlen)
 rw [hlen,hz]
 rw [hz] at hsz
 have HM:=Lib.hid (show 2 ^ (c.bits - n) = 2 ^ (c.bits - n) from rfl)
 clear h hl hlen hne hz
 obtain ⟨N,hN⟩ : ∃ N,2 ^ (c.bits - n) = N:=⟨_,rfl⟩
 have HN:=Lib.hid hN
 rw [hN] at KW hsz ⊢
 clear hN
 go_enter Tryz.func290,Tryz.ntmps290
 go_wp2_with (go_at_call 293; ((with_reducible refine KW.out.mono ?_)); rintro e w' ⟨rfl,rfl⟩)
 clear c0 c1 c2 c3 c4 c5 c6
 go_loopw [17] (fun u wr => ∃ k : Nat,k ≤ N ∧ u = .int .i64 k ∧ Hid (ArrIs wr b g r c n (loadL ys zs k)) ∧ Hid (Upd (· = r) w wr)) (fun u _ => N - (intOf u).toNat)
 case atStart => exact ⟨0,Nat.zero_le _,rfl,Lib.hid (by rw [loadL_zero]; exact HA.out),Lib.hid (Upd.refl _ _)⟩
 case round =>
   obtain ⟨k,hk,rfl,HK,HU⟩:=hrel
   by_cases hlt : k < N
   · obtain ⟨y,hy⟩ : ∃ y,ys[k]? = some y:=⟨ys[k]'(by rw [HL.out.2,HL.out.1,HN.out]; exact hlt),List.getElem?_eq_getElem _⟩
     have o0:=(HI.out.upd HU.out HNE.out).cell hy
     obtain ⟨c0,c1,c2,c3,c4,c5,c6⟩:=HK.out.cells
     have hkl : k < (loadL ys zs k).length:=by rw [loadL_len HL.out.2 (by rw [HL.out.1,HN.out]; exact hk),HL.out.1,HN.out]; exact hlt
     have KP:=Lib.hid (put_zero HK.out.grid k y (by rw [HN.out]; exact hlt) hkl)
     have HG:=Lib.hid (HK.out.grid.set k y hkl)
     have HSL:=Lib.hid (loadL_set (zs:=zs) hy (by rw [HL.out.1,HN.out]; exact hlt))
     clear hy hkl
     go_wp2_with fail
     refine KP.out.mono ?_
     rintro e w2 ⟨rfl,rfl⟩
     have HG2:=Lib.hid (show GridIs (wr.setCell ⟨r,k,none⟩ (.int .i64 y)) g r 1 (2 ^ (c.bits - n)) (loadL ys zs (k + 1)) by rw [← HSL.out]; exact HG.out)
     have HU2:=Lib.hid (Upd.store (S:=(· = r)) wr r k (.int .i64 y) rfl)
     have HK2:=Lib.hid (HK.out.regrid HU2.out HG2.out)
     have HU3:=Lib.hid (HU.out.trans HU2.out)
     generalize wr.setCell ⟨r,k,none⟩ (.int .i64 y) = w7 at *
     go_wp2_with fail
     go_roundw
     case rel => exact ⟨k + 1,by omega,by go_num,Lib.hid HK2.out,Lib.hid HU3.out⟩
     case measure => simp [intOf]; omega
   · have hkk : k = N:=by omega
     have hfa : decide (k < N) = false:=by simpa using hlt
     have HF:=Lib.hid (show ArrIs wr b g r c n ys by have t:=HK.out; rw [hkk,← HN.out,← HL.out.1,loadL_all HL.out.2] at t; exact t)
     clear hlt hkk
     go_wp2_with fail
     go_ret
     exact ⟨rfl,HU.out,HF.out⟩
def NewArr (c : Cfg) (n : Nat) (zs : List Int) (w : World) (v : Value) (w' : World) : Prop:=
 ∃ b g r : Nat,v = .pointer (some ⟨b,0,none⟩) ∧ ArrIs w' b g r c n zs ∧ w.heap.size ≤ b ∧ w.heap.size ≤ g ∧ w.heap.size ≤ r ∧ Below w.heap.size w w'
theorem newArr_make {c : Cfg} {n : Nat} {zs : List Int} {w w1 : World} {g r : Nat} (hg : GridIs w1 g r 1 (2 ^ (c.bits - n)) zs) (h1 : w.heap.size ≤ g) (h2 : w.heap.size ≤ r) (hb : Below w.heap.size w w1) :
   NewArr c n zs w (.pointer (some ⟨w1.heap.size,0,none⟩)) (w1.alloc (.cells #[.int .i64 c.bits,.int .i64 c.rows,.int .i64 c.width,.int .i64 c.mode,.int .u64 c.seed,.int .i64 n,.pointer (some ⟨g,0,none⟩)] 294)):=
 ⟨_,g,r,rfl,⟨heap_alloc_new _ _,hg.upd (S:=fun _ => False) ((Upd.refl _ _).alloc _) id id⟩,hb.size,h1,h2,hb.alloc hb.size _⟩
def RNewArr (c : Cfg) (n : Nat) (zs : List Int) (w : World) (e : Ending) (w' : World) : Prop:=∃ v,e = .returned v ∧ NewArr c n zs w v w'
set_option maxRecDepth 100000 in
set_option maxHeartbeats 4000000 in
theorem excopy_any {w b g r c n zs} (h : ArrIs w b g r c n zs) : Calls Tryz.prog 204 #[.pointer (some ⟨b,0,none⟩)] w (RNewArr c n zs w):=by
 have hS:=h.cells
 obtain ⟨c0,c1,c2,c3,c4,c5,c6⟩:=h.cells
 have KG:=Lib.hid (fun w1 (hb : Below w.heap.size w w1) => gcopy_any (h.grid.below hb))
 have HS:=Lib.hid h
 clear h
 go_enter Tryz.func204,Tryz.ntmps204
 go_upto_region 1 with fail
 go_region_held3 (fun w' => w'.cell? ⟨b,0,none⟩ = some (.int .i64 c.bits) ∧ w'.cell? ⟨b,1,none⟩ = some (.int .i64 c.rows) ∧ w'.cell? ⟨b,2,none⟩ = some (.int .i64 c.width) ∧ w'.cell? ⟨b,3,none⟩ = some (.int .i64 c.mode) ∧ w'.cell? ⟨b,4,none⟩ = some (.int .u64 c.seed) ∧ w'.cell? ⟨b,5,none⟩ = some (.int .i64 n) ∧ w'.cell? ⟨b,6,none⟩ = some (.pointer (some ⟨g,0,none⟩)))
   (first | assumption | exact makeA7 hS1 _)
   (first | (go_at_call 232; ((with_reducible refine (KG.out _ (Below.refl _ _).drew).mono ?_)); rintro e w1 ⟨g1,r1,rfl,hgi,hg1,hr1,hb1⟩; (have hS1:=(((HS.out.drewN 1).below hb1).cells))))
 have HB:=Lib.hid (undrew hb1)
 have HG:=Lib.hid hgi
 have H1:=Lib.hid (show w.heap.size ≤ g1 from hg1)
 have H2:=Lib.hid (show w.heap.size ≤ r1 from hr1)
 clear hgi hg1 hr1 hb1 hS1
 rename_i hHeld
 clear hHeld
 go_wp2_with fail
 go_ret
 exact ⟨_,rfl,newArr_make HG.out H1.out H2.out HB.out⟩
theorem gnew_one (w : World) (W : Nat) (w1 : 1 ≤ W) (w8 : W ≤ 128) : Calls Tryz.prog 166 #[.int .i64 1,.int .i64 W] w (NewGrid w 1 W (List.replicate W 0)):=by
 have:=gnew_any w 1 W (by omega) (by omega) w1 w8
 rwa [Nat.one_mul] at this
set_option maxRecDepth 100000 in
set_option maxHeartbeats 4000000 in
theorem exnew_ok (c : Cfg) (hc : c.ok) (n : Nat) (hn : n ≤ c.bits) (hx : c.exact n = true) (w : World) :
   Calls Tryz.prog 125 #[cfgV c,.int .i64 n] w fun e w' => ∃ v,e = .returned (.tuple #[v,.int .i64 0]) ∧ NewArr c n (List.replicate (2 ^ (c.bits - n)) 0) w v w':=by
 have KX:=exact_ok c hc n hn
 rw [hx] at KX
 have KX:=Lib.hid KX
 have KK:=Lib.hid (fun w => keys_ok c hc n hn w)
 have hb0:=(Below.refl w.heap.size w).alloc (Nat.le_refl _) (cfgO c)
 have hbl:=heap_alloc_new w (cfgO c)
 have HB:=Lib.hid hb0
 have hp:=pow_lt59 (c.bits - n) (by have:=hc.b59; omega)
 have hM : 2 ^ (c.bits - n) ≤ 128:=by have:=of_decide_eq_true hx; have:=hc.w8; omega
 obtain ⟨m,hm⟩ : ∃ m,2 ^ (c.bits - n) = m:=⟨_,rfl⟩
 have HM:=Lib.hid hm
 rw [hm] at hp hM KK
 have KG:=Lib.hid (fun w => gnew_one w m hp.1 hM)
 have hwm : IntKind.i64.wrap (m : Int) = (m : Int):=IntWalk.i64_in _ (by omega)
 have hc5:=cfg5 hbl
 have HBL:=Lib.hid hbl
 unfold cfgV cfgO at *
 obtain ⟨a0,a1,a2,a3,a4⟩:=hc5
 have hM2 : (m : Int) ≤ 128:=by omega
 clear hb0 hc hn hp hbl hx hm hM
 go_enter Tryz.func125,Tryz.ntmps125
 go_wp2_with fail
 refine (KX.out _).mono ?_
 rintro e w2 ⟨rfl,hb⟩
 have HB2:=Lib.hid (HB.out.trans (hb.mono HB.out.size))
 have hc5:=cfg5 (c:=c) ((hb.block _ (lt_of_block HBL.out)).trans HBL.out)
 have HBL2:=Lib.hid ((hb.block _ (lt_of_block HBL.out)).trans HBL.out)
 clear hb a0 a1 a2 a3 a4 KX HB HBL
 obtain ⟨a0,a1,a2,a3,a4⟩:=id hc5
 go_upto_region 3 with fail
 go_region_held3 (fun w' => w'.cell? ⟨w.heap.size,0,none⟩ = some (.int .i64 c.bits) ∧ w'.cell? ⟨w.heap.size,1,none⟩ = some (.int .i64 c.rows) ∧ w'.cell? ⟨w.heap.size,2,none⟩ = some (.int .i64 c.width) ∧ w'.cell? ⟨w.heap.size,3,none⟩ = some (.int .i64 c.mode) ∧ w'.cell? ⟨w.heap.size,4,none⟩ = some (.int .u64 c.seed))
   (first | assumption | exact make5 hS1 _)
   (first
     | (go_at_call 39; ((with_reducible refine (KK.out _).mono ?_)); rintro e wk ⟨rfl,hbk⟩; (have HBk:=Lib.hid (undrew hbk)); clear hbk; (have hSk:=cfg5 (c:=c) ((HBk.out.block _ (lt_of_block HBL2.out)).trans HBL2.out)))
     | (go_at_call 166; ((with_reducible refine (KG.out _).mono ?_)); rintro e w3 ⟨g1,r1,rfl,hgi,hg1,hr1,hb1⟩; (have hS1:=cfg5 (c:=c) ((hb1.block _ (Nat.lt_of_lt_of_le (lt_of_block HBL2.out) HBk.out.size)).trans ((HBk.out.block _ (lt_of_block HBL2.out)).trans HBL2.out)))))
 rename_i hHeld
 clear hHeld hS1
 have HB3:=Lib.hid ((HB2.out.then HBk.out).then hb1)
 have HG:=Lib.hid (show GridIs w3 g1 r1 1 (2 ^ (c.bits - n)) (List.replicate (2 ^ (c.bits - n)) 0) by rw [HM.out]; exact hgi)
 have H1:=Lib.hid (show w.heap.size ≤ g1 from Nat.le_trans HB2.out.size (Nat.le_trans HBk.out.size hg1))
 have H2:=Lib.hid (show w.heap.size ≤ r1 from Nat.le_trans HB2.out.size (Nat.le_trans HBk.out.size hr1))
 clear hgi hg1 hr1 hb1
 go_wp2_with fail
 go_ret2
 exact ⟨_,rfl,newArr_make HG.out H1.out H2.out HB3.out⟩
end Go.Proofs.YtejaocnhekjfiaaGreatDoor
namespace Go.Proofs.YtejaocnhekjfiaaGreatDoor
open Go.RowKit
set_option linter.unusedVariables false
set_option maxRecDepth 100000 in
set_option maxHeartbeats 4000000 in
theorem exjoin_merge {w b g r b2 g2 r2 c n zs ys} (h : ArrIs w b g r c n zs) (h2 : ArrIs w b2 g2 r2 c n ys) (f1 : FitL 4611686018427387903 zs) (f2 : FitL 4611686018427387903 ys) :
   Calls Tryz.prog 224 #[.pointer (some ⟨b,0,none⟩),.pointer (some ⟨b2,0,none⟩),.func (.func 223) #[] #[],.bool true] w (RArr w b g r c n (.int .i64 0) (List.zipWith (· + ·) zs ys)):=by
 have HS:=Lib.hid h
 have HS2:=Lib.hid h2
 obtain ⟨c0,c1,c2,c3,c4,c5,c6⟩:=h.cells
 obtain ⟨d0,d1,d2,d3,d4,d5,d6⟩:=h2.cells
 have K:=Lib.hid (fun w' (hb : Below w.heap.size w w') => gplus_any (h.grid.below hb) (h2.grid.below hb) f1 f2)
 clear h h2 f1 f2
 go_enter Tryz.func224,Tryz.ntmps224
 go_upto_region 1 with fail
 go_quiet (fail)
 go_upto_region 5 with fail
 have HBq:=Lib.hid (show Below w.heap.size w (w.drewN nq) from ⟨rfl,rfl,rfl,Nat.le_refl _,fun _ _ => rfl⟩)
 obtain ⟨c0,c1,c2,c3,c4,c5,c6⟩:=(HS.out.below HBq.out).cells
 obtain ⟨d0,d1,d2,d3,d4,d5,d6⟩:=(HS2.out.below HBq.out).cells
 generalize w.drewN nq = w1 at *
 go_still_tail 9,(by kernel_rfl)
 change wpList _ _ _ _ _ w1.drew
 go_wp2_with fail
 refine (K.out _ HBq.out.drew).mono ?_
 rintro e w2 ⟨rfl,hu,hg⟩
 have HU:=Lib.hid ((Upd.of_below HBq.out.drew).trans hu)
 have HG:=Lib.hid hg
 clear hu hg
 go_wp2_with fail
 go_ret
 exact ⟨rfl,HU.out,HS.out.regrid HU.out HG.out⟩
set_option maxRecDepth 100000 in
set_option maxHeartbeats 4000000 in
theorem exjoin_subtract {w b g r b2 g2 r2 c n zs ys} (h : ArrIs w b g r c n zs) (h2 : ArrIs w b2 g2 r2 c n ys) (f1 : FitL 4611686018427387903 zs) (f2 : FitL 4611686018427387903 ys) :
   Calls Tryz.prog 224 #[.pointer (some ⟨b,0,none⟩),.pointer (some ⟨b2,0,none⟩),.func (.func 225) #[] #[],.bool true] w (RArr w b g r c n (.int .i64 0) (List.zipWith (· - ·) zs ys)):=by
 have HS:=Lib.hid h
 have HS2:=Lib.hid h2
 obtain ⟨c0,c1,c2,c3,c4,c5,c6⟩:=h.cells
 obtain ⟨d0,d1,d2,d3,d4,d5,d6⟩:=h2.cells
 have K:=Lib.hid (fun w' (hb : Below w.heap.size w w') => gminus_any (h.grid.below hb) (h2.grid.below hb) f1 f2)
 clear h h2 f1 f2
 go_enter Tryz.func224,Tryz.ntmps224
 go_upto_region 1 with fail
 go_quiet (fail)
 go_upto_region 5 with fail
 have HBq:=Lib.hid (show Below w.heap.size w (w.drewN nq) from ⟨rfl,rfl,rfl,Nat.le_refl _,fun _ _ => rfl⟩)
 obtain ⟨c0,c1,c2,c3,c4,c5,c6⟩:=(HS.out.below HBq.out).cells
 obtain ⟨d0,d1,d2,d3,d4,d5,d6⟩:=(HS2.out.below HBq.out).cells
 generalize w.drewN nq = w1 at *
 go_still_tail 9,(by kernel_rfl)
 change wpList _ _ _ _ _ w1.drew
 go_wp2_with fail
 refine (K.out _ HBq.out.drew).mono ?_
 rintro e w2 ⟨rfl,hu,hg⟩
 have HU:=Lib.hid ((Upd.of_below HBq.out.drew).trans hu)
 have HG:=Lib.hid hg
 clear hu hg
 go_wp2_with fail
 go_ret
 exact ⟨rfl,HU.out,HS.out.regrid HU.out HG.out⟩
set_option maxRecDepth 100000 in
set_option maxHeartbeats 4000000 in
theorem exjoin_no {w b g r b2 g2 r2 c n zs ys} (h : ArrIs w b g r c n zs) (h2 : ArrIs w b2 g2 r2 c n ys) :
   Calls Tryz.prog 224 #[.pointer (some ⟨b,0,none⟩),.pointer (some ⟨b2,0,none⟩),.func (.func 225) #[] #[],.bool false] w (RVal (.int .i64 3) w):=by
 obtain ⟨c0,c1,c2,c3,c4,c5,c6⟩:=h.cells
 obtain ⟨d0,d1,d2,d3,d4,d5,d6⟩:=h2.cells
 clear h h2
 go_enter Tryz.func224,Tryz.ntmps224
 go_upto_region 1 with fail
 go_quiet (fail)
 go_wp2_with fail
 go_ret
 exact ⟨rfl,⟨rfl,rfl,rfl,Nat.le_refl _,fun _ _ => rfl⟩⟩
set_option maxRecDepth 100000 in
set_option maxHeartbeats 1000000 in
theorem exmerge_ok {w b g r b2 g2 r2 c n zs ys} (h : ArrIs w b g r c n zs) (h2 : ArrIs w b2 g2 r2 c n ys) (f1 : FitL 4611686018427387903 zs) (f2 : FitL 4611686018427387903 ys) :
   Calls Tryz.prog 192 #[.pointer (some ⟨b,0,none⟩),.pointer (some ⟨b2,0,none⟩)] w (RArr w b g r c n (.int .i64 0) (List.zipWith (· + ·) zs ys)):=by
 have K:=Lib.hid (exjoin_merge h h2 f1 f2)
 clear h h2 f1 f2
 go_enter Tryz.func192,Tryz.ntmps192
 go_wp2_with (go_at_call 224; ((with_reducible refine K.out.mono ?_)); rintro e w1 ⟨rfl,hu,hg⟩)
 have HU:=Lib.hid hu
 have HG:=Lib.hid hg
 clear hu hg
 go_wp2
 go_ret
 exact ⟨rfl,HU.out,HG.out⟩
set_option maxRecDepth 100000 in
set_option maxHeartbeats 1000000 in
theorem exsubtract_ok {w b g r b2 g2 r2 c n zs ys} (h : ArrIs w b g r c n zs) (h2 : ArrIs w b2 g2 r2 c n ys) (f1 : FitL 4611686018427387903 zs) (f2 : FitL 4611686018427387903 ys) (hm : c.mode ≠ 2) :
   Calls Tryz.prog 194 #[.pointer (some ⟨b,0,none⟩),.pointer (some ⟨b2,0,none⟩)] w (RArr w b g r c n (.int .i64 0) (List.zipWith (· - ·) zs ys)):=by
 have K:=Lib.hid (exjoin_subtract h h2 f1 f2)
 obtain ⟨c0,c1,c2,c3,c4,c5,c6⟩:=h.cells
 have g0 : decide ((c.mode : Int) = 2) = false:=by simp; omega
 have g1 : ((c.mode : Int) != 2) = true:=by simp; omega
 clear h h2 f1 f2 hm
 go_enter Tryz.func194,Tryz.ntmps194
 go_wp2_with (go_at_call 224; ((with_reducible refine K.out.mono ?_)); rintro e w1 ⟨rfl,hu,hg⟩)
 have HU:=Lib.hid hu
 have HG:=Lib.hid hg
 clear hu hg
 go_wp2
 go_ret
 exact ⟨rfl,HU.out,HG.out⟩
set_option maxRecDepth 100000 in
set_option maxHeartbeats 1000000 in
theorem exsubtract_no {w b g r b2 g2 r2 c n zs ys} (h : ArrIs w b g r c n zs) (h2 : ArrIs w b2 g2 r2 c n ys) (hm : c.mode = 2) :
   Calls Tryz.prog 194 #[.pointer (some ⟨b,0,none⟩),.pointer (some ⟨b2,0,none⟩)] w (RVal (.int .i64 3) w):=by
 have K:=Lib.hid (exjoin_no h h2)
 obtain ⟨c0,c1,c2,c3,c4,c5,c6⟩:=h.cells
 rw [hm] at c3
 clear h h2 hm
 go_enter Tryz.func194,Tryz.ntmps194
 go_wp2_with (go_at_call 224; ((with_reducible refine K.out.mono ?_)); rintro e w1 ⟨rfl,hb⟩)
 have HB:=Lib.hid hb
 clear hb
 go_wp2
 go_ret
 exact ⟨rfl,HB.out⟩
end Go.Proofs.YtejaocnhekjfiaaGreatDoor
namespace Go.Proofs.YtejaocnhekjfiaaGreatDoor
open Go.RowKit
set_option linter.unusedVariables false
@[go_sem] theorem asAA (v : Value) (w : World) : (Instr.typeAssert (.iface 234 v) 183 234 true).run Tryz.prog w = .ok (.tuple #[v,.bool true]) w:=by kernel_rfl
@[go_sem] theorem asAS (v : Value) (w : World) : (Instr.typeAssert (.iface 234 v) 183 237 true).run Tryz.prog w = .ok (.tuple #[.pointer none,.bool false]) w:=by kernel_rfl
@[go_sem] theorem asSA (v : Value) (w : World) : (Instr.typeAssert (.iface 237 v) 183 234 true).run Tryz.prog w = .ok (.tuple #[.pointer none,.bool false]) w:=by kernel_rfl
@[go_sem] theorem asSS (v : Value) (w : World) : (Instr.typeAssert (.iface 237 v) 183 237 true).run Tryz.prog w = .ok (.tuple #[v,.bool true]) w:=by kernel_rfl
@[go_sem] theorem asS (v : Value) (w : World) : (Instr.typeAssert (.iface 237 v) 183 237 false).run Tryz.prog w = .ok v w:=by kernel_rfl
def NewLev (c : Cfg) (n : Nat) (zs : List Int) (w : World) (v : Value) (w' : World) : Prop:=
 ∃ A : LA,v = levV c n A ∧ LevIs w' c n A zs ∧ w.heap.size ≤ A.b ∧ w.heap.size ≤ A.g ∧ w.heap.size ≤ A.r ∧ Below w.heap.size w w'
def zeroL (c : Cfg) (n : Nat) : List Int:=List.replicate (c.R n * c.W n) 0
theorem newLev_arr {c : Cfg} {n : Nat} {zs : List Int} {w w' : World} {v : Value} (hx : c.exact n = true) (h : NewArr c n zs w v w') : NewLev c n zs w (.iface 234 v) w':=by
 obtain ⟨b,g,r,rfl,ha,h1,h2,h3,h4⟩:=h
 exact ⟨⟨b,g,r⟩,by unfold levV; rw [if_pos hx],by unfold LevIs; rw [if_pos hx]; exact ha,h1,h2,h3,h4⟩
theorem newLev_sk {c : Cfg} {n : Nat} {zs : List Int} {w w' : World} {v : Value} (hx : c.exact n = false) (h : NewSk c n zs w v w') : NewLev c n zs w (.iface 237 v) w':=by
 obtain ⟨b,g,r,rfl,ha,h1,h2,h3,h4⟩:=h
 have hx' : ¬ (c.exact n = true):=by rw [hx]; decide
 exact ⟨⟨b,g,r⟩,by unfold levV; rw [if_neg hx'],by unfold LevIs; rw [if_neg hx']; exact ha,h1,h2,h3,h4⟩
def RNewLev (c : Cfg) (n : Nat) (zs : List Int) (w : World) (e : Ending) (w' : World) : Prop:=∃ v,e = .returned (.tuple #[v,.int .i64 0]) ∧ NewLev c n zs w v w'
def CNewLev (c : Cfg) (n : Nat) (zs : List Int) (w : World) (e : Ending) (w' : World) : Prop:=∃ v,e = .returned v ∧ NewLev c n zs w v w'
theorem NewLev.mono {c : Cfg} {n : Nat} {zs : List Int} {w0 w w' : World} {v : Value} (h : NewLev c n zs w v w') (hb : Below w0.heap.size w0 w) : NewLev c n zs w0 v w':=by
 obtain ⟨A,h0,h1,h2,h3,h4,h5⟩:=h
 exact ⟨A,h0,h1,Nat.le_trans hb.size h2,Nat.le_trans hb.size h3,Nat.le_trans hb.size h4,hb.trans (h5.mono hb.size)⟩
set_option maxRecDepth 100000 in
set_option maxHeartbeats 2000000 in
theorem levnew_ok (c : Cfg) (hc : c.ok) (n : Nat) (hn : n ≤ c.bits) (w : World) :
   Calls Tryz.prog 76 #[cfgV c,.int .i64 n] w (RNewLev c n (zeroL c n) w):=by
 have KX:=exact_ok c hc n hn
 have hb0:=(Below.refl w.heap.size w).alloc (Nat.le_refl _) (cfgO c)
 have hbl:=heap_alloc_new w (cfgO c)
 have HB:=Lib.hid hb0
 have HBL:=Lib.hid hbl
 obtain ⟨a0,a1,a2,a3,a4⟩:=cfg5 hbl
 cases hx : c.exact n with
 | true =>
   rw [hx] at KX
   have KX:=Lib.hid KX
   have KN:=Lib.hid (exnew_ok c hc n hn hx)
   have HX:=Lib.hid hx
   have HZ:=Lib.hid (show zeroL c n = List.replicate (2 ^ (c.bits - n)) 0 by unfold zeroL Cfg.R Cfg.W; rw [hx]; simp)
   unfold cfgV cfgO at *
   clear hb0 hbl hx hc hn
   go_enter Tryz.func76,Tryz.ntmps76
   go_wp2_with fail
   refine (KX.out _).mono ?_
   rintro e w2 ⟨rfl,hb⟩
   have HB2:=Lib.hid (HB.out.trans (hb.mono HB.out.size))
   obtain ⟨a0,a1,a2,a3,a4⟩:=cfg5 (c:=c) ((hb.block _ (lt_of_block HBL.out)).trans HBL.out)
   clear hb
   go_wp2_with fail
   refine (KN.out _).mono ?_
   rintro e w3 ⟨v,rfl,hv⟩
   have HV:=Lib.hid hv
   clear hv
   go_wp2_with fail
   go_ret2
   exact ⟨_,rfl,by rw [HZ.out]; exact (newLev_arr HX.out HV.out).mono HB2.out⟩
 | false =>
   rw [hx] at KX
   have KX:=Lib.hid KX
   have KN:=Lib.hid (sknew_ok c hc n hn)
   have HX:=Lib.hid hx
   have HZ:=Lib.hid (show zeroL c n = List.replicate (c.rows * c.width) 0 by unfold zeroL Cfg.R Cfg.W; rw [hx]; simp)
   unfold cfgV cfgO at *
   clear hb0 hbl hx hc hn
   go_enter Tryz.func76,Tryz.ntmps76
   go_wp2_with fail
   refine (KX.out _).mono ?_
   rintro e w2 ⟨rfl,hb⟩
   have HB2:=Lib.hid (HB.out.trans (hb.mono HB.out.size))
   obtain ⟨a0,a1,a2,a3,a4⟩:=cfg5 (c:=c) ((hb.block _ (lt_of_block HBL.out)).trans HBL.out)
   clear hb
   go_wp2_with fail
   refine (KN.out _).mono ?_
   rintro e w3 ⟨v,rfl,hv⟩
   have HV:=Lib.hid hv
   clear hv
   go_wp2_with fail
   go_ret2
   exact ⟨_,rfl,by rw [HZ.out]; exact (newLev_sk HX.out HV.out).mono HB2.out⟩
theorem LevIs.arr {w c n A zs} (h : LevIs w c n A zs) (hx : c.exact n = true) : ArrIs w A.b A.g A.r c n zs ∧ levV c n A = .iface 234 (.pointer (some ⟨A.b,0,none⟩)):=by
 unfold LevIs at h; unfold levV; rw [if_pos hx] at *; exact ⟨h,rfl⟩
theorem LevIs.sk {w c n A zs} (h : LevIs w c n A zs) (hx : c.exact n = false) : SkIs w A.b A.g A.r c n zs ∧ levV c n A = .iface 237 (.pointer (some ⟨A.b,0,none⟩)):=by
 have hx' : ¬ (c.exact n = true):=by rw [hx]; decide
 unfold LevIs at h; unfold levV; rw [if_neg hx'] at *; exact ⟨h,rfl⟩
theorem LevIs.of_arr {w c n A zs} (h : ArrIs w A.b A.g A.r c n zs) (hx : c.exact n = true) : LevIs w c n A zs:=by unfold LevIs; rw [if_pos hx]; exact h
theorem LevIs.of_sk {w c n A zs} (h : SkIs w A.b A.g A.r c n zs) (hx : c.exact n = false) : LevIs w c n A zs:=by
 have hx' : ¬ (c.exact n = true):=by rw [hx]; decide
 unfold LevIs; rw [if_neg hx']; exact h
set_option maxRecDepth 100000 in
set_option maxHeartbeats 2000000 in
theorem levcopy_any {w c n A zs} (h : LevIs w c n A zs) : Calls Tryz.prog 167 #[levV c n A] w (CNewLev c n zs w):=by
 cases hx : c.exact n with
 | true =>
   obtain ⟨ha,hv⟩:=h.arr hx
   rw [hv]
   have K:=Lib.hid (excopy_any ha)
   have HX:=Lib.hid hx
   clear h ha hv hx
   go_enter Tryz.func167,Tryz.ntmps167
   go_wp2_with (go_at_call 204; ((with_reducible refine K.out.mono ?_)); rintro e w' ⟨v,rfl,hv⟩)
   have HV:=Lib.hid hv
   clear hv
   go_wp2_with fail
   go_ret
   exact ⟨_,rfl,newLev_arr HX.out HV.out⟩
 | false =>
   obtain ⟨ha,hv⟩:=h.sk hx
   rw [hv]
   have K:=Lib.hid (skcopy_any ha)
   have HX:=Lib.hid hx
   clear h ha hv hx
   go_enter Tryz.func167,Tryz.ntmps167
   go_wp2_with (go_at_call 205; ((with_reducible refine K.out.mono ?_)); rintro e w' ⟨v,rfl,hv⟩)
   have HV:=Lib.hid hv
   clear hv
   go_wp2_with fail
   go_ret
   exact ⟨_,rfl,newLev_sk HX.out HV.out⟩
end Go.Proofs.YtejaocnhekjfiaaGreatDoor
