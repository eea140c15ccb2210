/- Walks and plain laws, part 5: S25Words S25Num S25Hex S25Read S25Nums S25Add Ag8 Bld. -/
import Derived.Test.YtejaocnhekjfiaaGreatDoorK01
import Derived.Test.YtejaocnhekjfiaaGreatDoorK04
import Derived.Maps.AppendAt
import Derived.OneCell
import Derived.Deep.QuietTactic
import Derived.BigQuiet
import Derived.RegionTactic
import Derived.ChangeAlike
import Derived.Lib.OthersKept
namespace Go.Proofs.YtejaocnhekjfiaaGreatDoor.S25
open Go.RowKit
set_option linter.unusedVariables false
theorem info78 : (Tryz.prog.info? 173).map (fun i => (i.zero,i.size,i.bytes)) = some (some (.agg #[.string ⟨#[]⟩,.int .i64 0]),2,24):=by kernel_rfl
def wcells (l : List (ByteArray × Nat)) : List Value:=l.flatMap fun p => [.string p.1,.int .i64 p.2]
theorem wcells_cons (p : ByteArray × Nat) (l : List (ByteArray × Nat)) : wcells (p :: l) = .string p.1 :: .int .i64 p.2 :: wcells l:=rfl
theorem wcells_append (l m : List (ByteArray × Nat)) : wcells (l ++ m) = wcells l ++ wcells m:=by simp [wcells]
theorem wcells_len (l : List (ByteArray × Nat)) : (wcells l).length = l.length * 2:=by
 induction l with
 | nil => rfl
 | cons p l ih => rw [wcells_cons,List.length_cons,List.length_cons,ih,List.length_cons]; omega
theorem wcells_get (l : List (ByteArray × Nat)) (k : Nat) : (wcells l)[k * 2]? = l[k]?.map fun p => .string p.1:=by
 induction l generalizing k with
 | nil => simp [wcells]
 | cons p l ih =>
   rw [wcells_cons]
   cases k with
   | zero => simp
   | succ k => rw [show (k + 1) * 2 = k * 2 + 1 + 1 by omega,List.getElem?_cons_succ,List.getElem?_cons_succ,ih,List.getElem?_cons_succ]
theorem wcells_get1 (l : List (ByteArray × Nat)) (k : Nat) : (wcells l)[k * 2 + 1]? = l[k]?.map fun p => .int .i64 p.2:=by
 induction l generalizing k with
 | nil => simp [wcells]
 | cons p l ih =>
   rw [wcells_cons]
   cases k with
   | zero => simp
   | succ k => rw [show (k + 1) * 2 + 1 = (k * 2 + 1) + 1 + 1 by omega,List.getElem?_cons_succ,List.getElem?_cons_succ,ih,List.getElem?_cons_succ]
def wblk (l : List (ByteArray × Nat)) (rest : List Value) : Array Value:=(wcells l ++ rest).toArray
theorem wblk_get {l : List (ByteArray × Nat)} {k : Nat} {p : ByteArray × Nat} (h : l[k]? = some p) (rest : List Value) : (wblk l rest)[k * 2]? = some (.string p.1):=by
 have hk:=(List.getElem?_eq_some_iff.1 h).1
 unfold wblk
 rw [List.getElem?_toArray,List.getElem?_append_left (by rw [wcells_len]; omega),wcells_get,h]; rfl
theorem wblk_get1 {l : List (ByteArray × Nat)} {k : Nat} {p : ByteArray × Nat} (h : l[k]? = some p) (rest : List Value) : (wblk l rest)[k * 2 + 1]? = some (.int .i64 p.2):=by
 have hk:=(List.getElem?_eq_some_iff.1 h).1
 unfold wblk
 rw [List.getElem?_toArray,List.getElem?_append_left (by rw [wcells_len]; omega),wcells_get1,h]; rfl
def WRow (w : World) (a : Option Addr) (n : Nat) (l : List (ByteArray × Nat)) : Prop:=
 l.length = n ∧ (l = [] ∨ ∃ g rest,a = some ⟨g,0,none⟩ ∧ w.heap[g]? = some (.cells (wblk l rest) 173 (0,0)))
theorem WRow.cells {w : World} {a n l} (h : WRow w a n l) {k : Nat} {p : ByteArray × Nat} (hp : l[k]? = some p) :
   ∃ g,a = some ⟨g,0,none⟩ ∧ g < w.heap.size ∧ w.cell? ⟨g,k * 2,none⟩ = some (.string p.1) ∧ w.cell? ⟨g,k * 2 + 1,none⟩ = some (.int .i64 p.2):=by
 rcases h.2 with rfl | ⟨g,rest,e,hh⟩
 · simp at hp
 · exact ⟨g,e,lt_of_block hh,(cell_of_row _ _ _ _ _ _ hh).trans (wblk_get hp rest),(cell_of_row _ _ _ _ _ _ hh).trans (wblk_get1 hp rest)⟩
theorem WRow.own {w : World} {base : Nat} {v : Value} {n : Nat} {l : List (ByteArray × Nat)} (h : w.ownsRow base 173 2 v n (wcells l)) :
   ∃ a c,v = .slice a n c ∧ WRow w a n l ∧ n ≤ c:=by
 have hn : l.length = n:=by
   have:=h.1
   rw [wcells_len] at this
   omega
 rcases h with ⟨hl,⟨rfl,he⟩ | ⟨g,cap,cur,rfl,hg,hh,hnc,hcm,hcs,ht⟩⟩
 · obtain rfl : l = []:=List.length_eq_zero_iff.1 (by omega)
   subst he
   exact ⟨none,0,rfl,⟨rfl,.inl rfl⟩,Nat.le_refl _⟩
 · refine ⟨_,cap,rfl,⟨hn,.inr ⟨g,cur.toList.drop (n * 2),rfl,?_⟩⟩,hnc⟩
   rw [hh]
   unfold wblk
   rw [← ht,List.take_append_drop]
theorem one_wcells (l : List (ByteArray × Nat)) : ∀ u ∈ wcells l,u.oneCell' = true:=by
 intro u hu
 unfold wcells at hu
 simp only [List.mem_flatMap,List.mem_cons,List.not_mem_nil,or_false] at hu
 obtain ⟨p,_,rfl | rfl⟩:=hu <;> rfl
theorem le_alloc {B : Nat} {W : World} (h : B ≤ W.heap.size) (o : Obj) : B ≤ (W.alloc o).heap.size:=by simp; omega
theorem news_w (W : World) {s : Nat} (hs : W.heap.size = s) (x : ByteArray) (k : Nat) : ∀ j u,(wcells [(x,k)])[j]? = some u → (W.alloc (.cells #[.string x,.int .i64 k] 173)).cell? ((⟨s,0,none⟩ : Addr).add j) = some u:=by
 subst hs
 intro j u hj
 match j,hj with
 | 0,hj =>
   simp [wcells] at hj; subst hj
   exact (cell_of_row _ _ _ _ _ _ (heap_alloc_new W (.cells #[.string x,.int .i64 k] 173))).trans rfl
 | 1,hj =>
   simp [wcells] at hj; subst hj
   exact (cell_of_row _ _ _ _ _ _ (heap_alloc_new W (.cells #[.string x,.int .i64 k] 173))).trans rfl
theorem wowns_len {w : World} {base : Nat} {v : Value} {n : Nat} {l : List (ByteArray × Nat)} (h : w.ownsRow base 173 2 v n (wcells l)) : l.length = n:=by
 have:=h.1; rw [wcells_len] at this; omega
theorem ib_any (s : ByteArray) (c : Int) (w : World) :
   Calls Tryz.prog 69 #[.string s,.int .u8 c] w fun e w' => e = .returned (.int .i64 (Lib.indexByte s.data.toList c.toNat.toUInt8)) ∧ w = w':=
 (Tryz.strings_IndexByte s c w).mono fun _ _ h => ⟨h.1,h.2.symm⟩
def RelW (s : ByteArray) (w : World) (u2 u3 : Value) (wr : World) : Prop:=
 ∃ (pos m : Nat) (xs : List (ByteArray × Nat)),pos ≤ s.size ∧ u3 = .int .i64 pos ∧ m ≤ pos ∧ Hid (wr.ownsRow w.heap.size 173 2 u2 m (wcells xs)) ∧
   Hid (xs ++ (wordsAt s pos).map (fun p => (s.extract p.1 p.2,p.1)) = wordsOf s) ∧ Hid (Below w.heap.size w wr)
def WordsPost (s : ByteArray) (w : World) (e : Ending) (w' : World) : Prop:=
 ∃ a c,e = .returned (.slice a (wordsOf s).length c) ∧ WRow w' a (wordsOf s).length (wordsOf s) ∧ Below w.heap.size w w'
set_option maxRecDepth 100000 in
set_option maxHeartbeats 4000000 in
theorem words_any (s : ByteArray) (w : World) (hs : s.size ≤ 1048576) : Calls Tryz.prog 45 #[.string s] w (WordsPost s w):=by
 obtain ⟨i0,hi0,hz0,hz1,hz2⟩:=info_parts info78
 go_enter Tryz.func45,Tryz.ntmps45
 go_wp2
 go_loopw [2,3] (fun u2 u3 wr => RelW s w u2 u3 wr) (fun _ u3 _ => s.size - (intOf u3).toNat)
 case atStart => exact ⟨0,0,[],by omega,rfl,by omega,Lib.hid (World.ownsRow_nil _ _ _ _),Lib.hid rfl,Lib.hid (Below.refl _ _)⟩
 case round =>
   obtain ⟨pos,m,xs,hp,rfl,hm,HO,HCV,HBR⟩:=hrel
   obtain ⟨a2,k2,rfl,HWR0⟩:=WRow.own HO.out
   have HWR:=Lib.hid HWR0; clear HWR0
   by_cases hlt : pos < s.size
   · have hb:=bAt_get s pos hlt
     have hin : (pos : Int) < (s.size : Int):=by omega
     have hi0' : (0 : Int) ≤ (pos : Int):=by omega
     have hm4 : m + 1 ≤ maxLen:=by unfold maxLen; omega
     have hn4 : (m + 1) * 24 ≤ 140737488355328:=by omega
     have HBS:=Lib.hid (show w.heap.size ≤ wr.heap.size from HBR.out.size)
     by_cases h32 : bAt s pos = 32
     · have HCV2:=Lib.hid (show xs ++ (wordsAt s (pos + 1)).map (fun p => (s.extract p.1 p.2,p.1)) = wordsOf s by
         rw [← HCV.out]; conv => rhs; rw [wordsAt,dif_pos hlt,dif_pos h32])
       rw [h32] at hb
       clear h32
       go_wp2_with fail
       go_roundw
       case rel => exact ⟨pos + 1,m,xs,by omega,by go_num,by omega,HO,HCV2,HBR⟩
       case measure => simp [intOf]; omega
     · have WG:=Lib.hid (wordEnd_gt hlt h32)
       have WS:=Lib.hid (show (wordsAt s pos) = (pos,wordEnd s pos) :: wordsAt s (wordEnd s pos) by conv => lhs; rw [wordsAt,dif_pos hlt,dif_neg h32])
       obtain ⟨b0,hb0⟩ : ∃ b0,bAt s pos = b0:=⟨_,rfl⟩
       rw [hb0] at hb h32
       have g32 : ((b0 : Int) == 32) = false:=by simp; omega
       obtain ⟨wo,rfl⟩ : ∃ wo : World,wo = wr:=⟨_,rfl⟩
       by_cases h34 : b0 = 34
       · subst h34
         have KI:=Lib.hid (fun w => ib_any (s.extract (pos + 1) s.size) 34 w)
         by_cases hq : 0 ≤ quoteAt s pos
         · obtain ⟨q,hqe⟩:=Int.eq_ofNat_of_zero_le hq
           have hqs:=(quoteAt_some hq).1
           have hwe : skipTo s (pos + 1 + q) = wordEnd s pos:=by
             unfold wordEnd wordFrom; rw [if_pos hb0,if_pos hq,hqe]; rfl
           have hqe2 : Lib.indexByte (s.extract (pos + 1) s.size).data.toList ((34 : Int).toNat.toUInt8) = (q : Int):=hqe
           rw [hqe2] at KI
           have hq9 : (quoteAt s pos).toNat = q:=by rw [hqe]; rfl
           rw [hq9] at hqs
           obtain ⟨e0,he0⟩ : ∃ e0,pos + 1 + q = e0:=⟨_,rfl⟩
           rw [he0] at hwe hqs
           have hgeq : decide (0 ≤ (q : Int)) = true:=by simp
           have hei : (pos : Int) + 1 + (q : Int) = (e0 : Int):=by omega
           have HEI:=Lib.hid hei
           have hpe : pos ≤ e0:=by omega
           clear hqe hqe2 hq9 hq h32 hb0 hei
           go_wp2_with fail
           refine (KI.out _).mono ?_
           rintro e w' ⟨rfl,rfl⟩
           have HE:=Lib.hid hwe
           clear hwe
           go_wp2_with fail
           go_loop [4] (fun u4 => ∃ e : Nat,e0 ≤ e ∧ e ≤ s.size ∧ u4 = .int .i64 e ∧ Hid (skipTo s e = wordEnd s pos)) (fun u4 => s.size - (intOf u4).toNat)
           case atStart => exact ⟨e0,by omega,by omega,congrArg (Value.int .i64) (by have:=HEI.out; omega),HE⟩
           case round =>
             obtain ⟨e,he1,he2,rfl,HSK⟩:=hrel
             by_cases hes : e < s.size
             · have hbe:=bAt_get s e hes
               have hes2 : (e : Int) < (s.size : Int):=by omega
               have hes3 : (0 : Int) ≤ (e : Int):=by omega
               obtain ⟨b2,hb2⟩ : ∃ b2,bAt s e = b2:=⟨_,rfl⟩
               rw [hb2] at hbe
               by_cases h32 : b2 = 32
               · have HFIN:=Lib.hid (show e = wordEnd s pos by rw [← HSK.out,skipTo,if_neg (by rw [hb2]; omega)])
                 have g2 : ((b2 : Int) != 32) = false:=by simp; omega
                 clear h32 hb2
                 have hge:=WG.out
                 have hfin:=HFIN.out
                 have HCV2:=Lib.hid (show (xs ++ [(s.extract pos e,pos)]) ++ (wordsAt s e).map (fun p => (s.extract p.1 p.2,p.1)) = wordsOf s by
                   rw [← HCV.out,WS.out,← hfin]; simp)
                 have hgt : pos < e:=by omega
                 clear hge hfin
                 go_wp2_with (at_builtin; refine wpList_append_own_at _ rfl (.tmp 46) (.tmp 53) 101 rfl w.heap.size 173 i0 _ 2 24 Tryz.underlying101 hi0 hz0 hz1 hz2 rfl (by decide) _ _ _ rfl (HO.out.alloc _) ⟨wo.heap.size,0,none⟩ 1 1 (wcells [(s.extract pos e,pos)]) rfl rfl (news_w _ rfl _ pos) (one_wcells _) hm4 hn4 (le_alloc HBS.out _) ?_; intro v1 w1 hown' hg' _ hat'; rw [← wcells_append] at hown'; have HB1:=Lib.hid ((HBR.out.alloc HBS.out _).grown hg' (le_alloc HBS.out _) (fun k hk => (HO.out.lt k hk).1)); obtain ⟨a1,c1,hv',_⟩:=WRow.own hown'; subst hv'; have HO1:=Lib.hid hown'; clear hown' hg' hat')
                 go_roundw
                 case rel => exact ⟨e,m + 1,xs ++ [(s.extract pos e,pos)],by omega,rfl,by omega,Lib.hid HO1.out,HCV2,Lib.hid HB1.out⟩
                 case measure => simp [intOf]; omega
               · have HSK2:=Lib.hid (show skipTo s (e + 1) = wordEnd s pos by rw [← HSK.out]; conv => rhs; rw [skipTo,if_pos ⟨hes,by rw [hb2]; exact h32⟩])
                 have g2 : ((b2 : Int) != 32) = true:=by simp; omega
                 clear h32 hb2
                 go_wp2_with fail
                 go_round
                 case rel => exact ⟨e + 1,by omega,by omega,by go_num,HSK2⟩
                 case measure => simp [intOf]; omega
             · have HFIN:=Lib.hid (show e = wordEnd s pos by rw [← HSK.out,skipTo,if_neg (by omega)])
               have g2 : decide (e < s.size) = false:=by simp; omega
               clear hes
               have hge:=WG.out
               have hfin:=HFIN.out
               have HCV2:=Lib.hid (show (xs ++ [(s.extract pos e,pos)]) ++ (wordsAt s e).map (fun p => (s.extract p.1 p.2,p.1)) = wordsOf s by
                 rw [← HCV.out,WS.out,← hfin]; simp)
               have hgt : pos < e:=by omega
               clear hge hfin
               go_wp2_with (at_builtin; refine wpList_append_own_at _ rfl (.tmp 46) (.tmp 53) 101 rfl w.heap.size 173 i0 _ 2 24 Tryz.underlying101 hi0 hz0 hz1 hz2 rfl (by decide) _ _ _ rfl (HO.out.alloc _) ⟨wo.heap.size,0,none⟩ 1 1 (wcells [(s.extract pos e,pos)]) rfl rfl (news_w _ rfl _ pos) (one_wcells _) hm4 hn4 (le_alloc HBS.out _) ?_; intro v1 w1 hown' hg' _ hat'; rw [← wcells_append] at hown'; have HB1:=Lib.hid ((HBR.out.alloc HBS.out _).grown hg' (le_alloc HBS.out _) (fun k hk => (HO.out.lt k hk).1)); obtain ⟨a1,c1,hv',_⟩:=WRow.own hown'; subst hv'; have HO1:=Lib.hid hown'; clear hown' hg' hat')
               go_roundw
               case rel => exact ⟨e,m + 1,xs ++ [(s.extract pos e,pos)],by omega,rfl,by omega,Lib.hid HO1.out,HCV2,Lib.hid HB1.out⟩
               case measure => simp [intOf]; omega
         · have hqn : quoteAt s pos = -1:=by
             have:=Lib.indexByte_ge (s.extract (pos + 1) s.size).data.toList 34
             unfold quoteAt at hq ⊢
             omega
           have hwe : skipTo s s.size = wordEnd s pos:=by
             unfold wordEnd wordFrom; rw [if_pos hb0,if_neg hq]
           have hqe2 : Lib.indexByte (s.extract (pos + 1) s.size).data.toList ((34 : Int).toNat.toUInt8) = -1:=hqn
           rw [hqe2] at KI
           obtain ⟨e0,he0⟩ : ∃ e0,s.size = e0:=⟨_,rfl⟩
           have hqs : e0 ≤ s.size:=by omega
           rw [he0] at hwe
           have hpe : pos ≤ e0:=by omega
           have HEI:=Lib.hid he0
           clear hqn hqe2 hq h32 hb0 he0
           go_wp2_with fail
           refine (KI.out _).mono ?_
           rintro e w' ⟨rfl,rfl⟩
           have HE:=Lib.hid hwe
           clear hwe
           go_wp2_with fail
           go_loop [4] (fun u4 => ∃ e : Nat,e0 ≤ e ∧ e ≤ s.size ∧ u4 = .int .i64 e ∧ Hid (skipTo s e = wordEnd s pos)) (fun u4 => s.size - (intOf u4).toNat)
           case atStart => exact ⟨e0,by omega,by omega,congrArg (Value.int .i64) (by have:=HEI.out; omega),HE⟩
           case round =>
             obtain ⟨e,he1,he2,rfl,HSK⟩:=hrel
             by_cases hes : e < s.size
             · have hbe:=bAt_get s e hes
               have hes2 : (e : Int) < (s.size : Int):=by omega
               have hes3 : (0 : Int) ≤ (e : Int):=by omega
               obtain ⟨b2,hb2⟩ : ∃ b2,bAt s e = b2:=⟨_,rfl⟩
               rw [hb2] at hbe
               by_cases h32 : b2 = 32
               · have HFIN:=Lib.hid (show e = wordEnd s pos by rw [← HSK.out,skipTo,if_neg (by rw [hb2]; omega)])
                 have g2 : ((b2 : Int) != 32) = false:=by simp; omega
                 clear h32 hb2
                 have hge:=WG.out
                 have hfin:=HFIN.out
                 have HCV2:=Lib.hid (show (xs ++ [(s.extract pos e,pos)]) ++ (wordsAt s e).map (fun p => (s.extract p.1 p.2,p.1)) = wordsOf s by
                   rw [← HCV.out,WS.out,← hfin]; simp)
                 have hgt : pos < e:=by omega
                 clear hge hfin
                 go_wp2_with (at_builtin; refine wpList_append_own_at _ rfl (.tmp 46) (.tmp 53) 101 rfl w.heap.size 173 i0 _ 2 24 Tryz.underlying101 hi0 hz0 hz1 hz2 rfl (by decide) _ _ _ rfl (HO.out.alloc _) ⟨wo.heap.size,0,none⟩ 1 1 (wcells [(s.extract pos e,pos)]) rfl rfl (news_w _ rfl _ pos) (one_wcells _) hm4 hn4 (le_alloc HBS.out _) ?_; intro v1 w1 hown' hg' _ hat'; rw [← wcells_append] at hown'; have HB1:=Lib.hid ((HBR.out.alloc HBS.out _).grown hg' (le_alloc HBS.out _) (fun k hk => (HO.out.lt k hk).1)); obtain ⟨a1,c1,hv',_⟩:=WRow.own hown'; subst hv'; have HO1:=Lib.hid hown'; clear hown' hg' hat')
                 go_roundw
                 case rel => exact ⟨e,m + 1,xs ++ [(s.extract pos e,pos)],by omega,rfl,by omega,Lib.hid HO1.out,HCV2,Lib.hid HB1.out⟩
                 case measure => simp [intOf]; omega
               · have HSK2:=Lib.hid (show skipTo s (e + 1) = wordEnd s pos by rw [← HSK.out]; conv => rhs; rw [skipTo,if_pos ⟨hes,by rw [hb2]; exact h32⟩])
                 have g2 : ((b2 : Int) != 32) = true:=by simp; omega
                 clear h32 hb2
                 go_wp2_with fail
                 go_round
                 case rel => exact ⟨e + 1,by omega,by omega,by go_num,HSK2⟩
                 case measure => simp [intOf]; omega
             · have HFIN:=Lib.hid (show e = wordEnd s pos by rw [← HSK.out,skipTo,if_neg (by omega)])
               have g2 : decide (e < s.size) = false:=by simp; omega
               clear hes
               have hge:=WG.out
               have hfin:=HFIN.out
               have HCV2:=Lib.hid (show (xs ++ [(s.extract pos e,pos)]) ++ (wordsAt s e).map (fun p => (s.extract p.1 p.2,p.1)) = wordsOf s by
                 rw [← HCV.out,WS.out,← hfin]; simp)
               have hgt : pos < e:=by omega
               clear hge hfin
               go_wp2_with (at_builtin; refine wpList_append_own_at _ rfl (.tmp 46) (.tmp 53) 101 rfl w.heap.size 173 i0 _ 2 24 Tryz.underlying101 hi0 hz0 hz1 hz2 rfl (by decide) _ _ _ rfl (HO.out.alloc _) ⟨wo.heap.size,0,none⟩ 1 1 (wcells [(s.extract pos e,pos)]) rfl rfl (news_w _ rfl _ pos) (one_wcells _) hm4 hn4 (le_alloc HBS.out _) ?_; intro v1 w1 hown' hg' _ hat'; rw [← wcells_append] at hown'; have HB1:=Lib.hid ((HBR.out.alloc HBS.out _).grown hg' (le_alloc HBS.out _) (fun k hk => (HO.out.lt k hk).1)); obtain ⟨a1,c1,hv',_⟩:=WRow.own hown'; subst hv'; have HO1:=Lib.hid hown'; clear hown' hg' hat')
               go_roundw
               case rel => exact ⟨e,m + 1,xs ++ [(s.extract pos e,pos)],by omega,rfl,by omega,Lib.hid HO1.out,HCV2,Lib.hid HB1.out⟩
               case measure => simp [intOf]; omega
       · have hwe : skipTo s pos = wordEnd s pos:=by
           unfold wordEnd wordFrom; rw [hb0,if_neg h34]
         have g34 : ((b0 : Int) == 34) = false:=by simp; omega
         obtain ⟨e0,he0⟩ : ∃ e0,pos = e0:=⟨_,rfl⟩
         have hqs : e0 ≤ s.size:=by omega
         have hwe : skipTo s e0 = wordEnd s pos:=by rw [← he0]; exact hwe
         have hpe : pos ≤ e0:=by omega
         have HEI:=Lib.hid he0
         clear h34 h32 hb0 he0
         have HE:=Lib.hid hwe
         clear hwe
         go_wp2_with fail
         go_loop [4] (fun u4 => ∃ e : Nat,e0 ≤ e ∧ e ≤ s.size ∧ u4 = .int .i64 e ∧ Hid (skipTo s e = wordEnd s pos)) (fun u4 => s.size - (intOf u4).toNat)
         case atStart => exact ⟨e0,by omega,by omega,congrArg (Value.int .i64) (by have:=HEI.out; omega),HE⟩
         case round =>
           obtain ⟨e,he1,he2,rfl,HSK⟩:=hrel
           by_cases hes : e < s.size
           · have hbe:=bAt_get s e hes
             have hes2 : (e : Int) < (s.size : Int):=by omega
             have hes3 : (0 : Int) ≤ (e : Int):=by omega
             obtain ⟨b2,hb2⟩ : ∃ b2,bAt s e = b2:=⟨_,rfl⟩
             rw [hb2] at hbe
             by_cases h32 : b2 = 32
             · have HFIN:=Lib.hid (show e = wordEnd s pos by rw [← HSK.out,skipTo,if_neg (by rw [hb2]; omega)])
               have g2 : ((b2 : Int) != 32) = false:=by simp; omega
               clear h32 hb2
               have hge:=WG.out
               have hfin:=HFIN.out
               have HCV2:=Lib.hid (show (xs ++ [(s.extract pos e,pos)]) ++ (wordsAt s e).map (fun p => (s.extract p.1 p.2,p.1)) = wordsOf s by
                 rw [← HCV.out,WS.out,← hfin]; simp)
               have hgt : pos < e:=by omega
               clear hge hfin
               go_wp2_with (at_builtin; refine wpList_append_own_at _ rfl (.tmp 46) (.tmp 53) 101 rfl w.heap.size 173 i0 _ 2 24 Tryz.underlying101 hi0 hz0 hz1 hz2 rfl (by decide) _ _ _ rfl (HO.out.alloc _) ⟨wo.heap.size,0,none⟩ 1 1 (wcells [(s.extract pos e,pos)]) rfl rfl (news_w _ rfl _ pos) (one_wcells _) hm4 hn4 (le_alloc HBS.out _) ?_; intro v1 w1 hown' hg' _ hat'; rw [← wcells_append] at hown'; have HB1:=Lib.hid ((HBR.out.alloc HBS.out _).grown hg' (le_alloc HBS.out _) (fun k hk => (HO.out.lt k hk).1)); obtain ⟨a1,c1,hv',_⟩:=WRow.own hown'; subst hv'; have HO1:=Lib.hid hown'; clear hown' hg' hat')
               go_roundw
               case rel => exact ⟨e,m + 1,xs ++ [(s.extract pos e,pos)],by omega,rfl,by omega,Lib.hid HO1.out,HCV2,Lib.hid HB1.out⟩
               case measure => simp [intOf]; omega
             · have HSK2:=Lib.hid (show skipTo s (e + 1) = wordEnd s pos by rw [← HSK.out]; conv => rhs; rw [skipTo,if_pos ⟨hes,by rw [hb2]; exact h32⟩])
               have g2 : ((b2 : Int) != 32) = true:=by simp; omega
               clear h32 hb2
               go_wp2_with fail
               go_round
               case rel => exact ⟨e + 1,by omega,by omega,by go_num,HSK2⟩
               case measure => simp [intOf]; omega
           · have HFIN:=Lib.hid (show e = wordEnd s pos by rw [← HSK.out,skipTo,if_neg (by omega)])
             have g2 : decide (e < s.size) = false:=by simp; omega
             clear hes
             have hge:=WG.out
             have hfin:=HFIN.out
             have HCV2:=Lib.hid (show (xs ++ [(s.extract pos e,pos)]) ++ (wordsAt s e).map (fun p => (s.extract p.1 p.2,p.1)) = wordsOf s by
               rw [← HCV.out,WS.out,← hfin]; simp)
             have hgt : pos < e:=by omega
             clear hge hfin
             go_wp2_with (at_builtin; refine wpList_append_own_at _ rfl (.tmp 46) (.tmp 53) 101 rfl w.heap.size 173 i0 _ 2 24 Tryz.underlying101 hi0 hz0 hz1 hz2 rfl (by decide) _ _ _ rfl (HO.out.alloc _) ⟨wo.heap.size,0,none⟩ 1 1 (wcells [(s.extract pos e,pos)]) rfl rfl (news_w _ rfl _ pos) (one_wcells _) hm4 hn4 (le_alloc HBS.out _) ?_; intro v1 w1 hown' hg' _ hat'; rw [← wcells_append] at hown'; have HB1:=Lib.hid ((HBR.out.alloc HBS.out _).grown hg' (le_alloc HBS.out _) (fun k hk => (HO.out.lt k hk).1)); obtain ⟨a1,c1,hv',_⟩:=WRow.own hown'; subst hv'; have HO1:=Lib.hid hown'; clear hown' hg' hat')
             go_roundw
             case rel => exact ⟨e,m + 1,xs ++ [(s.extract pos e,pos)],by omega,rfl,by omega,Lib.hid HO1.out,HCV2,Lib.hid HB1.out⟩
             case measure => simp [intOf]; omega
   · obtain rfl : pos = s.size:=by omega
     have hfin : xs = wordsOf s:=by
       have:=HCV.out
       rw [wordsAt,dif_neg (by omega)] at this
       simpa using this
     have HF:=Lib.hid hfin
     have hlen:=wowns_len HO.out
     rw [hfin] at hlen
     have HL:=Lib.hid hlen
     clear hfin hlen
     go_wp2_with fail
     go_ret
     refine ⟨a2,k2,?_,?_,HBR.out⟩
     · rw [HL.out]; rfl
     · have:=HWR.out.1
       rw [HF.out] at this
       rw [HL.out]; exact this
end Go.Proofs.YtejaocnhekjfiaaGreatDoor.S25
namespace Go.Proofs.YtejaocnhekjfiaaGreatDoor.S25
open Go.RowKit
set_option linter.unusedVariables false
def namedB (s : ByteArray) : Bool:=decide (2 ≤ s.size) && decide (bAt s 0 = 34) && decide (quoteAt s 0 = (s.size : Int) - 2)
def namedV (s : ByteArray) : Value:=if namedB s then .tuple #[.string (s.extract 1 (s.size - 1)),.bool true] else .tuple #[.string ⟨#[]⟩,.bool false]
set_option maxRecDepth 100000 in
set_option maxHeartbeats 1000000 in
theorem named_any (s : ByteArray) (w : World) (hs : s.size ≤ 1048576) : Calls Tryz.prog 117 #[.string s] w fun e w' => e = .returned (namedV s) ∧ w = w':=by
 by_cases h1 : 2 ≤ s.size
 · have hb:=bAt_get s 0 (by omega)
   have g1 : decide ((s.size : Int) < 2) = false:=by simp; omega
   by_cases h2 : bAt s 0 = 34
   · have KI:=Lib.hid (fun w => ib_any (s.extract 1 s.size) 34 w)
     have hq : Lib.indexByte (s.extract 1 s.size).data.toList ((34 : Int).toNat.toUInt8) = quoteAt s 0:=rfl
     rw [hq] at KI
     rw [h2] at hb
     by_cases h3 : quoteAt s 0 = (s.size : Int) - 2
     · have HV:=Lib.hid (show namedV s = .tuple #[.string (s.extract 1 (s.size - 1)),.bool true] by unfold namedV namedB; simp [h1,h2,h3])
       rw [h3] at KI
       clear h3 h2 hq
       have g3 : (((s.size : Int) - 2) != (s.size : Int) - 2) = false:=by simp
       go_enter Tryz.func117,Tryz.ntmps117
       go_wp2_with fail
       refine (KI.out _).mono ?_
       rintro e w1 ⟨rfl,rfl⟩
       go_wp2_with fail
       go_ret2
       exact ⟨by rw [HV.out]; rfl,rfl⟩
     · have HV:=Lib.hid (show namedV s = .tuple #[.string ⟨#[]⟩,.bool false] by unfold namedV namedB; simp [h3])
       have g3 : (quoteAt s 0 != (s.size : Int) - 2) = true:=by simpa using h3
       clear h3 h2 hq
       go_enter Tryz.func117,Tryz.ntmps117
       go_wp2_with fail
       refine (KI.out _).mono ?_
       rintro e w1 ⟨rfl,rfl⟩
       go_wp2_with fail
       go_ret2
       exact ⟨by rw [HV.out]; rfl,rfl⟩
   · have HV:=Lib.hid (show namedV s = .tuple #[.string ⟨#[]⟩,.bool false] by unfold namedV namedB; simp [h2])
     obtain ⟨b0,hb0⟩ : ∃ b0,bAt s 0 = b0:=⟨_,rfl⟩
     rw [hb0] at h2 hb
     have g2 : ((b0 : Int) != 34) = true:=by simp; omega
     clear h2 hb0
     go_enter Tryz.func117,Tryz.ntmps117
     go_wp2_with fail
     go_ret2
     exact ⟨by rw [HV.out]; rfl,rfl⟩
 · have HV:=Lib.hid (show namedV s = .tuple #[.string ⟨#[]⟩,.bool false] by unfold namedV namedB; simp [h1])
   have g1 : decide ((s.size : Int) < 2) = true:=by simp; omega
   go_enter Tryz.func117,Tryz.ntmps117
   go_wp2_with fail
   go_ret2
   exact ⟨by rw [HV.out]; rfl,rfl⟩
def numB (s : ByteArray) : Bool:=match Lib.parseIntB 64 s.data.toList with | .ok v => decide (Lib.itoa v = s.data.toList) | _ => false
def numI (s : ByteArray) : Int:=match Lib.parseIntB 64 s.data.toList with | .ok v => v | .range => Lib.intSat 64 s.data.toList | _ => 0
theorem parse_bounds {l : List UInt8} {v : Int} (h : Lib.parseIntB 64 l = .ok v) : -9223372036854775808 ≤ v ∧ v ≤ 9223372036854775807:=by
 unfold Lib.parseIntB at h
 split at h
 · cases h
 · simp only at h
   split at h
   · cases h
   · cases h
   · rename_i u hu
     split at h
     · cases h
     · split at h
       · cases h
       · rename_i h1 h2
         cases h
         have e : 2 ^ (64 - 1) = 9223372036854775808:=by decide
         rw [e] at h1 h2
         split <;> omega
theorem below_grow (w : World) (k : Nat) (os : Array Obj) : Below w.heap.size w (Go.Sort.grow (w.drewN k) os):=by
 refine ⟨rfl,rfl,rfl,by simp [Go.Sort.grow],fun i hi => ?_⟩
 have e : (w.drewN k).heap = w.heap:=rfl
 simp only [Go.Sort.grow]
 rw [e,Array.getElem?_append_left hi]
set_option maxRecDepth 100000 in
set_option maxHeartbeats 1000000 in
theorem number_any (s : ByteArray) (w : World) (hs : s.size ≤ 1048576) (hT : Tabs w) : Calls Tryz.prog 119 #[.string s] w fun e w' => e = .returned (.tuple #[.int .i64 (numI s),.bool (numB s)]) ∧ Below w.heap.size w w':=by
 have HT:=Lib.hid hT; clear hT
 cases hp : Lib.parseIntB 64 s.data.toList
 · rename_i v
   have hv:=parse_bounds hp
   have KP:=Lib.hid (Tryz.strconv_ParseInt_10_at64_ok s (by omega) v hp w)
   have KF:=Lib.hid (fun w (h : Tabs w) => Tryz.strconv_FormatInt_10 v hv.1 hv.2 w h.pow)
   have e1 : numI s = v:=by unfold numI; rw [hp]
   have e2 : numB s = decide (Lib.itoa v = s.data.toList):=by unfold numB; rw [hp]
   rw [e1,e2]
   clear hv e1 e2 hp
   go_enter Tryz.func119,Tryz.ntmps119
   go_wp2_with fail
   refine KP.out.mono ?_
   rintro e w1 ⟨rfl,hw1⟩
   have hb1 : Below w.heap.size w w1:=by
     rcases hw1 with rfl | ⟨t,rfl⟩
     · exact Below.refl _ _
     · exact Lib.bytesWorld_below _ _ _
   have HB1:=Lib.hid hb1
   clear hw1 hb1
   go_wp2_with fail
   refine (KF.out _ (HT.out.below HB1.out)).mono ?_
   rintro e w2 ⟨rfl,k,os,hw2⟩
   have HB2:=Lib.hid (HB1.out.then (hw2 ▸ below_grow w1 k os : Below w1.heap.size w1 w2))
   clear hw2
   by_cases hq : Lib.itoa v = s.data.toList
   · have g1 : (Lib.itoa v == s.toList) = true:=by
       rw [beq_iff_eq,ByteArray.toList_eq]; exact hq
     have HD:=Lib.hid (decide_eq_true hq)
     clear hq
     go_wp2_with fail
     go_ret2
     exact ⟨by rw [HD.out]; rfl,HB2.out⟩
   · have g1 : (Lib.itoa v == s.toList) = false:=by
       rw [beq_eq_false_iff_ne,ByteArray.toList_eq]; exact hq
     have HD:=Lib.hid (decide_eq_false hq)
     clear hq
     go_wp2_with fail
     go_ret2
     exact ⟨by rw [HD.out]; rfl,HB2.out⟩
 · obtain ⟨te,pe,hes⟩:=HT.out.es
   have KP:=Lib.hid (Any.strconv_ParseInt_10_at64_syntax Tryz.laysC174 s (by omega) hp _ w hes (.inr ⟨te,pe,rfl⟩))
   have e1 : numI s = 0:=by unfold numI; rw [hp]
   have e2 : numB s = false:=by unfold numB; rw [hp]
   rw [e1,e2]
   clear e1 e2 hp hes
   go_enter Tryz.func119,Tryz.ntmps119
   go_wp2_with fail
   refine KP.out.mono ?_
   rintro e w1 ⟨N,rfl,_,_,hb1⟩
   have HB1:=Lib.hid hb1
   clear hb1
   go_wp2_with fail
   go_ret2
   exact ⟨rfl,HB1.out⟩
 · obtain ⟨te,pe,hes⟩:=HT.out.er
   have KP:=Lib.hid (Tryz.strconv_ParseInt_10_at64_range s (by omega) hp _ w hes (.inr ⟨te,pe,rfl⟩))
   have e1 : numI s = Lib.intSat 64 s.data.toList:=by unfold numI; rw [hp]
   have e2 : numB s = false:=by unfold numB; rw [hp]
   rw [e1,e2]
   clear e1 e2 hp hes
   go_enter Tryz.func119,Tryz.ntmps119
   go_wp2_with fail
   refine KP.out.mono ?_
   rintro e w1 ⟨N,rfl,_,_,hb1⟩
   have HB1:=Lib.hid hb1
   clear hb1
   go_wp2_with fail
   go_ret2
   exact ⟨rfl,HB1.out⟩
end Go.Proofs.YtejaocnhekjfiaaGreatDoor.S25
namespace Go.Proofs.YtejaocnhekjfiaaGreatDoor.S25
open Go.RowKit
set_option linter.unusedVariables false
def hexI (c : Int) : Int:=Lib.indexByte [48,49,50,51,52,53,54,55,56,57,97,98,99,100,101,102] c.toNat.toUInt8
theorem hexI_ge (c : Int) : -1 ≤ hexI c ∧ hexI c ≤ 15:=by
 unfold hexI
 refine ⟨Lib.indexByte_ge _ _,?_⟩
 rcases Int.lt_or_le (Lib.indexByte [48,49,50,51,52,53,54,55,56,57,97,98,99,100,101,102] c.toNat.toUInt8) 0 with h | h
 · omega
 · obtain ⟨i,hi⟩:=Int.eq_ofNat_of_zero_le h
   have h1:=(Lib.indexByte_some hi).1
   have hlt:=(List.getElem?_eq_some_iff.1 h1).1
   simp at hlt
   omega
theorem hex_q (c : Int) (W : World) (n : Nat) : Calls Tryz.prog 69 #[.string ⟨#[48,49,50,51,52,53,54,55,56,57,97,98,99,100,101,102]⟩,.int .u8 c] (W.drewN n) fun e w' => e = .returned (.int .i64 (hexI c)) ∧ ∃ m,w' = W.drewN m:=
 (ib_any _ c (W.drewN n)).mono fun _ _ h => ⟨h.1,n,h.2.symm⟩
attribute [irreducible] hexI
def hexAt (s : ByteArray) (i : Nat) : Option (List Nat):=
  if i + 1 < s.size then
    (if hexI (bAt s i : Int) < 0 ∨ hexI (bAt s (i + 1) : Int) < 0 then none
     else (hexAt s (i + 2)).map fun l => ((hexI (bAt s i : Int)).toNat * 16 + (hexI (bAt s (i + 1) : Int)).toNat) :: l)
  else some []
termination_by s.size - i
def hexL (s : ByteArray) : List Nat:=(hexAt s 0).getD []
def hexB (s : ByteArray) : Bool:=(hexAt s 0).isSome && decide (0 < s.size) && decide (s.size % 2 = 0)
def u8v (n : Nat) : Value:=.int .u8 n
theorem info5 : (Tryz.prog.info? 5).map (fun i => (i.zero,i.size,i.bytes)) = some (some (.int .u8 0),1,1):=by kernel_rfl
def HexPost (s : ByteArray) (w : World) (e : Ending) (w' : World) : Prop:=
 ∃ a c,e = .returned (.tuple #[.slice a (hexL s).length c,.bool (hexB s)]) ∧ Row w' a (hexL s).length ((hexL s).map u8v) ∧ Below w.heap.size w w'
def RelH (s : ByteArray) (w : World) (u4 u5 : Value) (wr : World) : Prop:=
 ∃ (i m : Nat) (xs : List Nat),i ≤ s.size + 1 ∧ i % 2 = 0 ∧ u5 = .int .i64 i ∧ m ≤ i ∧ Hid (wr.ownsRow w.heap.size 5 1 u4 m (xs.map u8v)) ∧ xs.length = m ∧
   Hid ((hexAt s i).map (fun l => xs ++ l) = hexAt s 0) ∧ Hid (Below w.heap.size w wr)
theorem below_drewN {B : Nat} {w w' : World} (h : Below B w w') (n : Nat) : Below B w (w'.drewN n):=⟨h.os,h.tape,h.output,h.size,h.block⟩
theorem or_hex {x y : Int} (h1 : 0 ≤ x) (h2 : x ≤ 15) (h3 : 0 ≤ y) (h4 : y ≤ 15) : bits BinOp.or IntKind.i64 (x * 16) y = x * 16 + y:=
 bits_join .i64 63 (by decide) (fun n a b => IntWalk.i64_in n ⟨by omega,by omega⟩) 4 _ _ (by omega) (by omega) (by omega) (by omega) (by omega) (by omega)
set_option maxRecDepth 100000 in
set_option maxHeartbeats 2000000 in
theorem bytes_any (s : ByteArray) (w : World) (hs : s.size ≤ 1048576) : Calls Tryz.prog 74 #[.string s] w (HexPost s w):=by
 obtain ⟨i0,hi0,hz0,hz1,hz2⟩:=info_parts info5
 go_enter Tryz.func74,Tryz.ntmps74
 go_wp2
 go_loopw [4,5] (fun u4 u5 wr => RelH s w u4 u5 wr) (fun _ u5 _ => s.size + 2 - (intOf u5).toNat)
 case atStart => exact ⟨0,0,[],by omega,by omega,rfl,by omega,Lib.hid (World.ownsRow_nil _ _ _ _),rfl,Lib.hid (by cases hexAt s 0 <;> simp),Lib.hid (Below.refl _ _)⟩
 case round =>
   obtain ⟨i,m,xs,hp,hp2,rfl,hm,HO,hxl,HCV,HBR⟩:=hrel
   have HX:=Lib.hid hxl; clear hxl
   have HP2:=Lib.hid hp2; clear hp2
   obtain ⟨a4,k4,rfl,hr4⟩:=Row.own HO.out
   have HR4:=Lib.hid hr4; clear hr4
   by_cases hlt : i + 1 < s.size
   · have hb0:=bAt_get s i (by omega)
     have hb1:=bAt_get s (i + 1) hlt
     have q0 : (0 : Int) ≤ (i : Int):=by omega
     have q1 : (i : Int) < (s.size : Int):=by omega
     have q2 : (0 : Int) ≤ (i : Int) + 1:=by omega
     have q3 : (i : Int) + 1 < (s.size : Int):=by omega
     have q4 : IntKind.i64.wrap ((i : Int) + 1) = (i : Int) + 1:=by rw [IntKind.wrap_i64]; omega
     have q5 : ((i : Int) + 1).toNat = i + 1:=by omega
     obtain ⟨g0,g1⟩:=hexI_ge (bAt s i : Int)
     obtain ⟨g2,g3⟩:=hexI_ge (bAt s (i + 1) : Int)
     have HST:=Lib.hid (show hexAt s i = (if hexI (bAt s i : Int) < 0 ∨ hexI (bAt s (i + 1) : Int) < 0 then none
    else (hexAt s (i + 2)).map fun l => ((hexI (bAt s i : Int)).toNat * 16 + (hexI (bAt s (i + 1) : Int)).toNat) :: l) by conv => lhs; rw [hexAt,if_pos hlt])
     have KQ:=Lib.hid hex_q
     obtain ⟨b0,hbb0⟩ : ∃ b0,bAt s i = b0:=⟨_,rfl⟩
     obtain ⟨b1,hbb1⟩ : ∃ b1,bAt s (i + 1) = b1:=⟨_,rfl⟩
     rw [hbb0,hbb1] at HST
     rw [hbb0] at hb0 g0 g1
     rw [hbb1] at hb1 g2 g3
     clear hbb0 hbb1
     obtain ⟨x,hx⟩ : ∃ x,hexI (b0 : Int) = x:=⟨_,rfl⟩
     obtain ⟨y,hy⟩ : ∃ y,hexI (b1 : Int) = y:=⟨_,rfl⟩
     rw [hx,hy] at HST
     rw [hx] at g0 g1
     rw [hy] at g2 g3
     go_wp2_with fail
     go_quiet (exact KQ.out _ _ _)
     rw [hx,hy]
     have HBD:=Lib.hid (below_drewN HBR.out nq)
     have HOD:=Lib.hid (show (wr.drewN nq).ownsRow w.heap.size 5 1 (.slice a4 m k4) m (xs.map u8v) from HO.out)
     clear hx hy KQ hb0 hb1
     generalize wr.drewN nq = wq at *
     by_cases hx0 : x < 0
     · have HN:=Lib.hid (show hexAt s 0 = none by rw [← HCV.out,HST.out,if_pos (.inl hx0)]; rfl)
       have g : decide (x < 0) = true:=by simpa using hx0
       clear hx0
       go_wp2_with fail
       go_ret2
       refine ⟨none,0,?_,?_,HBD.out⟩
       · unfold hexL hexB; rw [HN.out]; rfl
       · unfold hexL; rw [HN.out]; exact Row.nil _ _
     · have gx : decide (x < 0) = false:=by simpa using hx0
       by_cases hy0 : y < 0
       · have HN:=Lib.hid (show hexAt s 0 = none by rw [← HCV.out,HST.out,if_pos (.inr hy0)]; rfl)
         have g : decide (y < 0) = true:=by simpa using hy0
         clear hx0 hy0
         go_wp2_with fail
         go_ret2
         refine ⟨none,0,?_,?_,HBD.out⟩
         · unfold hexL hexB; rw [HN.out]; rfl
         · unfold hexL; rw [HN.out]; exact Row.nil _ _
       · have gy : decide (y < 0) = false:=by simpa using hy0
         have x0 : 0 ≤ x:=by omega
         have y0 : 0 ≤ y:=by omega
         have hor:=or_hex x0 g1 y0 g3
         have hsh : IntKind.i64.wrap (x * 16) = x * 16:=by rw [IntKind.wrap_i64]; omega
         have hw8 : IntKind.u8.wrap (x * 16 + y) = x * 16 + y:=by rw [IntKind.wrap_u8]; omega
         obtain ⟨z,hz⟩ : ∃ z : Nat,x.toNat * 16 + y.toNat = z:=⟨_,rfl⟩
         have hzi : x * 16 + y = (z : Int):=by omega
         have HSTEP:=Lib.hid (show (hexAt s (i + 2)).map (fun l => (xs ++ [z]) ++ l) = hexAt s 0 by
           rw [← HCV.out,HST.out,if_neg (by omega),hz,Option.map_map]
           congr 1
           funext l
           simp)
         have HBS:=Lib.hid (show w.heap.size ≤ wq.heap.size from HBD.out.size)
         have hm4 : m + 1 ≤ maxLen:=by unfold maxLen; omega
         have hn4 : (m + 1) * 1 ≤ 140737488355328:=by omega
         have HZ:=Lib.hid hz
         clear hx0 hy0 hz
         go_wp2_with (at_builtin; refine wpList_append_own _ rfl (.tmp 30) (.tmp 36) 92 rfl w.heap.size 5 i0 _ 1 1 Tryz.underlying92 hi0 hz0 hz1 hz2 rfl (by decide) _ _ _ rfl (HOD.out.alloc _) ⟨wq.heap.size,0,none⟩ 1 1 [u8v z] rfl rfl (news_one wq (u8v z) 5) (one_int .u8 z) hm4 hn4 (le_alloc HBS.out _) ?_; intro v1 w1 hown' hg' _; have HB1:=Lib.hid ((HBD.out.alloc HBS.out _).grown hg' (le_alloc HBS.out _) (fun k hk => (HOD.out.lt k hk).1)); obtain ⟨a1,c1,hv',_⟩:=Row.own hown'; subst hv'; have HO1:=Lib.hid (show w1.ownsRow w.heap.size 5 1 (.slice a1 (m + 1) c1) (m + 1) ((xs ++ [z]).map u8v) from by rw [List.map_append]; exact hown'); clear hown' hg')
         go_roundw
         case rel => exact ⟨i + 2,m + 1,xs ++ [z],by omega,by have:=HP2.out; omega,by go_num,by omega,HO1,by simp; exact HX.out,HSTEP,HB1⟩
         case measure => simp [intOf]; omega
   · have hfin : hexAt s 0 = some xs:=by rw [← HCV.out,hexAt,if_neg hlt]; simp
     have HF:=Lib.hid hfin
     clear hfin
     have g : decide ((i : Int) + 1 < (s.size : Int)) = false:=by simp; omega
     have hlen : (hexL s).length = m:=by unfold hexL; rw [HF.out]; exact HX.out
     have hrow : (hexL s) = xs:=by unfold hexL; rw [HF.out]; rfl
     have HL:=Lib.hid hlen
     have HRW:=Lib.hid hrow
     clear hlen hrow
     by_cases h0 : 0 < s.size
     · have g0 : decide (0 < (s.size : Int)) = true:=by rw [decide_eq_true_eq]; omega
       have g00 : decide (0 < s.size) = true:=by rw [decide_eq_true_eq]; omega
       by_cases h2 : s.size % 2 = 0
       · have HBV:=Lib.hid (show hexB s = true by unfold hexB; rw [HF.out]; simp [h0,h2])
         have g2 : (s.size : Int) % 2 = 0:=by omega
         clear h0 h2
         go_wp2_with fail
         go_ret2
         refine ⟨a4,k4,?_,?_,HBR.out⟩
         · rw [HL.out,HBV.out]; rfl
         · rw [HL.out,HRW.out]; exact HR4.out
       · have HBV:=Lib.hid (show hexB s = false by unfold hexB; simp [h2])
         have g2 : (s.size : Int) % 2 = 1:=by omega
         clear h0 h2
         go_wp2_with fail
         go_ret2
         refine ⟨a4,k4,?_,?_,HBR.out⟩
         · rw [HL.out,HBV.out]; rfl
         · rw [HL.out,HRW.out]; exact HR4.out
     · have HBV:=Lib.hid (show hexB s = false by unfold hexB; simp [h0])
       have g0 : decide (0 < (s.size : Int)) = false:=by rw [decide_eq_false_iff_not]; omega
       have g00 : decide (0 < s.size) = false:=by rw [decide_eq_false_iff_not]; omega
       clear h0
       go_wp2_with fail
       go_ret2
       refine ⟨a4,k4,?_,?_,HBR.out⟩
       · rw [HL.out,HBV.out]; rfl
       · rw [HL.out,HRW.out]; exact HR4.out
end Go.Proofs.YtejaocnhekjfiaaGreatDoor.S25
namespace Go.Proofs.YtejaocnhekjfiaaGreatDoor.S25
open Go.RowKit
set_option linter.unusedVariables false
structure Turn (b : Nat) (w w' : World) : Prop where
 os : w'.os = w.os
 tape : w'.tape = w.tape
 output : w'.output = w.output
 size : w.heap.size ≤ w'.heap.size
 block : ∀ k,k < w.heap.size → k ≠ b → w'.heap[k]? = w.heap[k]?
theorem Turn.refl (b : Nat) (w : World) : Turn b w w:=⟨rfl,rfl,rfl,Nat.le_refl _,fun _ _ _ => rfl⟩
theorem Turn.trans {b : Nat} {u w w' : World} (h : Turn b u w) (k : Turn b w w') : Turn b u w':=
 ⟨k.os.trans h.os,k.tape.trans h.tape,k.output.trans h.output,Nat.le_trans h.size k.size,fun i hi hb => (k.block i (Nat.lt_of_lt_of_le hi h.size) hb).trans (h.block i hi hb)⟩
theorem Turn.of_below {b : Nat} {w w' : World} (h : Below w.heap.size w w') : Turn b w w':=⟨h.os,h.tape,h.output,h.size,fun k hk _ => h.block k hk⟩
theorem Turn.of_only {b : Nat} {w w' : World} (h : Only b w w') : Turn b w w':=⟨h.os,h.tape,h.output,Nat.le_of_eq h.size.symm,fun k _ hb => h.block k hb⟩
theorem Turn.drewN {b : Nat} {w w' : World} (h : Turn b w w') (n : Nat) : Turn b w (w'.drewN n):=⟨h.os,h.tape,h.output,h.size,h.block⟩
theorem Turn.below {b B : Nat} {w w' : World} (h : Turn b w w') (hb : B ≤ b) (hs : B ≤ w.heap.size) : Below B w w':=⟨h.os,h.tape,h.output,h.size,fun k hk => h.block k (by omega) (by omega)⟩
theorem Tabs.turn {b : Nat} {w w' : World} (h : Tabs w) (ht : Turn b w w') (hb : 10 ≤ b) : Tabs w':=by
 have hl:=h.low
 have hbl : ∀ k,k < 10 → w'.heap[k]? = w.heap[k]?:=fun k hk => ht.block k (by omega) (by omega)
 have hc : ∀ b o,b < 10 → w'.cell? ⟨b,o,none⟩ = w.cell? ⟨b,o,none⟩:=fun b o hb2 => World.cell?_of_block (hbl b hb2)
 refine ⟨⟨fun c h2 => ?_,fun i h2 => ?_⟩,?_,?_,?_,Nat.le_trans h.low ht.size⟩
 · rw [hc 2 _ (by omega)]; exact h.u8.1 c h2
 · rw [hc 3 _ (by omega),hc 3 _ (by omega)]; exact h.u8.2 i h2
 · have:=h.pow
   unfold Lib.TabIs World.var? at *
   rw [gPow] at *
   simp only [Option.bind_some] at *
   rw [hbl 4 (by omega)]
   exact this
 · rw [hc 8 _ (by omega)]; exact h.es
 · rw [hc 9 _ (by omega)]; exact h.er
structure RS (w : World) (R : Nat) (g c : Nat) (L : List (ByteArray × Nat)) (at_ : Nat) (bad : Int) (fin : Nat) : Prop where
 blk : w.heap[R]? = some (.cells #[.slice (some ⟨g,0,none⟩) L.length c,.int .i64 at_,.int .i64 bad,.int .i64 fin] 104 (0,0))
 row : WRow w (some ⟨g,0,none⟩) L.length L
 ne : g ≠ R
 glt : g < w.heap.size
 tabs : Tabs w
 low : 10 ≤ R
 len : L.length ≤ 1048576
 fin : fin ≤ 1048576
 lo : -1 ≤ bad
 hi : bad ≤ 1048576
 att : at_ ≤ 1048580
 ws : ∀ p ∈ L,p.1.size ≤ 1048576 ∧ p.2 ≤ 1048576
theorem WRow.turn {w w' : World} {b g n : Nat} {l : List (ByteArray × Nat)} (h : WRow w (some ⟨g,0,none⟩) n l) (ht : Turn b w w') (hne : g ≠ b) : WRow w' (some ⟨g,0,none⟩) n l:=by
 refine ⟨h.1,h.2.imp id ?_⟩
 rintro ⟨g',rest,e,hh⟩
 cases e
 exact ⟨g,rest,rfl,(ht.block g (lt_of_block hh) hne).trans hh⟩
theorem RS.turn {w w' : World} {R g c L at_ bad fin} (h : RS w R g c L at_ bad fin) (ht : Turn R w w') {at' : Nat} {bad' : Int} (hb : w'.heap[R]? = some (.cells #[.slice (some ⟨g,0,none⟩) L.length c,.int .i64 at',.int .i64 bad',.int .i64 fin] 104 (0,0)))
   (l1 : -1 ≤ bad') (l2 : bad' ≤ 1048576) (l3 : at' ≤ 1048580) : RS w' R g c L at' bad' fin:=
 ⟨hb,h.row.turn ht h.ne,h.ne,Nat.lt_of_lt_of_le h.glt ht.size,h.tabs.turn ht h.low,h.low,h.len,h.fin,l1,l2,l3,h.ws⟩
theorem RS.below {w w' : World} {R g c L at_ bad fin} (h : RS w R g c L at_ bad fin) (hb : Below w.heap.size w w') : RS w' R g c L at_ bad fin:=
 h.turn (Turn.of_below hb) ((hb.block R (lt_of_block h.blk)).trans h.blk) h.lo h.hi h.att
theorem RS.c0 {w R g c L at_ bad fin} (h : RS w R g c L at_ bad fin) : w.cell? ⟨R,0,none⟩ = some (.slice (some ⟨g,0,none⟩) L.length c):=(cell_of_row _ _ _ _ _ _ h.blk).trans rfl
theorem RS.c1 {w R g c L at_ bad fin} (h : RS w R g c L at_ bad fin) : w.cell? ⟨R,1,none⟩ = some (.int .i64 at_):=(cell_of_row _ _ _ _ _ _ h.blk).trans rfl
theorem RS.c2 {w R g c L at_ bad fin} (h : RS w R g c L at_ bad fin) : w.cell? ⟨R,2,none⟩ = some (.int .i64 bad):=(cell_of_row _ _ _ _ _ _ h.blk).trans rfl
theorem RS.c3 {w R g c L at_ bad fin} (h : RS w R g c L at_ bad fin) : w.cell? ⟨R,3,none⟩ = some (.int .i64 fin):=(cell_of_row _ _ _ _ _ _ h.blk).trans rfl
theorem RS.f {w R g c L at_ bad fin} (h : RS w R g c L at_ bad fin) (i : Nat) : w.frozen? ⟨R,i,none⟩ = false:=frozen_of_row _ _ _ _ _ h.blk
theorem RS.set1 {w R g c L at_ bad fin} (h : RS w R g c L at_ bad fin) (x : Nat) (hx : x ≤ 1048580) : RS (w.setCell ⟨R,1,none⟩ (.int .i64 x)) R g c L x bad fin:=
 h.turn (Turn.of_only (Only.store w R 1 _)) (by rw [heap_setCell_same _ _ _ _ _ _ h.blk]; rfl) h.lo h.hi hx
theorem RS.set2 {w R g c L at_ bad fin} (h : RS w R g c L at_ bad fin) (x : Int) (h1 : -1 ≤ x) (h2 : x ≤ 1048576) : RS (w.setCell ⟨R,2,none⟩ (.int .i64 x)) R g c L at_ x fin:=
 h.turn (Turn.of_only (Only.store w R 2 _)) (by rw [heap_setCell_same _ _ _ _ _ _ h.blk]; rfl) h1 h2 h.att
theorem RS.drewN {w R g c L at_ bad fin} (h : RS w R g c L at_ bad fin) (n : Nat) : RS (w.drewN n) R g c L at_ bad fin:=
 h.turn ((Turn.refl R w).drewN n) h.blk h.lo h.hi h.att
def badOf (L : List (ByteArray × Nat)) (at_ : Nat) (bad : Int) (fin : Nat) : Int:=if 0 ≤ bad then bad else match L[at_]? with | some p => p.2 | none => fin
def RPost (v : Value) (w : World) (R g c : Nat) (L : List (ByteArray × Nat)) (at_ : Nat) (bad : Int) (fin : Nat) (e : Ending) (w' : World) : Prop:=
 e = .returned v ∧ Turn R w w' ∧ RS w' R g c L at_ bad fin
set_option maxRecDepth 100000 in
set_option maxHeartbeats 1000000 in
theorem fail_any {w : World} {R g c : Nat} {L : List (ByteArray × Nat)} {at_ : Nat} {bad : Int} {fin : Nat} (h : RS w R g c L at_ bad fin) :
   Calls Tryz.prog 47 #[.pointer (some ⟨R,0,none⟩)] w (RPost (.tuple #[]) w R g c L at_ (badOf L at_ bad fin) fin):=by
 have c0:=h.c0
 have c1:=h.c1
 have c2:=h.c2
 have c3:=h.c3
 have f2:=h.f 2
 have hfin:=h.fin
 have hlen:=h.len
 have hatt:=h.att
 by_cases hb : 0 ≤ bad
 · have HB:=Lib.hid (show badOf L at_ bad fin = bad by unfold badOf; rw [if_pos hb])
   have g0 : decide (0 ≤ bad) = true:=by simpa using hb
   have HS:=Lib.hid h; clear h hb
   go_enter Tryz.func47,Tryz.ntmps47
   go_wp2_with fail
   go_end0
   exact ⟨rfl,Turn.refl _ _,by rw [HB.out]; exact HS.out⟩
 · have g0 : decide (0 ≤ bad) = false:=by simpa using hb
   by_cases ha : at_ < L.length
   · obtain ⟨⟨p1,p2⟩,hp⟩ : ∃ p,L[at_]? = some p:=⟨L[at_],List.getElem?_eq_getElem ha⟩
     have HB:=Lib.hid (show badOf L at_ bad fin = (p2 : Int) by unfold badOf; rw [if_neg hb,hp])
     obtain ⟨g',e',_,d1,d2⟩:=h.row.cells hp
     simp only [Option.some.injEq,Addr.mk.injEq,and_true] at e'
     subst e'
     simp only at d1 d2
     have hne:=h.ne
     have hws:=h.ws _ (List.mem_of_getElem? hp)
     have ha2 : (at_ : Int) < (L.length : Int):=by omega
     have ha3 : (0 : Int) ≤ (at_ : Int):=by omega
     have hp2:=hws.2
     simp only at hp2
     have H2:=Lib.hid ((h.set2 (fin : Int) (by omega) (by omega)))
     have HS:=Lib.hid h; clear h hb hp hws
     generalize L.length = n at *
     go_enter Tryz.func47,Tryz.ntmps47
     go_wp2_with fail
     go_quiet (fail)
     go_wp2_with fail
     go_region
     go_end0
     exact ⟨rfl,((Turn.of_only (Only.store w R 2 _)).drewN _).trans (Turn.of_only (Only.store _ R 2 _)),by rw [HB.out]; exact (H2.out.drewN _).set2 _ (by omega) (by omega)⟩
   · have HB:=Lib.hid (show badOf L at_ bad fin = (fin : Int) by unfold badOf; rw [if_neg hb,List.getElem?_eq_none (by omega)])
     have H2:=Lib.hid ((h.set2 (fin : Int) (by omega) (by omega)))
     have g1 : decide (at_ < L.length) = false:=by simpa using ha
     have HS:=Lib.hid h; clear h hb ha
     generalize L.length = n at *
     go_enter Tryz.func47,Tryz.ntmps47
     go_wp2_with fail
     go_quiet (fail)
     go_wp2_with fail
     go_end0
     exact ⟨rfl,(Turn.of_only (Only.store w R 2 _)).drewN _,by rw [HB.out]; exact H2.out.drewN _⟩
def nextS (L : List (ByteArray × Nat)) (at_ : Nat) (bad : Int) : ByteArray:=if 0 ≤ bad then ⟨#[]⟩ else match L[at_]? with | some p => p.1 | none => ⟨#[]⟩
def nextB (L : List (ByteArray × Nat)) (at_ : Nat) (bad : Int) (fin : Nat) : Int:=if 0 ≤ bad then bad else match L[at_]? with | some p => bad | none => fin
set_option maxRecDepth 100000 in
set_option maxHeartbeats 1000000 in
theorem next_any {w : World} {R g c : Nat} {L : List (ByteArray × Nat)} {at_ : Nat} {bad : Int} {fin : Nat} (h : RS w R g c L at_ bad fin) :
   Calls Tryz.prog 70 #[.pointer (some ⟨R,0,none⟩)] w (RPost (.string (nextS L at_ bad)) w R g c L at_ (nextB L at_ bad fin) fin):=by
 have c0:=h.c0
 have c1:=h.c1
 have c2:=h.c2
 have hlen:=h.len
 have hatt:=h.att
 have KF:=Lib.hid (fun n => fail_any (h.drewN n))
 by_cases hb : 0 ≤ bad
 · have HV:=Lib.hid (show nextS L at_ bad = ⟨#[]⟩ ∧ nextB L at_ bad fin = badOf L at_ bad fin by unfold nextS nextB badOf; simp [hb])
   have g0 : decide (0 ≤ bad) = true:=by simpa using hb
   have HS:=Lib.hid h; clear h hb
   go_enter Tryz.func70,Tryz.ntmps70
   go_wp2_with fail
   go_quiet (fail)
   go_wp2_with fail
   refine (KF.out _).mono ?_
   rintro e w1 ⟨rfl,ht,hrs⟩
   have HT:=Lib.hid ht
   have HR:=Lib.hid hrs
   clear ht hrs
   go_wp2_with fail
   go_ret
   exact ⟨by rw [HV.out.1]; rfl,((Turn.refl R w).drewN _).trans HT.out,by rw [HV.out.2]; exact HR.out⟩
 · have g0 : decide (0 ≤ bad) = false:=by simpa using hb
   by_cases ha : at_ < L.length
   · obtain ⟨⟨p1,p2⟩,hp⟩ : ∃ p,L[at_]? = some p:=⟨L[at_],List.getElem?_eq_getElem ha⟩
     have HV:=Lib.hid (show nextS L at_ bad = p1 ∧ nextB L at_ bad fin = bad by unfold nextS nextB; simp [hb,hp])
     obtain ⟨g',e',_,d1,d2⟩:=h.row.cells hp
     simp only [Option.some.injEq,Addr.mk.injEq,and_true] at e'
     subst e'
     simp only at d1 d2
     have ha2 : (at_ : Int) < (L.length : Int):=by omega
     have ha3 : (0 : Int) ≤ (at_ : Int):=by omega
     have g1 : decide (L.length ≤ at_) = false:=by simpa using ha
     have HS:=Lib.hid h; clear h hb hp
     generalize L.length = n at *
     go_enter Tryz.func70,Tryz.ntmps70
     go_wp2_with fail
     go_quiet (fail)
     go_wp2_with fail
     go_quiet (fail)
     go_wp2_with fail
     go_ret
     exact ⟨by rw [HV.out.1]; rfl,((Turn.refl R w).drewN _).drewN _,by rw [HV.out.2]; exact (HS.out.drewN _).drewN _⟩
   · have HV:=Lib.hid (show nextS L at_ bad = ⟨#[]⟩ ∧ nextB L at_ bad fin = badOf L at_ bad fin by
       unfold nextS nextB badOf; rw [List.getElem?_eq_none (by omega)]; simp [hb])
     have g1 : decide (L.length ≤ at_) = true:=by simpa using ha
     have HS:=Lib.hid h; clear h hb ha
     generalize L.length = n at *
     go_enter Tryz.func70,Tryz.ntmps70
     go_wp2_with fail
     go_quiet (fail)
     go_wp2_with fail
     refine (KF.out _).mono ?_
     rintro e w1 ⟨rfl,ht,hrs⟩
     have HT:=Lib.hid ht
     have HR:=Lib.hid hrs
     clear ht hrs
     go_wp2_with fail
     go_ret
     exact ⟨by rw [HV.out.1]; rfl,((Turn.refl R w).drewN _).trans HT.out,by rw [HV.out.2]; exact HR.out⟩
theorem nextS_size {w R g c L at_ bad fin} (h : RS w R g c L at_ bad fin) : (nextS L at_ bad).size ≤ 1048576:=by
 unfold nextS
 split
 · exact Nat.zero_le _
 · split
   · rename_i p hp; exact (h.ws p (List.mem_of_getElem? hp)).1
   · exact Nat.zero_le _
def numA (L : List (ByteArray × Nat)) (at_ : Nat) (bad : Int) : Nat:=if numB (nextS L at_ bad) then at_ + 1 else at_
def numE (L : List (ByteArray × Nat)) (at_ : Nat) (bad : Int) (fin : Nat) : Int:=if numB (nextS L at_ bad) then nextB L at_ bad fin else badOf L at_ (nextB L at_ bad fin) fin
def numR (L : List (ByteArray × Nat)) (at_ : Nat) (bad : Int) : Int:=if numB (nextS L at_ bad) then numI (nextS L at_ bad) else 0
set_option maxRecDepth 100000 in
set_option maxHeartbeats 1000000 in
theorem num_any {w : World} {R g c : Nat} {L : List (ByteArray × Nat)} {at_ : Nat} {bad : Int} {fin : Nat} (h : RS w R g c L at_ bad fin) (ha : at_ ≤ 1048579) :
   Calls Tryz.prog 73 #[.pointer (some ⟨R,0,none⟩)] w (RPost (.int .i64 (numR L at_ bad)) w R g c L (numA L at_ bad) (numE L at_ bad fin) fin):=by
 have KN:=Lib.hid (next_any h)
 have KB:=Lib.hid (fun w hT => number_any (nextS L at_ bad) w (nextS_size h) hT)
 cases hn : numB (nextS L at_ bad) with
 | true =>
   have HV:=Lib.hid (show numA L at_ bad = at_ + 1 ∧ numE L at_ bad fin = nextB L at_ bad fin ∧ numR L at_ bad = numI (nextS L at_ bad) by unfold numA numE numR; simp [hn])
   rw [hn] at KB
   clear hn h
   generalize nextB L at_ bad fin = nb at *
   generalize numI (nextS L at_ bad) = ni at *
   generalize nextS L at_ bad = ns at *
   go_enter Tryz.func73,Tryz.ntmps73
   go_wp2_with fail
   refine KN.out.mono ?_
   rintro e w1 ⟨rfl,ht1,hr1⟩
   have HT1:=Lib.hid ht1
   have HR1:=Lib.hid hr1
   clear ht1 hr1
   go_wp2_with fail
   refine (KB.out _ HR1.out.tabs).mono ?_
   rintro e w2 ⟨rfl,hb2⟩
   have HR2:=Lib.hid (HR1.out.below hb2)
   have HT2:=Lib.hid (HT1.out.trans (Turn.of_below hb2))
   clear hb2 HR1 HT1
   have c1:=HR2.out.c1
   have f1:=HR2.out.f 1
   have H1:=Lib.hid (HR2.out.set1 (at_ + 1) (by omega))
   go_wp2_with fail
   go_ret
   exact ⟨by rw [HV.out.2.2]; rfl,HT2.out.trans (Turn.of_only (Only.store w2 R 1 _)),by rw [HV.out.1,HV.out.2.1]; exact H1.out⟩
 | false =>
   have HV:=Lib.hid (show numA L at_ bad = at_ ∧ numE L at_ bad fin = badOf L at_ (nextB L at_ bad fin) fin ∧ numR L at_ bad = 0 by unfold numA numE numR; simp [hn])
   rw [hn] at KB
   clear hn h
   generalize nextB L at_ bad fin = nb at *
   generalize numI (nextS L at_ bad) = ni at *
   generalize nextS L at_ bad = ns at *
   go_enter Tryz.func73,Tryz.ntmps73
   go_wp2_with fail
   refine KN.out.mono ?_
   rintro e w1 ⟨rfl,ht1,hr1⟩
   have HT1:=Lib.hid ht1
   have HR1:=Lib.hid hr1
   clear ht1 hr1
   go_wp2_with fail
   refine (KB.out _ HR1.out.tabs).mono ?_
   rintro e w2 ⟨rfl,hb2⟩
   have HR2:=Lib.hid (HR1.out.below hb2)
   have HT2:=Lib.hid (HT1.out.trans (Turn.of_below hb2))
   clear hb2 HR1 HT1
   have KF:=Lib.hid (fail_any HR2.out)
   go_wp2_with fail
   refine KF.out.mono ?_
   rintro e w3 ⟨rfl,ht3,hr3⟩
   have HT3:=Lib.hid ht3
   have HR3:=Lib.hid hr3
   clear ht3 hr3
   go_wp2_with fail
   go_ret
   exact ⟨by rw [HV.out.2.2]; rfl,HT2.out.trans HT3.out,by rw [HV.out.1,HV.out.2.1]; exact HR3.out⟩
end Go.Proofs.YtejaocnhekjfiaaGreatDoor.S25
namespace Go.Proofs.YtejaocnhekjfiaaGreatDoor.S25
open Go.RowKit
set_option linter.unusedVariables false
def runNums (L : List (ByteArray × Nat)) (fin : Nat) : Nat → Nat → Int → List Int × Nat × Int
 | 0,a,b => ([],a,b)
 | n + 1,a,b =>
   let r:=runNums L fin n a b
   (r.1 ++ [numR L r.2.1 r.2.2],numA L r.2.1 r.2.2,numE L r.2.1 r.2.2 fin)
theorem runNums_len (L : List (ByteArray × Nat)) (fin n a : Nat) (b : Int) : (runNums L fin n a b).1.length = n:=by
 induction n with
 | zero => rfl
 | succ n ih => simp [runNums,ih]
theorem numA_le (L : List (ByteArray × Nat)) (a : Nat) (b : Int) : numA L a b ≤ a + 1:=by unfold numA; split <;> omega
theorem runNums_le (L : List (ByteArray × Nat)) (fin n a : Nat) (b : Int) : (runNums L fin n a b).2.1 ≤ a + n:=by
 induction n with
 | zero => simp [runNums]
 | succ n ih =>
   simp only [runNums]
   have:=numA_le L (runNums L fin n a b).2.1 (runNums L fin n a b).2.2
   omega
def i64v (x : Int) : Value:=.int .i64 x
def fill (l : List Int) (n : Nat) : Array Value:=(l.map i64v ++ List.replicate (n - l.length) (i64v 0)).toArray
theorem fill_zero (n : Nat) : fill [] n = Array.replicate n (i64v 0):=by simp [fill]
theorem fill_all (l : List Int) : fill l l.length = (l.map i64v).toArray:=by simp [fill]
theorem fill_set (l : List Int) (n : Nat) (x : Int) (h : l.length < n) : (fill l n).setIfInBounds l.length (i64v x) = fill (l ++ [x]) n:=by
 obtain ⟨k,hk⟩ : ∃ k,n - l.length = k + 1:=⟨n - l.length - 1,by omega⟩
 unfold fill
 rw [hk,List.replicate_succ,List.setIfInBounds_toArray,List.set_append_right _ _ (by simp)]
 simp only [List.length_map,Nat.sub_self,List.set_cons_zero,List.map_append,List.length_append,List.length_singleton]
 rw [show n - (l.length + 1) = k by omega]
 simp
theorem fill_get (l : List Int) (n : Nat) (h : l.length < n) : (fill l n)[l.length]? = some (i64v 0):=by
 unfold fill
 rw [List.getElem?_toArray,List.getElem?_append_right (by simp),List.length_map,Nat.sub_self,List.getElem?_replicate,if_pos (by omega)]
theorem Turn.fresh {b : Nat} {w w' : World} (h : Turn b w w') {B : Nat} (hB : w.heap.size ≤ B) (i : Nat) (v : Value) : Turn b w (w'.setCell ⟨B,i,none⟩ v):=
 ⟨h.os,h.tape,h.output,by have:=h.size; simpa [World.setCell] using this,fun k hk hb => (heap_setCell_other _ _ _ _ (by simp only; omega)).trans (h.block k hk hb)⟩
theorem RS.other {w R g c L at_ bad fin} (h : RS w R g c L at_ bad fin) {B : Nat} (h1 : B ≠ R) (h2 : B ≠ g) (h3 : 10 ≤ B) (i : Nat) (v : Value) : RS (w.setCell ⟨B,i,none⟩ v) R g c L at_ bad fin:=by
 have ho : Turn B w (w.setCell ⟨B,i,none⟩ v):=Turn.of_only (Only.store w B i v)
 exact ⟨by rw [heap_setCell_other _ _ _ _ h1.symm]; exact h.blk,h.row.turn ho h2.symm,h.ne,Nat.lt_of_lt_of_le h.glt ho.size,h.tabs.turn ho h3,h.low,h.len,h.fin,h.lo,h.hi,h.att,h.ws⟩
def NPost (w : World) (R g c : Nat) (L : List (ByteArray × Nat)) (l : List Int) (n : Nat) (at_ : Nat) (bad : Int) (fin : Nat) (e : Ending) (w' : World) : Prop:=
 ∃ b,e = .returned (.slice (some ⟨b,0,none⟩) n n) ∧ w.heap.size ≤ b ∧ b ≠ R ∧ w'.heap[b]? = some (.cells (l.map i64v).toArray 2 (0,0)) ∧ Turn R w w' ∧ RS w' R g c L at_ bad fin
def RelN (w : World) (R g c : Nat) (L : List (ByteArray × Nat)) (n a0 : Nat) (b0 : Int) (fin B : Nat) (u11 : Value) (wr : World) : Prop:=
 ∃ k : Nat,k ≤ n ∧ u11 = .int .i64 k ∧ Hid (wr.heap[B]? = some (.cells (fill (runNums L fin k a0 b0).1 n) 2 (0,0))) ∧ Hid (Turn R w wr) ∧ Hid (RS wr R g c L (runNums L fin k a0 b0).2.1 (runNums L fin k a0 b0).2.2 fin)
set_option maxRecDepth 100000 in
set_option maxHeartbeats 1000000 in
theorem nums_any (n : Nat) (hn : n ≤ 5) (hmk : ∀ w,(Instr.makeSlice 125 (.int .i64 n) (.int .i64 n)).run Tryz.prog w = .ok (.slice (some ⟨w.heap.size,0,none⟩) n n) (w.alloc (.cells (Array.replicate n (i64v 0)) 2)))
   {w : World} {R g c : Nat} {L : List (ByteArray × Nat)} {at_ : Nat} {bad : Int} {fin : Nat} (h : RS w R g c L at_ bad fin) (ha : at_ ≤ 1048570) :
   Calls Tryz.prog 71 #[.pointer (some ⟨R,0,none⟩),.int .i64 n] w (NPost w R g c L (runNums L fin n at_ bad).1 n (runNums L fin n at_ bad).2.1 (runNums L fin n at_ bad).2.2 fin):=by
 have hR:=lt_of_block h.blk
 have hgB : w.heap.size ≠ g:=by have:=h.glt; omega
 have hB8 : 10 ≤ w.heap.size:=h.tabs.low
 have hba : Below w.heap.size w (w.alloc (.cells (Array.replicate n (i64v 0)) 2)):=(Below.refl _ _).alloc (Nat.le_refl _) _
 have H0:=Lib.hid (h.below hba)
 have T0:=Lib.hid (Turn.of_below (b:=R) hba)
 have hnew : (w.alloc (.cells (Array.replicate n (i64v 0)) 2)).heap[w.heap.size]? = some (.cells (fill [] n) 2 (0,0)):=by
   rw [fill_zero]; exact heap_alloc_new w _
 have N0:=Lib.hid hnew
 have hRB : w.heap.size ≠ R:=by omega
 clear h hnew hba
 go_enter Tryz.func71,Tryz.ntmps71
 go_wp2_with fail
 generalize w.alloc (.cells (Array.replicate n (i64v 0)) 2) = wa at *
 go_loopw [11] (fun u11 wr => RelN w R g c L n at_ bad fin w.heap.size u11 wr) (fun u11 _ => n - (intOf u11).toNat)
 case atStart => exact ⟨0,by omega,rfl,N0,T0,H0⟩
 case round =>
   obtain ⟨k,hk,rfl,HN,HT,HR⟩:=hrel
   clear N0 T0 H0
   by_cases hlt : k < n
   · have hle:=runNums_le L fin k at_ bad
     have KN:=Lib.hid (num_any HR.out (by omega))
     have HS:=Lib.hid (show runNums L fin (k + 1) at_ bad = ((runNums L fin k at_ bad).1 ++ [numR L (runNums L fin k at_ bad).2.1 (runNums L fin k at_ bad).2.2],numA L (runNums L fin k at_ bad).2.1 (runNums L fin k at_ bad).2.2,numE L (runNums L fin k at_ bad).2.1 (runNums L fin k at_ bad).2.2 fin) from rfl)
     have HL:=Lib.hid (runNums_len L fin k at_ bad)
     generalize hrn : runNums L fin k at_ bad = st at *
     clear hrn
     obtain ⟨l,a,b⟩:=st
     simp only at HS HL hle KN HN
     have hkn : (k : Int) < (n : Int):=by omega
     have hk0 : (0 : Int) ≤ (k : Int):=by omega
     go_wp2_with fail
     refine KN.out.mono ?_
     rintro e w2 ⟨rfl,ht2,hr2⟩
     have HB2:=(ht2.block w.heap.size (lt_of_block HN.out) hRB).trans HN.out
     have HT2:=Lib.hid (HT.out.trans ht2)
     have HR2:=Lib.hid hr2
     have cc : w2.cell? ⟨w.heap.size,k,none⟩ = some (i64v 0):=by
       have h1:=HL.out
       have h2:=fill_get l n (by omega)
       rw [h1] at h2
       exact (cell_of_row _ _ _ _ _ _ HB2).trans h2
     unfold i64v at cc
     have ff : w2.frozen? ⟨w.heap.size,k,none⟩ = false:=frozen_of_row _ _ _ _ _ HB2
     have hset:=heap_setCell_same w2 w.heap.size k _ _ (i64v (numR L a b)) HB2
     have h9 : (fill l n).setIfInBounds k (i64v (numR L a b)) = fill (l ++ [numR L a b]) n:=by
       have h1:=HL.out
       have h2:=fill_set l n (numR L a b) (by omega)
       rw [h1] at h2
       exact h2
     rw [h9] at hset
     have HN2:=Lib.hid hset
     have HR3:=Lib.hid (HR2.out.other hRB hgB hB8 k (i64v (numR L a b)))
     have HT3:=Lib.hid (HT2.out.fresh (Nat.le_refl _) k (i64v (numR L a b)))
     clear ht2 hr2 HB2 hset h9
     go_wp2_with fail
     go_roundw
     case rel => exact ⟨k + 1,by omega,by go_num,by rw [HS.out]; exact HN2,HT3,by rw [HS.out]; exact HR3⟩
     case measure => simp [intOf]; omega
   · obtain rfl : k = n:=by omega
     have HL:=Lib.hid (runNums_len L fin k at_ bad)
     have hfa:=fill_all (runNums L fin k at_ bad).1
     rw [HL.out] at hfa
     have HN2:=Lib.hid (show wr.heap[w.heap.size]? = some (.cells ((runNums L fin k at_ bad).1.map i64v).toArray 2 (0,0)) by rw [← hfa]; exact HN.out)
     clear hfa HN
     go_wp2_with fail
     go_ret
     exact ⟨_,rfl,Nat.le_refl _,hRB,HN2.out,HT.out,HR.out⟩
end Go.Proofs.YtejaocnhekjfiaaGreatDoor.S25
namespace Go.Proofs.YtejaocnhekjfiaaGreatDoor.S25
open Go.RowKit
set_option linter.unusedVariables false
def AAt (w : World) (b : Nat) (h : Int) (n : Bool) (s : ByteArray) (k d : Int) : Prop:=w.heap[b]? = some (.cells #[.int .i64 h,.bool n,.string s,.int .u64 k,.int .i64 d] 120 (0,0))
theorem AAt.c {w b h n s k d} (a : AAt w b h n s k d) : w.cell? ⟨b,0,none⟩ = some (.int .i64 h) ∧ w.cell? ⟨b,1,none⟩ = some (.bool n) ∧ w.cell? ⟨b,2,none⟩ = some (.string s) ∧ w.cell? ⟨b,3,none⟩ = some (.int .u64 k) ∧ w.cell? ⟨b,4,none⟩ = some (.int .i64 d):=
 ⟨(cell_of_row _ _ _ _ _ _ a).trans rfl,(cell_of_row _ _ _ _ _ _ a).trans rfl,(cell_of_row _ _ _ _ _ _ a).trans rfl,(cell_of_row _ _ _ _ _ _ a).trans rfl,(cell_of_row _ _ _ _ _ _ a).trans rfl⟩
theorem AAt.f {w b h n s k d} (a : AAt w b h n s k d) (i : Nat) : w.frozen? ⟨b,i,none⟩ = false:=frozen_of_row _ _ _ _ _ a
theorem AAt.turn {w w' : World} {R b h n s k d} (a : AAt w b h n s k d) (ht : Turn R w w') (hne : b ≠ R) : AAt w' b h n s k d:=(ht.block b (lt_of_block a) hne).trans a
theorem AAt.below {w w' : World} {b h n s k d} (a : AAt w b h n s k d) (hb : Below w.heap.size w w') : AAt w' b h n s k d:=(hb.block b (lt_of_block a)).trans a
theorem AAt.new (w : World) (h : Int) (n : Bool) (s : ByteArray) (k d : Int) : AAt (w.alloc (.cells #[.int .i64 h,.bool n,.string s,.int .u64 k,.int .i64 d] 120)) w.heap.size h n s k d:=heap_alloc_new w _
theorem AAt.other {w b h n s k d} (a : AAt w b h n s k d) {B : Nat} (hB : b ≠ B) (i : Nat) (v : Value) : AAt (w.setCell ⟨B,i,none⟩ v) b h n s k d:=(heap_setCell_other _ _ _ _ hB).trans a
theorem AAt.s1 {w b h n s k d} (a : AAt w b h n s k d) (x : Bool) : AAt (w.setCell ⟨b,1,none⟩ (.bool x)) b h x s k d:=by unfold AAt; rw [heap_setCell_same _ _ _ _ _ _ a]; rfl
theorem AAt.s2 {w b h n s k d} (a : AAt w b h n s k d) (x : ByteArray) : AAt (w.setCell ⟨b,2,none⟩ (.string x)) b h n x k d:=by unfold AAt; rw [heap_setCell_same _ _ _ _ _ _ a]; rfl
theorem AAt.s3 {w b h n s k d} (a : AAt w b h n s k d) (x : Int) : AAt (w.setCell ⟨b,3,none⟩ (.int .u64 x)) b h n s x d:=by unfold AAt; rw [heap_setCell_same _ _ _ _ _ _ a]; rfl
theorem AAt.s4 {w b h n s k d} (a : AAt w b h n s k d) (x : Int) : AAt (w.setCell ⟨b,4,none⟩ (.int .i64 x)) b h n s k x:=by unfold AAt; rw [heap_setCell_same _ _ _ _ _ _ a]; rfl
theorem AAt.all {w b h n s k d} (a : AAt w b h n s k d) (h' : Int) (n' : Bool) (s' : ByteArray) (k' d' : Int) :
   AAt (((((w.setCell ⟨b,0,none⟩ (.int .i64 h')).setCell ⟨b,1,none⟩ (.bool n')).setCell ⟨b,2,none⟩ (.string s')).setCell ⟨b,3,none⟩ (.int .u64 k')).setCell ⟨b,4,none⟩ (.int .i64 d')) b h' n' s' k' d':=by
 unfold AAt
 rw [heap_setCell_same _ _ _ _ _ _ (heap_setCell_same _ _ _ _ _ _ (heap_setCell_same _ _ _ _ _ _ (heap_setCell_same _ _ _ _ _ _ (heap_setCell_same _ _ _ _ _ _ a))))]; rfl
theorem RS.all5 {w R g c L at_ bad fin} (h : RS w R g c L at_ bad fin) {B : Nat} (h1 : B ≠ R) (h2 : B ≠ g) (h3 : 10 ≤ B) (v0 v1 v2 v3 v4 : Value) :
   RS (((((w.setCell ⟨B,0,none⟩ v0).setCell ⟨B,1,none⟩ v1).setCell ⟨B,2,none⟩ v2).setCell ⟨B,3,none⟩ v3).setCell ⟨B,4,none⟩ v4) R g c L at_ bad fin:=
 ((((h.other h1 h2 h3 _ _).other h1 h2 h3 _ _).other h1 h2 h3 _ _).other h1 h2 h3 _ _).other h1 h2 h3 _ _
theorem Turn.all5 {b : Nat} {w w' : World} (h : Turn b w w') {B : Nat} (hB : w.heap.size ≤ B) (v0 v1 v2 v3 v4 : Value) :
   Turn b w (((((w'.setCell ⟨B,0,none⟩ v0).setCell ⟨B,1,none⟩ v1).setCell ⟨B,2,none⟩ v2).setCell ⟨B,3,none⟩ v3).setCell ⟨B,4,none⟩ v4):=
 ((((h.fresh hB _ _).fresh hB _ _).fresh hB _ _).fresh hB _ _).fresh hB _ _
structure AddR where
 h : Int
 named : Bool
 name : ByteArray
 key : Int
 d : Int
 at_ : Nat
 bad : Int
def runAdd (L : List (ByteArray × Nat)) (fin a : Nat) (b : Int) : AddR:=
 let a1:=numA L a b
 let b1:=numE L a b fin
 let s:=nextS L a1 b1
 let b2:=nextB L a1 b1 fin
 if namedB s then
   { h:=numR L a b,named:=true,name:=s.extract 1 (s.size - 1),key:=keyV (s.extract 1 (s.size - 1)),d:=numR L (a1 + 1) b2,at_:=numA L (a1 + 1) b2,bad:=numE L (a1 + 1) b2 fin }
 else
   { h:=numR L a b,named:=false,name:=⟨#[]⟩,key:=IntKind.u64.wrap (numR L a1 b2),d:=numR L (numA L a1 b2) (numE L a1 b2 fin),at_:=numA L (numA L a1 b2) (numE L a1 b2 fin),bad:=numE L (numA L a1 b2) (numE L a1 b2 fin) fin }
def addV (r : AddR) : Value:=.agg #[.int .i64 r.h,.bool r.named,.string r.name,.int .u64 r.key,.int .i64 r.d]
set_option maxRecDepth 100000 in
set_option maxHeartbeats 2000000 in
theorem add_yes {w : World} {R g c : Nat} {L : List (ByteArray × Nat)} {at_ : Nat} {bad : Int} {fin : Nat} (h : RS w R g c L at_ bad fin) (ha : at_ ≤ 1048570)
   (hn : namedB (nextS L (numA L at_ bad) (numE L at_ bad fin)) = true) :
   Calls Tryz.prog 72 #[.pointer (some ⟨R,0,none⟩)] w (RPost (addV (runAdd L fin at_ bad)) w R g c L (runAdd L fin at_ bad).at_ (runAdd L fin at_ bad).bad fin):=by
 obtain ⟨a1,hA1⟩ : ∃ x,numA L at_ bad = x:=⟨_,rfl⟩
 obtain ⟨b1,hB1⟩ : ∃ x,numE L at_ bad fin = x:=⟨_,rfl⟩
 obtain ⟨n1,hN1⟩ : ∃ x,numR L at_ bad = x:=⟨_,rfl⟩
 rw [hA1,hB1] at hn
 obtain ⟨s,hs⟩ : ∃ x,nextS L a1 b1 = x:=⟨_,rfl⟩
 obtain ⟨b2,hB2⟩ : ∃ x,nextB L a1 b1 fin = x:=⟨_,rfl⟩
 rw [hs] at hn
 obtain ⟨a4,hA4⟩ : ∃ x,numA L (a1 + 1) b2 = x:=⟨_,rfl⟩
 obtain ⟨b4,hB4⟩ : ∃ x,numE L (a1 + 1) b2 fin = x:=⟨_,rfl⟩
 obtain ⟨n4,hN4⟩ : ∃ x,numR L (a1 + 1) b2 = x:=⟨_,rfl⟩
 have hle1:=numA_le L at_ bad
 rw [hA1] at hle1
 have HV:=Lib.hid (show runAdd L fin at_ bad = { h:=n1,named:=true,name:=s.extract 1 (s.size - 1),key:=keyV (s.extract 1 (s.size - 1)),d:=n4,at_:=a4,bad:=b4 } by
   unfold runAdd; simp only [hA1,hB1,hN1,hs,hB2,hA4,hB4,hN4,hn,if_true])
 have hR:=lt_of_block h.blk
 have hba : Below w.heap.size w (w.alloc (.cells #[.int .i64 0,.bool false,.string ⟨#[]⟩,.int .u64 0,.int .i64 0] 120)):=(Below.refl _ _).alloc (Nat.le_refl _) _
 have H0:=h.below hba
 have T0:=Lib.hid (Turn.of_below (b:=R) hba)
 have Z0:=Lib.hid (AAt.new w 0 false ⟨#[]⟩ 0 0)
 have hZR : w.heap.size ≠ R:=by omega
 have hZg : w.heap.size ≠ g:=by have:=h.glt; omega
 have hZ8 : 10 ≤ w.heap.size:=h.tabs.low
 have K1:=Lib.hid (num_any H0 (by omega))
 rw [hN1,hA1,hB1] at K1
 have hnv : namedV s = .tuple #[.string (s.extract 1 (s.size - 1)),.bool true]:=by unfold namedV; rw [hn]; rfl
 have hE2:=Lib.hid (And.intro hs (And.intro hB2 (And.intro hA4 (And.intro hB4 (And.intro hN4 hnv)))))
 clear h hba H0 hn hA1 hB1 hN1 hs hB2 hA4 hB4 hN4 hnv
 go_enter Tryz.func72,Tryz.ntmps72
 go_wp2_with fail
 generalize w.alloc (.cells #[.int .i64 0,.bool false,.string ⟨#[]⟩,.int .u64 0,.int .i64 0] 120) = w0 at *
 refine K1.out.mono ?_
 rintro e w1 ⟨rfl,ht1,hr1⟩
 have Z1:=Lib.hid (Z0.out.turn ht1 hZR)
 have T1:=Lib.hid (T0.out.trans ht1)
 have hR1:=lt_of_block hr1.blk
 have hYR : w1.heap.size ≠ R:=by omega
 have hYg : w1.heap.size ≠ g:=by have:=hr1.glt; omega
 have hYZ : w.heap.size ≠ w1.heap.size:=by have:=lt_of_block Z1.out; omega
 have hY8 : 10 ≤ w1.heap.size:=hr1.tabs.low
 have hZY : w.heap.size ≤ w1.heap.size:=T1.out.size
 have hbb : Below w1.heap.size w1 (w1.alloc (.cells #[.int .i64 n1,.bool false,.string ⟨#[]⟩,.int .u64 0,.int .i64 0] 120)):=(Below.refl _ _).alloc (Nat.le_refl _) _
 have R2:=hr1.below hbb
 have T2:=Lib.hid (T1.out.trans (Turn.of_below (b:=R) hbb))
 have Z2:=Lib.hid (Z1.out.below hbb)
 have Y2:=Lib.hid (AAt.new w1 n1 false ⟨#[]⟩ 0 0)
 have K2:=Lib.hid (next_any R2)
 rw [hE2.out.1,hE2.out.2.1] at K2
 have hsz:=nextS_size R2
 rw [hE2.out.1] at hsz
 clear ht1 hr1 hbb R2 K1 Z0 T0 Z1 T1
 go_wp2_with fail
 generalize w1.alloc (.cells #[.int .i64 n1,.bool false,.string ⟨#[]⟩,.int .u64 0,.int .i64 0] 120) = w2 at *
 generalize w1.heap.size = Y at *
 refine K2.out.mono ?_
 rintro e w3 ⟨rfl,ht3,hr3⟩
 have Z3:=Lib.hid (Z2.out.turn ht3 hZR)
 have Y3:=Lib.hid (Y2.out.turn ht3 hYR)
 have T3:=Lib.hid (T2.out.trans ht3)
 have KN:=Lib.hid (fun w => named_any s w hsz)
 have R3:=Lib.hid hr3
 rw [hE2.out.2.2.2.2.2] at KN
 clear ht3 hr3 Z2 Y2 T2 K2
 go_wp2_with fail
 refine (KN.out _).mono ?_
 rintro e w4 ⟨rfl,rfl⟩
 obtain ⟨-,y1,y2,y3,-⟩:=Y3.out.c
 have y4:=Y3.out.f 1
 have y5:=Y3.out.f 2
 have Y4:=Lib.hid ((Y3.out.s1 true).s2 (s.extract 1 (s.size - 1)))
 have Z4:=Lib.hid ((Z3.out.other hYZ 1 (.bool true)).other hYZ 2 (.string (s.extract 1 (s.size - 1))))
 have R4:=Lib.hid ((R3.out.other hYR hYg hY8 1 (.bool true)).other hYR hYg hY8 2 (.string (s.extract 1 (s.size - 1))))
 have T4:=Lib.hid ((T3.out.fresh hZY 1 (.bool true)).fresh hZY 2 (.string (s.extract 1 (s.size - 1))))
 have KK:=Lib.hid (key_any (s.extract 1 (s.size - 1)) _ (by rw [ByteArray.size_extract]; omega) R4.out.tabs)
 clear KN Y3 Z3 R3 T3
 go_wp2_with fail
 clear y1 y2 y3 y4 y5
 refine KK.out.mono ?_
 rintro e w5 ⟨rfl,hb5⟩
 have Y5:=Lib.hid (Y4.out.below hb5)
 have Z5:=Lib.hid (Z4.out.below hb5)
 have R5:=Lib.hid (R4.out.below hb5)
 have T5:=Lib.hid (T4.out.trans (Turn.of_below hb5))
 clear hb5 KK Y4 Z4 R4 T4
 generalize ((keyV (s.extract 1 (s.size - 1)) : Nat) : Int) = kv at *
 generalize s.extract 1 (s.size - 1) = nm at *
 obtain ⟨-,-,-,y3,-⟩:=Y5.out.c
 have y4:=Y5.out.f 3
 have r1:=R5.out.c1
 have r2:=R5.out.f 1
 have Y6:=Lib.hid ((Y5.out.s3 kv).other hYR 1 (.int .i64 ((a1 + 1 : Nat) : Int)))
 have Z6:=Lib.hid ((Z5.out.other hYZ 3 (.int .u64 kv)).other hZR 1 (.int .i64 ((a1 + 1 : Nat) : Int)))
 have R6:=Lib.hid ((R5.out.other hYR hYg hY8 3 (.int .u64 kv)).set1 (a1 + 1) (by omega))
 have T6:=Lib.hid ((T5.out.fresh hZY 3 (.int .u64 kv)).trans (Turn.of_only (Only.store _ R 1 (.int .i64 ((a1 + 1 : Nat) : Int)))))
 have KP:=Lib.hid (num_any R6.out (by omega))
 rw [hE2.out.2.2.1,hE2.out.2.2.2.1,hE2.out.2.2.2.2.1] at KP
 clear Y5 Z5 R5 T5
 go_wp2_with fail
 refine KP.out.mono ?_
 clear y3 y4 r1 r2
 rintro e w7 ⟨rfl,ht7,hr7⟩
 have Y7:=Lib.hid (Y6.out.turn ht7 hYR)
 have Z7:=Lib.hid (Z6.out.turn ht7 hZR)
 have T7:=Lib.hid (T6.out.trans ht7)
 have R7:=Lib.hid hr7
 clear ht7 hr7 Y6 Z6 T6 R6
 obtain ⟨-,-,-,-,y3⟩:=Y7.out.c
 have y4:=Y7.out.f 4
 have Y8:=Y7.out.s4 n4
 have Z8:=Lib.hid (Z7.out.other hYZ 4 (.int .i64 n4))
 have R8:=Lib.hid (R7.out.other hYR hYg hY8 4 (.int .i64 n4))
 have T8:=Lib.hid (T7.out.fresh hZY 4 (.int .i64 n4))
 obtain ⟨v0,v1,v2,v3,v4⟩:=Y7.out.c
 have Y8:=Lib.hid Y8
 clear Y7 y3
 have Z7o:=Z7.out.c
 have e10:=Z7.out.f 0
 have e11:=Z7.out.f 1
 have e12:=Z7.out.f 2
 have e13:=Z7.out.f 3
 have e14:=Z7.out.f 4
 clear KP R7 T7 Z7
 obtain ⟨q0,q1,q2,q3,q4⟩:=Y8.out.c
 obtain ⟨x0,x1,x2,x3,x4⟩:=Z8.out.c
 have e0:=Z8.out.f 0
 have e1:=Z8.out.f 1
 have e2:=Z8.out.f 2
 have e3:=Z8.out.f 3
 have e4:=Z8.out.f 4
 have hYZ':=hYZ.symm
 clear q0 q1 q2 q3 q4 x0 x1 x2 x3 x4
 obtain ⟨x0,x1,x2,x3,x4⟩:=Z7o
 go_wp2_with fail
 have ZF:=Z8.out.all n1 true nm kv n4
 have RF:=Lib.hid (R8.out.all5 hZR hZg hZ8 (.int .i64 n1) (.bool true) (.string nm) (.int .u64 kv) (.int .i64 n4))
 have TF:=Lib.hid (T8.out.all5 (Nat.le_refl _) (.int .i64 n1) (.bool true) (.string nm) (.int .u64 kv) (.int .i64 n4))
 obtain ⟨z0,z1,z2,z3,z4⟩:=ZF.c
 clear x0 x1 x2 x3 x4 e0 e1 e2 e3 e4 ZF v0 v1 v2 v3 v4 e10 e11 e12 e13 e14 y4
 exact bodyPost_ret (v:=.agg #[.int .i64 n1,.bool true,.string nm,.int .u64 kv,.int .i64 n4]) (by simp [results,Tryz.results72,go_sem,z0,z1,z2,z3,z4]) rfl ⟨by rw [HV.out]; rfl,TF.out,by rw [HV.out]; exact RF.out⟩
set_option maxRecDepth 100000 in
set_option maxHeartbeats 2000000 in
theorem add_no {w : World} {R g c : Nat} {L : List (ByteArray × Nat)} {at_ : Nat} {bad : Int} {fin : Nat} (h : RS w R g c L at_ bad fin) (ha : at_ ≤ 1048570)
   (hn : namedB (nextS L (numA L at_ bad) (numE L at_ bad fin)) = false) :
   Calls Tryz.prog 72 #[.pointer (some ⟨R,0,none⟩)] w (RPost (addV (runAdd L fin at_ bad)) w R g c L (runAdd L fin at_ bad).at_ (runAdd L fin at_ bad).bad fin):=by
 obtain ⟨a1,hA1⟩ : ∃ x,numA L at_ bad = x:=⟨_,rfl⟩
 obtain ⟨b1,hB1⟩ : ∃ x,numE L at_ bad fin = x:=⟨_,rfl⟩
 obtain ⟨n1,hN1⟩ : ∃ x,numR L at_ bad = x:=⟨_,rfl⟩
 rw [hA1,hB1] at hn
 obtain ⟨s,hs⟩ : ∃ x,nextS L a1 b1 = x:=⟨_,rfl⟩
 obtain ⟨b2,hB2⟩ : ∃ x,nextB L a1 b1 fin = x:=⟨_,rfl⟩
 rw [hs] at hn
 obtain ⟨a3,hA3⟩ : ∃ x,numA L a1 b2 = x:=⟨_,rfl⟩
 obtain ⟨b3,hB3⟩ : ∃ x,numE L a1 b2 fin = x:=⟨_,rfl⟩
 obtain ⟨n3,hN3⟩ : ∃ x,numR L a1 b2 = x:=⟨_,rfl⟩
 obtain ⟨a4,hA4⟩ : ∃ x,numA L a3 b3 = x:=⟨_,rfl⟩
 obtain ⟨b4,hB4⟩ : ∃ x,numE L a3 b3 fin = x:=⟨_,rfl⟩
 obtain ⟨n4,hN4⟩ : ∃ x,numR L a3 b3 = x:=⟨_,rfl⟩
 have hle3:=numA_le L a1 b2
 rw [hA3] at hle3
 have hle1:=numA_le L at_ bad
 rw [hA1] at hle1
 have HV:=Lib.hid (show runAdd L fin at_ bad = { h:=n1,named:=false,name:=⟨#[]⟩,key:=IntKind.u64.wrap n3,d:=n4,at_:=a4,bad:=b4 } by
   unfold runAdd; simp only [hA1,hB1,hN1,hs,hB2,hA3,hB3,hN3,hA4,hB4,hN4,hn,Bool.false_eq_true,if_false])
 have hR:=lt_of_block h.blk
 have hba : Below w.heap.size w (w.alloc (.cells #[.int .i64 0,.bool false,.string ⟨#[]⟩,.int .u64 0,.int .i64 0] 120)):=(Below.refl _ _).alloc (Nat.le_refl _) _
 have H0:=h.below hba
 have T0:=Lib.hid (Turn.of_below (b:=R) hba)
 have Z0:=Lib.hid (AAt.new w 0 false ⟨#[]⟩ 0 0)
 have hZR : w.heap.size ≠ R:=by omega
 have hZg : w.heap.size ≠ g:=by have:=h.glt; omega
 have hZ8 : 10 ≤ w.heap.size:=h.tabs.low
 have K1:=Lib.hid (num_any H0 (by omega))
 rw [hN1,hA1,hB1] at K1
 have hnv : namedV s = .tuple #[.string ⟨#[]⟩,.bool false]:=by unfold namedV; rw [hn]; rfl
 have hE2:=Lib.hid (And.intro hs (And.intro hB2 (And.intro hA4 (And.intro hB4 (And.intro hN4 (And.intro hnv (And.intro hA3 (And.intro hB3 hN3))))))))
 clear h hba H0 hn hA1 hB1 hN1 hs hB2 hA4 hB4 hN4 hnv hA3 hB3 hN3
 go_enter Tryz.func72,Tryz.ntmps72
 go_wp2_with fail
 generalize w.alloc (.cells #[.int .i64 0,.bool false,.string ⟨#[]⟩,.int .u64 0,.int .i64 0] 120) = w0 at *
 refine K1.out.mono ?_
 rintro e w1 ⟨rfl,ht1,hr1⟩
 have Z1:=Lib.hid (Z0.out.turn ht1 hZR)
 have T1:=Lib.hid (T0.out.trans ht1)
 have hR1:=lt_of_block hr1.blk
 have hYR : w1.heap.size ≠ R:=by omega
 have hYg : w1.heap.size ≠ g:=by have:=hr1.glt; omega
 have hYZ : w.heap.size ≠ w1.heap.size:=by have:=lt_of_block Z1.out; omega
 have hY8 : 10 ≤ w1.heap.size:=hr1.tabs.low
 have hZY : w.heap.size ≤ w1.heap.size:=T1.out.size
 have hbb : Below w1.heap.size w1 (w1.alloc (.cells #[.int .i64 n1,.bool false,.string ⟨#[]⟩,.int .u64 0,.int .i64 0] 120)):=(Below.refl _ _).alloc (Nat.le_refl _) _
 have R2:=hr1.below hbb
 have T2:=Lib.hid (T1.out.trans (Turn.of_below (b:=R) hbb))
 have Z2:=Lib.hid (Z1.out.below hbb)
 have Y2:=Lib.hid (AAt.new w1 n1 false ⟨#[]⟩ 0 0)
 have K2:=Lib.hid (next_any R2)
 rw [hE2.out.1,hE2.out.2.1] at K2
 have hsz:=nextS_size R2
 rw [hE2.out.1] at hsz
 clear ht1 hr1 hbb R2 K1 Z0 T0 Z1 T1
 go_wp2_with fail
 generalize w1.alloc (.cells #[.int .i64 n1,.bool false,.string ⟨#[]⟩,.int .u64 0,.int .i64 0] 120) = w2 at *
 generalize w1.heap.size = Y at *
 refine K2.out.mono ?_
 rintro e w3 ⟨rfl,ht3,hr3⟩
 have Z3:=Lib.hid (Z2.out.turn ht3 hZR)
 have Y3:=Lib.hid (Y2.out.turn ht3 hYR)
 have T3:=Lib.hid (T2.out.trans ht3)
 have KN:=Lib.hid (fun w => named_any s w hsz)
 have R3:=Lib.hid hr3
 rw [hE2.out.2.2.2.2.2.1] at KN
 clear ht3 hr3 Z2 Y2 T2 K2
 go_wp2_with fail
 refine (KN.out _).mono ?_
 rintro e w4 ⟨rfl,rfl⟩
 have KM:=Lib.hid (num_any R3.out (by omega))
 rw [hE2.out.2.2.2.2.2.2.1,hE2.out.2.2.2.2.2.2.2.1,hE2.out.2.2.2.2.2.2.2.2] at KM
 clear KN
 go_wp2_with fail
 refine KM.out.mono ?_
 rintro e w5 ⟨rfl,ht5,hr5⟩
 have Y5:=Lib.hid (Y3.out.turn ht5 hYR)
 have Z5:=Lib.hid (Z3.out.turn ht5 hZR)
 have T5:=Lib.hid (T3.out.trans ht5)
 have R5:=Lib.hid hr5
 clear ht5 hr5 KM Y3 Z3 R3 T3
 obtain ⟨-,-,-,y3,-⟩:=Y5.out.c
 have y4:=Y5.out.f 3
 have Y6:=Lib.hid (Y5.out.s3 (IntKind.u64.wrap n3))
 have Z6:=Lib.hid (Z5.out.other hYZ 3 (.int .u64 (IntKind.u64.wrap n3)))
 have R6:=Lib.hid (R5.out.other hYR hYg hY8 3 (.int .u64 (IntKind.u64.wrap n3)))
 have T6:=Lib.hid (T5.out.fresh hZY 3 (.int .u64 (IntKind.u64.wrap n3)))
 have KP:=Lib.hid (num_any R6.out (by omega))
 rw [hE2.out.2.2.1,hE2.out.2.2.2.1,hE2.out.2.2.2.2.1] at KP
 clear Y5 Z5 R5 T5
 go_wp2_with fail
 generalize IntKind.u64.wrap n3 = kv at *
 refine KP.out.mono ?_
 clear y3 y4
 rintro e w7 ⟨rfl,ht7,hr7⟩
 have Y7:=Lib.hid (Y6.out.turn ht7 hYR)
 have Z7:=Lib.hid (Z6.out.turn ht7 hZR)
 have T7:=Lib.hid (T6.out.trans ht7)
 have R7:=Lib.hid hr7
 clear ht7 hr7 Y6 Z6 T6 R6
 obtain ⟨-,-,-,-,y3⟩:=Y7.out.c
 have y4:=Y7.out.f 4
 have Y8:=Y7.out.s4 n4
 have Z8:=Lib.hid (Z7.out.other hYZ 4 (.int .i64 n4))
 have R8:=Lib.hid (R7.out.other hYR hYg hY8 4 (.int .i64 n4))
 have T8:=Lib.hid (T7.out.fresh hZY 4 (.int .i64 n4))
 obtain ⟨v0,v1,v2,v3,v4⟩:=Y7.out.c
 have Y8:=Lib.hid Y8
 clear Y7 y3
 have Z7o:=Z7.out.c
 have e10:=Z7.out.f 0
 have e11:=Z7.out.f 1
 have e12:=Z7.out.f 2
 have e13:=Z7.out.f 3
 have e14:=Z7.out.f 4
 clear KP R7 T7 Z7
 obtain ⟨q0,q1,q2,q3,q4⟩:=Y8.out.c
 obtain ⟨x0,x1,x2,x3,x4⟩:=Z8.out.c
 have e0:=Z8.out.f 0
 have e1:=Z8.out.f 1
 have e2:=Z8.out.f 2
 have e3:=Z8.out.f 3
 have e4:=Z8.out.f 4
 have hYZ':=hYZ.symm
 clear q0 q1 q2 q3 q4 x0 x1 x2 x3 x4
 obtain ⟨x0,x1,x2,x3,x4⟩:=Z7o
 go_wp2_with fail
 have ZF:=Z8.out.all n1 false ⟨#[]⟩ kv n4
 have RF:=Lib.hid (R8.out.all5 hZR hZg hZ8 (.int .i64 n1) (.bool false) (.string ⟨#[]⟩) (.int .u64 kv) (.int .i64 n4))
 have TF:=Lib.hid (T8.out.all5 (Nat.le_refl _) (.int .i64 n1) (.bool false) (.string ⟨#[]⟩) (.int .u64 kv) (.int .i64 n4))
 obtain ⟨z0,z1,z2,z3,z4⟩:=ZF.c
 clear x0 x1 x2 x3 x4 e0 e1 e2 e3 e4 ZF v0 v1 v2 v3 v4 e10 e11 e12 e13 e14 y4
 exact bodyPost_ret (v:=.agg #[.int .i64 n1,.bool false,.string ⟨#[]⟩,.int .u64 kv,.int .i64 n4]) (by simp [results,Tryz.results72,go_sem,z0,z1,z2,z3,z4]) rfl ⟨by rw [HV.out]; rfl,TF.out,by rw [HV.out]; exact RF.out⟩
theorem addr_any {w : World} {R g c : Nat} {L : List (ByteArray × Nat)} {at_ : Nat} {bad : Int} {fin : Nat} (h : RS w R g c L at_ bad fin) (ha : at_ ≤ 1048570) :
   Calls Tryz.prog 72 #[.pointer (some ⟨R,0,none⟩)] w (RPost (addV (runAdd L fin at_ bad)) w R g c L (runAdd L fin at_ bad).at_ (runAdd L fin at_ bad).bad fin):=by
 cases hn : namedB (nextS L (numA L at_ bad) (numE L at_ bad fin)) with
 | true => exact add_yes h ha hn
 | false => exact add_no h ha hn
end Go.Proofs.YtejaocnhekjfiaaGreatDoor.S25
namespace Go.Proofs.YtejaocnhekjfiaaGreatDoor
open Go.RowKit
set_option linter.unusedVariables false
@[go_sem] theorem cmd107_107 (v : Value) (w : World) : (Instr.typeAssert (.iface 107 v) 76 107 true).run Tryz.prog w = .ok (.tuple #[v,.bool true]) w:=by kernel_rfl
@[go_sem] theorem cmd116_107 (v : Value) (w : World) : (Instr.typeAssert (.iface 116 v) 76 107 true).run Tryz.prog w = .ok (.tuple #[.agg #[.int .i64 0,.int .i64 0,.int .i64 0,.int .i64 0,.int .u64 0],.bool false]) w:=by kernel_rfl
@[go_sem] theorem cmd116_116 (v : Value) (w : World) : (Instr.typeAssert (.iface 116 v) 76 116 true).run Tryz.prog w = .ok (.tuple #[v,.bool true]) w:=by kernel_rfl
@[go_sem] theorem cmd120_107 (v : Value) (w : World) : (Instr.typeAssert (.iface 120 v) 76 107 true).run Tryz.prog w = .ok (.tuple #[.agg #[.int .i64 0,.int .i64 0,.int .i64 0,.int .i64 0,.int .u64 0],.bool false]) w:=by kernel_rfl
@[go_sem] theorem cmd120_116 (v : Value) (w : World) : (Instr.typeAssert (.iface 120 v) 76 116 true).run Tryz.prog w = .ok (.tuple #[.agg #[.int .i64 0,.int .i64 0,.int .i64 0,.int .i64 0,.int .u64 0,.int .i64 0],.bool false]) w:=by kernel_rfl
@[go_sem] theorem cmd120_120 (v : Value) (w : World) : (Instr.typeAssert (.iface 120 v) 76 120 true).run Tryz.prog w = .ok (.tuple #[v,.bool true]) w:=by kernel_rfl
@[go_sem] theorem cmd123_107 (v : Value) (w : World) : (Instr.typeAssert (.iface 123 v) 76 107 true).run Tryz.prog w = .ok (.tuple #[.agg #[.int .i64 0,.int .i64 0,.int .i64 0,.int .i64 0,.int .u64 0],.bool false]) w:=by kernel_rfl
@[go_sem] theorem cmd123_116 (v : Value) (w : World) : (Instr.typeAssert (.iface 123 v) 76 116 true).run Tryz.prog w = .ok (.tuple #[.agg #[.int .i64 0,.int .i64 0,.int .i64 0,.int .i64 0,.int .u64 0,.int .i64 0],.bool false]) w:=by kernel_rfl
@[go_sem] theorem cmd123_120 (v : Value) (w : World) : (Instr.typeAssert (.iface 123 v) 76 120 true).run Tryz.prog w = .ok (.tuple #[.agg #[.int .i64 0,.bool false,.string ⟨#[]⟩,.int .u64 0,.int .i64 0],.bool false]) w:=by kernel_rfl
@[go_sem] theorem cmd123_123 (v : Value) (w : World) : (Instr.typeAssert (.iface 123 v) 76 123 true).run Tryz.prog w = .ok (.tuple #[v,.bool true]) w:=by kernel_rfl
@[go_sem] theorem cmd127_107 (v : Value) (w : World) : (Instr.typeAssert (.iface 127 v) 76 107 true).run Tryz.prog w = .ok (.tuple #[.agg #[.int .i64 0,.int .i64 0,.int .i64 0,.int .i64 0,.int .u64 0],.bool false]) w:=by kernel_rfl
@[go_sem] theorem cmd127_116 (v : Value) (w : World) : (Instr.typeAssert (.iface 127 v) 76 116 true).run Tryz.prog w = .ok (.tuple #[.agg #[.int .i64 0,.int .i64 0,.int .i64 0,.int .i64 0,.int .u64 0,.int .i64 0],.bool false]) w:=by kernel_rfl
@[go_sem] theorem cmd127_120 (v : Value) (w : World) : (Instr.typeAssert (.iface 127 v) 76 120 true).run Tryz.prog w = .ok (.tuple #[.agg #[.int .i64 0,.bool false,.string ⟨#[]⟩,.int .u64 0,.int .i64 0],.bool false]) w:=by kernel_rfl
@[go_sem] theorem cmd127_123 (v : Value) (w : World) : (Instr.typeAssert (.iface 127 v) 76 123 true).run Tryz.prog w = .ok (.tuple #[.agg #[],.bool false]) w:=by kernel_rfl
@[go_sem] theorem cmd127_127 (v : Value) (w : World) : (Instr.typeAssert (.iface 127 v) 76 127 true).run Tryz.prog w = .ok (.tuple #[v,.bool true]) w:=by kernel_rfl
@[go_sem] theorem cmd130_107 (v : Value) (w : World) : (Instr.typeAssert (.iface 130 v) 76 107 true).run Tryz.prog w = .ok (.tuple #[.agg #[.int .i64 0,.int .i64 0,.int .i64 0,.int .i64 0,.int .u64 0],.bool false]) w:=by kernel_rfl
@[go_sem] theorem cmd130_116 (v : Value) (w : World) : (Instr.typeAssert (.iface 130 v) 76 116 true).run Tryz.prog w = .ok (.tuple #[.agg #[.int .i64 0,.int .i64 0,.int .i64 0,.int .i64 0,.int .u64 0,.int .i64 0],.bool false]) w:=by kernel_rfl
@[go_sem] theorem cmd130_120 (v : Value) (w : World) : (Instr.typeAssert (.iface 130 v) 76 120 true).run Tryz.prog w = .ok (.tuple #[.agg #[.int .i64 0,.bool false,.string ⟨#[]⟩,.int .u64 0,.int .i64 0],.bool false]) w:=by kernel_rfl
@[go_sem] theorem cmd130_123 (v : Value) (w : World) : (Instr.typeAssert (.iface 130 v) 76 123 true).run Tryz.prog w = .ok (.tuple #[.agg #[],.bool false]) w:=by kernel_rfl
@[go_sem] theorem cmd130_127 (v : Value) (w : World) : (Instr.typeAssert (.iface 130 v) 76 127 true).run Tryz.prog w = .ok (.tuple #[.agg #[.string ⟨#[]⟩,.int .i64 0,.slice none 0 0],.bool false]) w:=by kernel_rfl
@[go_sem] theorem cmd130_130 (v : Value) (w : World) : (Instr.typeAssert (.iface 130 v) 76 130 true).run Tryz.prog w = .ok (.tuple #[v,.bool true]) w:=by kernel_rfl
@[go_sem] theorem cmd133_107 (v : Value) (w : World) : (Instr.typeAssert (.iface 133 v) 76 107 true).run Tryz.prog w = .ok (.tuple #[.agg #[.int .i64 0,.int .i64 0,.int .i64 0,.int .i64 0,.int .u64 0],.bool false]) w:=by kernel_rfl
@[go_sem] theorem cmd133_116 (v : Value) (w : World) : (Instr.typeAssert (.iface 133 v) 76 116 true).run Tryz.prog w = .ok (.tuple #[.agg #[.int .i64 0,.int .i64 0,.int .i64 0,.int .i64 0,.int .u64 0,.int .i64 0],.bool false]) w:=by kernel_rfl
@[go_sem] theorem cmd133_120 (v : Value) (w : World) : (Instr.typeAssert (.iface 133 v) 76 120 true).run Tryz.prog w = .ok (.tuple #[.agg #[.int .i64 0,.bool false,.string ⟨#[]⟩,.int .u64 0,.int .i64 0],.bool false]) w:=by kernel_rfl
@[go_sem] theorem cmd133_123 (v : Value) (w : World) : (Instr.typeAssert (.iface 133 v) 76 123 true).run Tryz.prog w = .ok (.tuple #[.agg #[],.bool false]) w:=by kernel_rfl
@[go_sem] theorem cmd133_127 (v : Value) (w : World) : (Instr.typeAssert (.iface 133 v) 76 127 true).run Tryz.prog w = .ok (.tuple #[.agg #[.string ⟨#[]⟩,.int .i64 0,.slice none 0 0],.bool false]) w:=by kernel_rfl
@[go_sem] theorem cmd133_130 (v : Value) (w : World) : (Instr.typeAssert (.iface 133 v) 76 130 true).run Tryz.prog w = .ok (.tuple #[.agg #[.string ⟨#[]⟩,.int .i64 0,.int .i64 0],.bool false]) w:=by kernel_rfl
@[go_sem] theorem cmd133_133 (v : Value) (w : World) : (Instr.typeAssert (.iface 133 v) 76 133 true).run Tryz.prog w = .ok (.tuple #[v,.bool true]) w:=by kernel_rfl
def RepV (R : Value → World → Prop) (n : Int) (e : Ending) (w' : World) : Prop:=∃ v,e = .returned (.tuple #[v,.int .i64 n]) ∧ R v w'
set_option maxRecDepth 100000 in
set_option maxHeartbeats 2000000 in
theorem do_add {w : World} {R : Value → World → Prop} {n : Int} (a : Nat) (x0 : Int) (x1 : Bool) (x2 : ByteArray) (x3 x4 : Int) (hK : ∀ w',Below w.heap.size w w' → Calls Tryz.prog 52 #[.pointer (some ⟨a,0,none⟩),.agg #[.int .i64 x0,.bool x1,.string x2,.int .u64 x3,.int .i64 x4]] w' (RepV R n)) :
   Calls Tryz.prog 34 #[.pointer (some ⟨a,0,none⟩),.iface 120 (.agg #[.int .i64 x0,.bool x1,.string x2,.int .u64 x3,.int .i64 x4])] w (RepV R n):=by
 have K:=Lib.hid (hK _ ((Below.refl w.heap.size w).alloc (Nat.le_refl _) (.cells #[.int .i64 x0,.bool x1,.string x2,.int .u64 x3,.int .i64 x4] 120)))
 clear hK
 go_enter Tryz.func34,Tryz.ntmps34
 go_wp2_with fail
 refine K.out.mono ?_
 rintro e w1 ⟨v,rfl,hR⟩
 have HR:=Lib.hid hR
 clear hR
 go_wp2_with fail
 go_ret2
 exact ⟨v,rfl,HR.out⟩
set_option maxRecDepth 100000 in
set_option maxHeartbeats 2000000 in
theorem do_query {w : World} {R : Value → World → Prop} {n : Int} (a : Nat) (x0 : ByteArray) (x1 : Int) (x2 : Option Addr) (x3 x4 : Nat) (hK : ∀ w',Below w.heap.size w w' → Calls Tryz.prog 54 #[.pointer (some ⟨a,0,none⟩),.agg #[.string x0,.int .i64 x1,.slice x2 x3 x4]] w' (RepV R n)) :
   Calls Tryz.prog 34 #[.pointer (some ⟨a,0,none⟩),.iface 127 (.agg #[.string x0,.int .i64 x1,.slice x2 x3 x4])] w (RepV R n):=by
 have K:=Lib.hid (hK _ ((Below.refl w.heap.size w).alloc (Nat.le_refl _) (.cells #[.string x0,.int .i64 x1,.slice x2 x3 x4] 127)))
 clear hK
 go_enter Tryz.func34,Tryz.ntmps34
 go_wp2_with fail
 refine K.out.mono ?_
 rintro e w1 ⟨v,rfl,hR⟩
 have HR:=Lib.hid hR
 clear hR
 go_wp2_with fail
 go_ret2
 exact ⟨v,rfl,HR.out⟩
set_option maxRecDepth 100000 in
set_option maxHeartbeats 2000000 in
theorem do_pair {w : World} {R : Value → World → Prop} {n : Int} (a : Nat) (x0 : ByteArray) (x1 x2 : Int) (hK : ∀ w',Below w.heap.size w w' → Calls Tryz.prog 55 #[.pointer (some ⟨a,0,none⟩),.agg #[.string x0,.int .i64 x1,.int .i64 x2]] w' (RepV R n)) :
   Calls Tryz.prog 34 #[.pointer (some ⟨a,0,none⟩),.iface 130 (.agg #[.string x0,.int .i64 x1,.int .i64 x2])] w (RepV R n):=by
 have K:=Lib.hid (hK _ ((Below.refl w.heap.size w).alloc (Nat.le_refl _) (.cells #[.string x0,.int .i64 x1,.int .i64 x2] 130)))
 clear hK
 go_enter Tryz.func34,Tryz.ntmps34
 go_wp2_with fail
 refine K.out.mono ?_
 rintro e w1 ⟨v,rfl,hR⟩
 have HR:=Lib.hid hR
 clear hR
 go_wp2_with fail
 go_ret2
 exact ⟨v,rfl,HR.out⟩
def MadeR (base a m : Nat) (c : Cfg) (S : List SI) (w : World) (v : Value) (w' : World) : Prop:=
 v = .iface 140 (.agg #[.int .i64 ((S.length : Int) + 1)]) ∧ ∃ s : SI,s.C = zeroC c ∧ AggIs w' base a m c (S ++ [s]) ∧ Upd (AggB a m S) w w'
set_option maxRecDepth 100000 in
set_option maxHeartbeats 2000000 in
theorem do_create {w : World} {base a m : Nat} {c : Cfg} {S : List SI} (hc : c.ok) (h : AggIs w base a m c S) (hS : S.length < 20) (hbase : base ≤ w.heap.size) :
   Calls Tryz.prog 34 #[.pointer (some ⟨a,0,none⟩),.iface 107 (cfgV c)] w (RepV (MadeR base a m c S w) 0):=by
 have hb1:=(Below.refl w.heap.size w).alloc (Nat.le_refl _) (.cells #[.int .i64 c.bits,.int .i64 c.rows,.int .i64 c.width,.int .i64 c.mode,.int .u64 c.seed] 107)
 have K:=Lib.hid (fun w => stnew_ok c hc w)
 have HB1:=Lib.hid hb1
 have HA:=Lib.hid (h.keep hb1)
 have HH:=Lib.hid h
 have HSL:=Lib.hid hS
 unfold cfgV at *
 clear hc h hb1
 go_enter Tryz.func34,Tryz.ntmps34
 go_wp2_with fail
 refine (K.out _).mono ?_
 rintro e w1 ⟨v,rfl,p,q,L,rfl,hst,hp,hq,hL,hb⟩
 have hA1:=HA.out.keep hb
 have KM:=Lib.hid (made_ok hA1 (s:=⟨p,q,L,zeroC c⟩) hst (fun t ht A hAL B hBL e => by
   obtain ⟨i,hi⟩:=List.getElem?_of_mem ht
   have h1:=(HA.out.st i t hi).lt.2.2 B hBL
   have h2:=hL A hAL
   omega) (fun A hAL => by have h2:=(hL A hAL).2.2; have:=HB1.out.size; omega) HSL.out)
 have HB2:=Lib.hid (HB1.out.then hb)
 unfold thingV at KM
 dsimp only at KM
 clear hA1 hst hp hq hL hb
 go_wp2_with fail
 refine KM.out.mono ?_
 rintro e w2 ⟨rfl,hA2,hu⟩
 have HA2:=Lib.hid hA2
 have HU:=Lib.hid ((Upd.of_below HB2.out).trans hu)
 clear hA2 hu
 go_wp2_with fail
 go_ret2
 exact ⟨_,rfl,rfl,_,rfl,HA2.out,HU.out⟩
end Go.Proofs.YtejaocnhekjfiaaGreatDoor
namespace Go.Proofs.YtejaocnhekjfiaaGreatDoor
open Go.RowKit
set_option linter.unusedVariables false
theorem infoB5 : (Tryz.prog.info? 5).map (fun i => (i.zero,i.size,i.bytes)) = some (some (.int .u8 0),1,1):=by kernel_rfl
theorem kind_of {w : World} {base : Nat} {e : TypeId} {v : Value} {n : Nat} {xs : List Value} (h : w.ownsRow base e 1 v n xs) : ∀ g,v.ownBlock = some g → ∃ c fz,w.heap[g]? = some (.cells c e fz):=by
 intro g hg
 rcases h.2 with ⟨rfl,_⟩ | ⟨g',cap,cur,rfl,_,hh,_⟩
 · simp [Value.ownBlock] at hg
 · simp only [Value.ownBlock,Option.some.injEq] at hg
   subst hg
   exact ⟨_,_,hh⟩
set_option maxHeartbeats 1000000 in
set_option maxRecDepth 100000 in
theorem copy_used (b : Nat) (w : World) (h0 : w.cell? ⟨b,0,none⟩ = some (.pointer (some ⟨b,0,none⟩))) :
   Calls Tryz.prog 108 #[.pointer (some ⟨b,0,none⟩)] w fun e w' => e = .returned (.tuple #[]) ∧ w' = w:=by
 obtain ⟨j,hj,_⟩:=Option.map_eq_some_iff.1 Tryz.Builder_Extra_169.toX72.sizeBuilder
 go_enter Tryz.func108,Tryz.ntmps108
 go_wp2
 rw [Lib.run_neq_ptr_same w _ Tryz.underlying135 hj]
 go_wp2
 go_end0
 exact ⟨rfl,rfl⟩
set_option maxHeartbeats 1000000 in
set_option maxRecDepth 100000 in
theorem copy_fresh (b : Nat) (w : World) (h0 : w.cell? ⟨b,0,none⟩ = some (.pointer none)) (hsh : w.shape? b = some (137,2)) (hfz : w.frozen? ⟨b,0,none⟩ = false) :
   Calls Tryz.prog 108 #[.pointer (some ⟨b,0,none⟩)] w fun e w' => e = .returned (.tuple #[]) ∧ w' = w.setCell ⟨b,0,none⟩ (.pointer (some ⟨b,0,none⟩)):=by
 obtain ⟨j,hj,hjs⟩:=Option.map_eq_some_iff.1 Tryz.Builder_Extra_169.toX72.sizeBuilder
 go_enter Tryz.func108,Tryz.ntmps108
 go_wp2
 rw [Lib.run_to_unsafe w ⟨b,0,none⟩ Tryz.underlying135 Tryz.underlying274 hj (by rw [hjs]; decide) hsh (Nat.zero_lt_succ 1)]
 simp only [Result.andThen]
 rw [Oper.upon_value]
 go_wp2
 rw [run_callFunc_extern Tryz.func154 (by kernel_rfl) (by kernel_rfl) (by kernel_rfl) (e:=Extern.AbiNoEscape.same) (by kernel_rfl)]
 rw [Lib.run_noEscape]
 simp only [Result.andThen]
 rw [Oper.upon_value]
 go_wp2
 rw [Lib.run_from_unsafe w ⟨b,0,none⟩ Tryz.underlying274 Tryz.underlying135 hj hsh Tryz.Builder_Extra_169.toX72.liesBuilder]
 simp only [Result.andThen]
 rw [Oper.upon_value]
 go_wp2
 go_end0
 exact ⟨rfl,rfl⟩
theorem copy_any (B b : Nat) (bs : List Value) (w : World) (h : Lib.IsBuilder 137 5 B b bs w) :
   Calls Tryz.prog 108 #[.pointer (some ⟨b,0,none⟩)] w fun e w' => e = .returned (.tuple #[]) ∧ (Lib.BuilderAt 137 5 B b (.pointer (some ⟨b,0,none⟩)) bs w' ∧ Below B w w' ∧ Lib.OthersKept 5 (some b) w w'):=by
 rcases h with h | h
 · refine (copy_fresh b w h.cell0 h.shape h.frozen0).mono ?_
   rintro e w' ⟨rfl,rfl⟩
   exact ⟨rfl,h.used _,(Below.refl B w).setCell (p:=⟨b,0,none⟩) h.1 _,(Lib.OthersKept.refl _ _ w).setCell ⟨b,0,none⟩ rfl _⟩
 · refine (copy_used b w h.cell0).mono ?_
   rintro e w' ⟨rfl,rfl⟩
   exact ⟨rfl,h,Below.refl B _,Lib.OthersKept.refl _ _ _⟩
set_option maxHeartbeats 2000000 in
set_option maxRecDepth 100000 in
theorem wstring_any (B b : Nat) (bs : List Value) (s : ByteArray) (w : World) (h : Lib.IsBuilder 137 5 B b bs w) (hlen : bs.length + s.size ≤ 140737488355328) (hBw : B ≤ w.heap.size) :
   Calls Tryz.prog 60 #[.pointer (some ⟨b,0,none⟩),.string s] w fun e w' => e = .returned (.tuple #[.int .i64 s.size,.nilIface]) ∧ (Lib.IsBuilder 137 5 B b (bs ++ Lib.strCells s) w' ∧ Below B w w' ∧ Lib.OthersKept 5 (some b) w w'):=by
 obtain ⟨i0,hi,hz0,hz1,hz2⟩:=info_parts infoB5
 go_enter Tryz.func60,Tryz.ntmps60
 go_wp2_with (go_at_call 108; refine (copy_any B b bs _ h).mono ?_)
 rintro e w1 ⟨rfl,h1,hb1,hk1⟩
 obtain ⟨hB,v,hbk,hown,hne⟩:=h1
 have c0 : w1.cell? ⟨b,0,none⟩ = some (.pointer (some ⟨b,0,none⟩)):=by rw [Lib.cell_of_heap hbk]; rfl
 have c1 : w1.cell? ⟨b,1,none⟩ = some v:=by rw [Lib.cell_of_heap hbk]; rfl
 go_wp2_with (at_builtin; refine Lib.wpList_append_own_string _ rfl _ _ 92 9 rfl B 5 i0 Tryz.underlying92 Tryz.underlying9 hi hz0 hz1 hz2 _ _ _ rfl hown s rfl ?c3 ?c4 ?c5 ?_)
 case c3 => unfold maxLen; omega
 case c4 => omega
 case c5 => have:=hb1.size; omega
 intro v' w2 hown' hgrow _
 have hlt : b < w1.heap.size:=lt_of_block hbk
 have hb2 : w2.heap[b]? = some (.cells #[.pointer (some ⟨b,0,none⟩),v] 137 (0,0)):=by
   rw [hgrow.block b hlt (fun e => hne e.symm)]
   exact hbk
 have d0 : w2.cell? ⟨b,0,none⟩ = some (.pointer (some ⟨b,0,none⟩)):=by rw [Lib.cell_of_heap hb2]; rfl
 have d1 : w2.cell? ⟨b,1,none⟩ = some v:=by rw [Lib.cell_of_heap hb2]; rfl
 have f1 : w2.frozen? ⟨b,1,none⟩ = false:=Lib.frozen_of_heap hb2 1
 obtain ⟨ao,n',cap,rfl⟩ : ∃ ao n' cap,v' = .slice ao n' cap:=by
   rcases hown'.2 with ⟨hv,_⟩ | ⟨g,cap,cur,hv,_⟩
   · exact ⟨_,_,_,hv⟩
   · exact ⟨_,_,_,hv⟩
 go_wp2
 go_ret2
 refine ⟨rfl,.inr ?_,?_,(hk1.grown hgrow (kind_of hown)).setCell ⟨b,1,none⟩ rfl _⟩
 · exact Lib.BuilderAt.put (T:=137) (e:=5) hB hb2 (bs':=bs ++ Lib.strCells s) (by simpa [Lib.strCells_length] using hown') (by decide)
 · exact (hb1.grown hgrow (by have:=hb1.size; omega) (fun k hk => (hown.lt k hk).1)).setCell (p:=⟨b,1,none⟩) hB _
end Go.Proofs.YtejaocnhekjfiaaGreatDoor
