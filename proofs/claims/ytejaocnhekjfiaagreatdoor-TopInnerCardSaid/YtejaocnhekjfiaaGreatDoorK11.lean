/- Walks and plain laws, part 11: S02Ltext Wd2 Wd3 Wd4 Wd8 Wd9 Wd5. -/
import Derived.Test.YtejaocnhekjfiaaGreatDoorK04
import Derived.Test.YtejaocnhekjfiaaGreatDoorK06
import Derived.Test.YtejaocnhekjfiaaGreatDoorK09
import Derived.Test.YtejaocnhekjfiaaGreatDoorK10
import Derived.Laws.BytesArg
import Derived.Lib.Bytes
import Derived.WalkLawsBesides
import Derived.StillTailTactics
namespace Go.Proofs.YtejaocnhekjfiaaGreatDoor.S02
open Go.RowKit
open Go.Lib (strOfNums_toList bytesOf)
set_option linter.unusedVariables false
def divF (M : Int) (j : Nat) : Nat → Int:=fun t => if t < j then dg M t else dg (M / 10) t
theorem divF_ten (M : Int) (t : Nat) (h : t < 10) : dg M t = divF M 10 t:=by simp [divF,h]
theorem divF_zero (M : Int) (t : Nat) : divF M 0 t = dg (M / 10) t:=by simp [divF]
theorem divF_here (M : Int) (j : Nat) : divF M (j + 1) j = dg M j:=by simp [divF]
theorem divF_step (M : Int) (j : Nat) (x : Int) (h : x = dg (M / 10) j) (t : Nat) : (if t = j then x else divF M (j + 1) t) = divF M j t:=by
 subst h
 unfold divF
 by_cases e : t = j
 · subst e; rw [if_pos rfl,if_neg (by omega)]
 · rw [if_neg e]
   by_cases e2 : t < j
   · rw [if_pos (by omega),if_pos e2]
   · rw [if_neg (by omega),if_neg e2]
theorem high_step (X : Int) (j : Nat) : (X / pw j = 0) ↔ (X / pw (j + 1) = 0 ∧ dg X j = 0):=by
 rw [div_succ]; unfold dg; omega
theorem at_byte (w : World) (x : Int) : (convert 92 9 (.slice (some ⟨w.heap.size,0,none⟩) 1 1)).run Tryz.prog (w.alloc (.cells #[.int .u8 x] 5)) = .ok (.string (strOfNums [x])) (w.alloc (.cells #[.int .u8 x] 5)):=by
 refine run_convert_bytes_arg _ 92 5 Tryz.underlying92 Tryz.underlying5 _ 0 1 1 [x] rfl (fun i hi => ?_) 9 Tryz.underlying9
 rw [Nat.zero_add,cell_of_row _ _ _ _ _ _ (heap_alloc_new w _)]
 obtain rfl : i = 0:=by omega
 rfl
theorem str_app (a b : List Int) : strOfNums (a ++ b) = strOfNums a ++ strOfNums b:=by
 apply ByteArray.ext
 simp [strOfNums]
set_option maxRecDepth 100000 in
set_option maxHeartbeats 2000000 in
theorem ltext_any (v : Int) (w : World) (hv : Fits v) :
   Calls Tryz.prog 27 #[L v] w fun e w' => e = .returned (textV v) ∧ Below w.heap.size w w':=by
 have KB:=Lib.hid (fun w => lbelow_any v w (fits_mid hv))
 have KM:=Lib.hid (lminus_any v)
 have hV : v.natAbs < 10 ^ 40 ∧ v.natAbs < 340282366920938463463374607431768211456:=by unfold Fits at hv; omega
 have HV:=Lib.hid hV
 unfold L at *
 have A0:=Lib.hid (At.new w (dg v) rfl)
 have H0:=Lib.hid ((Below.refl w.heap.size w).alloc (Nat.le_refl _) (.cells (arr (dg v)) 63))
 clear hV hv
 by_cases hneg : v < 0
 · have hd : decide (v < 0) = true:=by simpa using hneg
   rw [hd] at KB
   go_enter Tryz.func27,Tryz.ntmps27
   go_wp2_with (refine wpList_load_row rfl 63 (.tmp 1) rfl w.heap.size rfl 63 _ _ _ A0.out Tryz.underlying63 rfl (by rw [arr_size]; exact info30) ?_)
   generalize w.alloc (.cells (arr (dg v)) 63) = w0 at *
   refine (KB.out _).mono ?_
   rintro e w1 ⟨rfl,hb1⟩
   have A1:=Lib.hid (A0.out.below hb1)
   have H1:=Lib.hid (H0.out.trans (hb1.mono H0.out.size))
   clear A0 H0 hb1
   go_wp2_with (refine wpList_load_row rfl 63 (.tmp 1) rfl w.heap.size rfl 63 _ _ _ A1.out Tryz.underlying63 rfl (by rw [arr_size]; exact info30) ?_)
   refine (KM.out _).mono ?_
   rintro e w2 ⟨rfl,hb2⟩
   have A2:=Lib.hid (A1.out.below hb2)
   have H2:=Lib.hid (H1.out.trans (hb2.mono H1.out.size))
   clear A1 H1 hb2
   go_wp2_with (refine wpList_store_row rfl 63 (.tmp 1) (.tmp 12) rfl w.heap.size (arr (dg (-v))) rfl rfl 63 _ A2.out (by rw [arr_size]; exact info30) (by rw [arr_size,arr_size]) (arr_one _) ?_)
   have A3:=Lib.hid (A2.out.row (dg (-v)))
   have H3:=Lib.hid (below_row H2.out (Nat.le_refl _) (arr (dg (-v))))
   generalize w2.setRow w.heap.size (arr (dg (-v))) = w3 at *
   rw [show -v = ((v.natAbs : Nat) : Int) by omega] at A3
   clear KB KM A2 H2 hd
   go_loopw [4,5] (fun s z wr => ∃ (M : Nat) (ds : List Int),s = .string (strOfNums ds.reverse) ∧ z = .bool (decide (ds ≠ [] ∧ M = 0)) ∧ At wr w.heap.size (dg (M : Int)) ∧ Below w.heap.size w wr ∧ ds ++ rest M (decide (ds ≠ [])) = digs v.natAbs ∧ ds.length ≤ 40 ∧ M < 10 ^ (40 - ds.length) ∧ M < 340282366920938463463374607431768211456) (fun s _ _ => 41 - (match s with | .string x => x.size | _ => 0))
   case atStart => exact ⟨v.natAbs,[],rfl,rfl,A3.out,H3.out,by simp [rest],by simp,HV.out.1,HV.out.2⟩
   case round =>
     clear A3 H3
     obtain ⟨M,ds,rfl,rfl,hA,hb,hds,hlen,hM,hM2⟩:=hrel
     have A1:=Lib.hid hA; have H1:=Lib.hid hb; have HDS:=Lib.hid hds; have HL:=Lib.hid hlen; have HM:=Lib.hid hM; have HM2:=Lib.hid hM2
     clear hA hb hds hlen hM hM2
     obtain ⟨wo,rfl⟩ : ∃ wo : World,wo = wr:=⟨_,rfl⟩
     by_cases hgo : M ≠ 0 ∨ decide (ds ≠ []) = false
     · have hz : decide (ds ≠ [] ∧ M = 0) = false:=by
         rw [decide_eq_false_iff_not]
         rintro ⟨h1,h2⟩
         rcases hgo with h | h
         · exact h h2
         · simp at h; exact h1 h
       rw [hz]
       have HST:=Lib.hid (rest_step M (decide (ds ≠ [])) hgo)
       have hlt0 : ds.length < 40:=by
         rcases Nat.lt_or_ge ds.length 40 with h | h
         · exact h
         · have h1 : ds.length = 40:=by have:=HL.out; omega
           have h2:=HM.out
           rw [h1] at h2
           have h3 : M = 0:=by omega
           rcases hgo with h | h
           · exact absurd h3 h
           · have : ds = []:=by simpa using h
             subst this; simp at h1
       have HLT:=Lib.hid hlt0
       have HGO:=Lib.hid hgo
       clear hz hgo hlt0
       go_wp2
       go_loopw [5,6,7] (fun zz rr i wr => ∃ j : Nat,j ≤ 10 ∧ i = .int .i64 ((j : Int) - 1) ∧ rr = .int .i64 ((M : Int) / pw j % 10) ∧ zz = .bool (decide ((M : Int) / 10 / pw j = 0)) ∧ At wr w.heap.size (divF M j) ∧ Below w.heap.size w wr) (fun _ _ i _ => (intOf i + 1).toNat)
       case atStart =>
         have h10 : (M : Int) / pw 10 = 0:=Int.ediv_eq_zero_of_lt (by omega) (by rw [pw10]; have:=HM2.out; omega)
         have h11 : (M : Int) / 10 / pw 10 = 0:=Int.ediv_eq_zero_of_lt (by omega) (by rw [pw10]; have:=HM2.out; omega)
         exact ⟨10,by omega,rfl,by rw [h10]; rfl,by rw [h11]; rfl,A1.out.congr fun i hi => divF_ten _ i hi,H1.out⟩
       case round =>
         clear A1 H1
         obtain ⟨j,hj,rfl,rfl,rfl,hA,hb⟩:=hrel
         have A1:=Lib.hid hA; have H1:=Lib.hid hb
         clear hA hb
         rcases j with _ | t
         · rw [show (((0 : Nat) : Int) - 1) = -1 from rfl,show (M : Int) / pw 0 % 10 = ((M % 10 : Nat) : Int) by rw [pw_zero]; omega]
           have hz2 : decide ((M : Int) / 10 / pw 0 = 0) = decide (ds ++ [48 + ((M % 10 : Nat) : Int)] ≠ [] ∧ M / 10 = 0):=by
             congr 1; apply propext; rw [pw_zero]; simp; omega
           rw [hz2]
           have A2:=Lib.hid (A1.out.congr (g:=dg ((M / 10 : Nat) : Int)) fun i _ => by rw [divF_zero]; congr 1)
           clear A1 hz2
           have hdd : IntKind.u8.wrap (48 + ((M % 10 : Nat) : Int)) = 48 + ((M % 10 : Nat) : Int):=by rw [IntKind.wrap_u8]; omega
           have hm0 : 0 ≤ ((M % 10 : Nat) : Int):=by omega
           have hm1 : ((M % 10 : Nat) : Int) ≤ 9:=by omega
           have kc:=at_byte wr (48 + ((M % 10 : Nat) : Int))
           generalize hmm : ((M % 10 : Nat) : Int) = m at *
           generalize hbz : decide (ds ++ [48 + m] ≠ [] ∧ M / 10 = 0) = bz
           have HBZ:=Lib.hid hbz; have HMM:=Lib.hid hmm; clear hbz hmm
           have hsz : ¬ 9223372036854775807 < (strOfNums [48 + m]).size + (strOfNums ds.reverse).size:=by
             rw [strOfNums_size,strOfNums_size]
             have:=HL.out
             simp; omega
           go_wp2
           have e1 : strOfNums [48 + m] ++ strOfNums ds.reverse = strOfNums (ds ++ [48 + m]).reverse:=by rw [← str_app]; congr 1; simp
           have hl2:=HL.out
           have hlt:=HLT.out
           have hn2:=HM.out
           refine ⟨⟨M / 10,ds ++ [48 + m],by rw [e1],by rw [HBZ.out],A2.out.alloc _,H1.out.alloc H1.out.size _,?_,by simp; omega,?_,by have:=HM2.out; omega⟩,?_⟩
           · rw [← HDS.out,HST.out]; simp
           · rw [List.length_append,List.length_singleton]
             rw [show 40 - ds.length = (40 - (ds.length + 1)) + 1 from by omega,Nat.pow_succ] at hn2
             omega
           · rw [e1]
             simp only [strOfNums_size,List.length_reverse,List.length_append,List.length_singleton]
             omega
         · rw [show (((t + 1 : Nat) : Int) - 1) = (t : Int) by omega]
           have ht : t < 10:=by omega
           have ca:=A1.out.cell ht
           rw [divF_here] at ca
           have fa:=A1.out.frozen t
           have r1:=dg_range (M : Int) t
           have r2 : 0 ≤ (M : Int) / pw (t + 1) % 10 ∧ (M : Int) / pw (t + 1) % 10 ≤ 9:=by omega
           obtain ⟨q1,q2⟩:=dg_div10 (M : Int) (by omega) t
           have S1:=Lib.hid q1
           have S2:=Lib.hid q2
           have HS:=Lib.hid (high_step ((M : Int) / 10) t)
           clear q1 q2
           have i0 : (0 : Int) ≤ (t : Int):=by omega
           have i1 : (t : Int) < 10:=by omega
           generalize dg (M : Int) t = d at *
           generalize (M : Int) / pw (t + 1) % 10 = r at *
           generalize hbz : decide ((M : Int) / 10 / pw (t + 1) = 0) = bz
           have HBZ:=Lib.hid hbz; clear hbz
           cases bz
           · go_wp2
             go_roundw
             case rel =>
               refine ⟨t,by omega,rfl,by rw [S2.out],?_,(A1.out.set _ _).congr fun i _ => divF_step _ _ _ S1.out i,H1.out.setCell (Nat.le_refl _) _⟩
               have:=of_decide_eq_false HBZ.out
               rw [decide_eq_false (fun h => this (HS.out.1 h).1)]
             case measure => simp [intOf]
           · go_wp2
             go_roundw
             case rel =>
               refine ⟨t,by omega,rfl,by rw [S2.out],?_,(A1.out.set _ _).congr fun i _ => divF_step _ _ _ S1.out i,H1.out.setCell (Nat.le_refl _) _⟩
               have:=of_decide_eq_true HBZ.out
               rw [S1.out]
               congr 1
               rw [Bool.eq_iff_iff,decide_eq_true_iff,HS.out]
               simp [this]
             case measure => simp [intOf]
     · have hM0 : M = 0:=by
         rcases Nat.eq_zero_or_pos M with h | h
         · exact h
         · exact absurd (Or.inl (by omega)) hgo
       have hne : ds ≠ []:=fun h => hgo (Or.inr (by simp [h]))
       subst hM0
       rw [decide_eq_true (p:=ds ≠ [] ∧ 0 = 0) ⟨hne,rfl⟩]
       have hdg : ds = digs v.natAbs:=by
         have:=HDS.out
         rw [decide_eq_true hne] at this
         simpa [rest] using this
       have hpos : 0 < (strOfNums ds.reverse).size:=by
         rw [strOfNums_size,List.length_reverse]
         exact List.length_pos_iff.2 hne
       have hsz : ¬ 9223372036854775807 < (strOfNums ds.reverse).size + 1:=by
         rw [strOfNums_size]
         have:=HL.out
         simp; omega
       have hem : (strOfNums ds.reverse).toList.isEmpty = false:=by
         rw [Bool.eq_false_iff]
         intro h
         have h2 : (strOfNums ds.reverse).toList = []:=by simpa using h
         rw [strOfNums_toList] at h2
         have h3:=congrArg List.length h2
         unfold bytesOf at h3
         simp at h3
         exact hne h3
       have HDG:=Lib.hid hdg
       clear hgo hne hdg
       go_wp2
       go_ret
       refine ⟨?_,H1.out⟩
       show Ending.returned (Value.string (strOfNums [45] ++ strOfNums ds.reverse)) = Ending.returned (textV v)
       unfold textV textRev
       rw [if_pos hneg,← str_app,HDG.out,List.reverse_append]
       rfl
 · have hd : decide (v < 0) = false:=by simpa using hneg
   rw [hd] at KB
   go_enter Tryz.func27,Tryz.ntmps27
   go_wp2_with (refine wpList_load_row rfl 63 (.tmp 1) rfl w.heap.size rfl 63 _ _ _ A0.out Tryz.underlying63 rfl (by rw [arr_size]; exact info30) ?_)
   generalize w.alloc (.cells (arr (dg v)) 63) = w0 at *
   refine (KB.out _).mono ?_
   rintro e w3 ⟨rfl,hb1⟩
   have A3:=Lib.hid (A0.out.below hb1)
   have H3:=Lib.hid (H0.out.trans (hb1.mono H0.out.size))
   clear A0 H0 hb1
   go_wp2_with fail
   rw [show v = ((v.natAbs : Nat) : Int) by omega] at A3
   clear KB KM hd
   go_loopw [4,5] (fun s z wr => ∃ (M : Nat) (ds : List Int),s = .string (strOfNums ds.reverse) ∧ z = .bool (decide (ds ≠ [] ∧ M = 0)) ∧ At wr w.heap.size (dg (M : Int)) ∧ Below w.heap.size w wr ∧ ds ++ rest M (decide (ds ≠ [])) = digs v.natAbs ∧ ds.length ≤ 40 ∧ M < 10 ^ (40 - ds.length) ∧ M < 340282366920938463463374607431768211456) (fun s _ _ => 41 - (match s with | .string x => x.size | _ => 0))
   case atStart => exact ⟨v.natAbs,[],rfl,rfl,A3.out,H3.out,by simp [rest],by simp,HV.out.1,HV.out.2⟩
   case round =>
     clear A3 H3
     obtain ⟨M,ds,rfl,rfl,hA,hb,hds,hlen,hM,hM2⟩:=hrel
     have A1:=Lib.hid hA; have H1:=Lib.hid hb; have HDS:=Lib.hid hds; have HL:=Lib.hid hlen; have HM:=Lib.hid hM; have HM2:=Lib.hid hM2
     clear hA hb hds hlen hM hM2
     obtain ⟨wo,rfl⟩ : ∃ wo : World,wo = wr:=⟨_,rfl⟩
     by_cases hgo : M ≠ 0 ∨ decide (ds ≠ []) = false
     · have hz : decide (ds ≠ [] ∧ M = 0) = false:=by
         rw [decide_eq_false_iff_not]
         rintro ⟨h1,h2⟩
         rcases hgo with h | h
         · exact h h2
         · simp at h; exact h1 h
       rw [hz]
       have HST:=Lib.hid (rest_step M (decide (ds ≠ [])) hgo)
       have hlt0 : ds.length < 40:=by
         rcases Nat.lt_or_ge ds.length 40 with h | h
         · exact h
         · have h1 : ds.length = 40:=by have:=HL.out; omega
           have h2:=HM.out
           rw [h1] at h2
           have h3 : M = 0:=by omega
           rcases hgo with h | h
           · exact absurd h3 h
           · have : ds = []:=by simpa using h
             subst this; simp at h1
       have HLT:=Lib.hid hlt0
       have HGO:=Lib.hid hgo
       clear hz hgo hlt0
       go_wp2
       go_loopw [5,6,7] (fun zz rr i wr => ∃ j : Nat,j ≤ 10 ∧ i = .int .i64 ((j : Int) - 1) ∧ rr = .int .i64 ((M : Int) / pw j % 10) ∧ zz = .bool (decide ((M : Int) / 10 / pw j = 0)) ∧ At wr w.heap.size (divF M j) ∧ Below w.heap.size w wr) (fun _ _ i _ => (intOf i + 1).toNat)
       case atStart =>
         have h10 : (M : Int) / pw 10 = 0:=Int.ediv_eq_zero_of_lt (by omega) (by rw [pw10]; have:=HM2.out; omega)
         have h11 : (M : Int) / 10 / pw 10 = 0:=Int.ediv_eq_zero_of_lt (by omega) (by rw [pw10]; have:=HM2.out; omega)
         exact ⟨10,by omega,rfl,by rw [h10]; rfl,by rw [h11]; rfl,A1.out.congr fun i hi => divF_ten _ i hi,H1.out⟩
       case round =>
         clear A1 H1
         obtain ⟨j,hj,rfl,rfl,rfl,hA,hb⟩:=hrel
         have A1:=Lib.hid hA; have H1:=Lib.hid hb
         clear hA hb
         rcases j with _ | t
         · rw [show (((0 : Nat) : Int) - 1) = -1 from rfl,show (M : Int) / pw 0 % 10 = ((M % 10 : Nat) : Int) by rw [pw_zero]; omega]
           have hz2 : decide ((M : Int) / 10 / pw 0 = 0) = decide (ds ++ [48 + ((M % 10 : Nat) : Int)] ≠ [] ∧ M / 10 = 0):=by
             congr 1; apply propext; rw [pw_zero]; simp; omega
           rw [hz2]
           have A2:=Lib.hid (A1.out.congr (g:=dg ((M / 10 : Nat) : Int)) fun i _ => by rw [divF_zero]; congr 1)
           clear A1 hz2
           have hdd : IntKind.u8.wrap (48 + ((M % 10 : Nat) : Int)) = 48 + ((M % 10 : Nat) : Int):=by rw [IntKind.wrap_u8]; omega
           have hm0 : 0 ≤ ((M % 10 : Nat) : Int):=by omega
           have hm1 : ((M % 10 : Nat) : Int) ≤ 9:=by omega
           have kc:=at_byte wr (48 + ((M % 10 : Nat) : Int))
           generalize hmm : ((M % 10 : Nat) : Int) = m at *
           generalize hbz : decide (ds ++ [48 + m] ≠ [] ∧ M / 10 = 0) = bz
           have HBZ:=Lib.hid hbz; have HMM:=Lib.hid hmm; clear hbz hmm
           have hsz : ¬ 9223372036854775807 < (strOfNums [48 + m]).size + (strOfNums ds.reverse).size:=by
             rw [strOfNums_size,strOfNums_size]
             have:=HL.out
             simp; omega
           go_wp2
           have e1 : strOfNums [48 + m] ++ strOfNums ds.reverse = strOfNums (ds ++ [48 + m]).reverse:=by rw [← str_app]; congr 1; simp
           have hl2:=HL.out
           have hlt:=HLT.out
           have hn2:=HM.out
           refine ⟨⟨M / 10,ds ++ [48 + m],by rw [e1],by rw [HBZ.out],A2.out.alloc _,H1.out.alloc H1.out.size _,?_,by simp; omega,?_,by have:=HM2.out; omega⟩,?_⟩
           · rw [← HDS.out,HST.out]; simp
           · rw [List.length_append,List.length_singleton]
             rw [show 40 - ds.length = (40 - (ds.length + 1)) + 1 from by omega,Nat.pow_succ] at hn2
             omega
           · rw [e1]
             simp only [strOfNums_size,List.length_reverse,List.length_append,List.length_singleton]
             omega
         · rw [show (((t + 1 : Nat) : Int) - 1) = (t : Int) by omega]
           have ht : t < 10:=by omega
           have ca:=A1.out.cell ht
           rw [divF_here] at ca
           have fa:=A1.out.frozen t
           have r1:=dg_range (M : Int) t
           have r2 : 0 ≤ (M : Int) / pw (t + 1) % 10 ∧ (M : Int) / pw (t + 1) % 10 ≤ 9:=by omega
           obtain ⟨q1,q2⟩:=dg_div10 (M : Int) (by omega) t
           have S1:=Lib.hid q1
           have S2:=Lib.hid q2
           have HS:=Lib.hid (high_step ((M : Int) / 10) t)
           clear q1 q2
           have i0 : (0 : Int) ≤ (t : Int):=by omega
           have i1 : (t : Int) < 10:=by omega
           generalize dg (M : Int) t = d at *
           generalize (M : Int) / pw (t + 1) % 10 = r at *
           generalize hbz : decide ((M : Int) / 10 / pw (t + 1) = 0) = bz
           have HBZ:=Lib.hid hbz; clear hbz
           cases bz
           · go_wp2
             go_roundw
             case rel =>
               refine ⟨t,by omega,rfl,by rw [S2.out],?_,(A1.out.set _ _).congr fun i _ => divF_step _ _ _ S1.out i,H1.out.setCell (Nat.le_refl _) _⟩
               have:=of_decide_eq_false HBZ.out
               rw [decide_eq_false (fun h => this (HS.out.1 h).1)]
             case measure => simp [intOf]
           · go_wp2
             go_roundw
             case rel =>
               refine ⟨t,by omega,rfl,by rw [S2.out],?_,(A1.out.set _ _).congr fun i _ => divF_step _ _ _ S1.out i,H1.out.setCell (Nat.le_refl _) _⟩
               have:=of_decide_eq_true HBZ.out
               rw [S1.out]
               congr 1
               rw [Bool.eq_iff_iff,decide_eq_true_iff,HS.out]
               simp [this]
             case measure => simp [intOf]
     · have hM0 : M = 0:=by
         rcases Nat.eq_zero_or_pos M with h | h
         · exact h
         · exact absurd (Or.inl (by omega)) hgo
       have hne : ds ≠ []:=fun h => hgo (Or.inr (by simp [h]))
       subst hM0
       rw [decide_eq_true (p:=ds ≠ [] ∧ 0 = 0) ⟨hne,rfl⟩]
       have hdg : ds = digs v.natAbs:=by
         have:=HDS.out
         rw [decide_eq_true hne] at this
         simpa [rest] using this
       have hpos : 0 < (strOfNums ds.reverse).size:=by
         rw [strOfNums_size,List.length_reverse]
         exact List.length_pos_iff.2 hne
       have hsz : ¬ 9223372036854775807 < (strOfNums ds.reverse).size + 1:=by
         rw [strOfNums_size]
         have:=HL.out
         simp; omega
       have hem : (strOfNums ds.reverse).toList.isEmpty = false:=by
         rw [Bool.eq_false_iff]
         intro h
         have h2 : (strOfNums ds.reverse).toList = []:=by simpa using h
         rw [strOfNums_toList] at h2
         have h3:=congrArg List.length h2
         unfold bytesOf at h3
         simp at h3
         exact hne h3
       have HDG:=Lib.hid hdg
       clear hgo hne hdg
       go_wp2
       go_ret
       refine ⟨?_,H1.out⟩
       show Ending.returned (Value.string (strOfNums [] ++ strOfNums ds.reverse)) = Ending.returned (textV v)
       unfold textV textRev
       rw [if_neg (by omega),← str_app,HDG.out,List.append_nil]
       rfl
end Go.Proofs.YtejaocnhekjfiaaGreatDoor.S02
namespace Go.Proofs.YtejaocnhekjfiaaGreatDoor
open Go.RowKit
set_option linter.unusedVariables false
open S25 (I64 numLine LineOk Tabs PlainW)
def hd (h : Int) : Nat:=(h % 65536).toNat % 3
theorem hd_lt (h : Int) : hd h < 3:=Nat.mod_lt _ (by decide)
set_option maxRecDepth 100000 in
set_option maxHeartbeats 1000000 in
theorem handle_any (h : Int) (w : World) : Calls Tryz.prog 10 #[.int .i64 h] w fun e w' => e = .returned (.int .i64 (hd h)) ∧ w = w':=by
 have e0:=and_65535 h
 have HE:=Lib.hid (show (((h % 65536).toNat : Nat) : Int) % 3 = ((hd h : Nat) : Int) by unfold hd; omega)
 have hlo : (0 : Int) ≤ ((h % 65536).toNat : Int):=by omega
 have hhi : ((h % 65536).toNat : Int) ≤ 65535:=by omega
 generalize (h % 65536).toNat = u at *
 go_enter Tryz.func10,Tryz.ntmps10
 go_wp2_with fail
 go_ret
 exact ⟨by rw [HE.out]; rfl,rfl⟩
theorem tmod_range (d : Int) : -1048575 ≤ d.tmod 1048576 ∧ d.tmod 1048576 ≤ 1048575:=by
 rcases Int.le_total 0 d with h | h
 · rw [Int.tmod_eq_emod_of_nonneg h]; omega
 · obtain ⟨e,rfl⟩ : ∃ e : Int,d = -e:=⟨-d,by omega⟩
   rw [Int.neg_tmod,Int.tmod_eq_emod_of_nonneg (by omega)]; omega
def smallD (c : Cfg) (d : Int) : Int:=if c.mode = 2 then max (d.tmod 1048576) (-(d.tmod 1048576)) else d.tmod 1048576
theorem smallD_le (c : Cfg) (d : Int) : -1048575 ≤ smallD c d ∧ smallD c d ≤ 1048575:=by have:=tmod_range d; unfold smallD; split <;> omega
theorem smallD_nn (c : Cfg) (d : Int) (hm : c.mode = 2) : 0 ≤ smallD c d:=by unfold smallD; rw [if_pos hm]; omega
set_option maxRecDepth 100000 in
set_option maxHeartbeats 1000000 in
theorem small_any (c : Cfg) (d : Int) (w : World) : Calls Tryz.prog 13 #[cfgV c,.int .i64 d] w fun e w' => e = .returned (.int .i64 (smallD c d)) ∧ Below w.heap.size w w':=by
 have hlo:=(tmod_range d).1
 have hhi:=(tmod_range d).2
 have hw : wrap64 (-d.tmod 1048576) = -d.tmod 1048576:=by unfold wrap64; omega
 unfold cfgV
 by_cases hm : c.mode = 2
 · have g0 : ((c.mode : Int) == 2) = true:=by simp; omega
   have HX:=Lib.hid (show smallD c d = max (d.tmod 1048576) (-(d.tmod 1048576)) by unfold smallD; rw [if_pos hm])
   clear hm
   go_enter Tryz.func13,Tryz.ntmps13
   go_wp2_with fail
   go_ret
   exact ⟨by rw [HX.out]; rfl,(Below.refl _ _).alloc (Nat.le_refl _) _⟩
 · have g0 : ((c.mode : Int) == 2) = false:=by simp; omega
   have HX:=Lib.hid (show smallD c d = d.tmod 1048576 by unfold smallD; rw [if_neg hm])
   clear hm
   go_enter Tryz.func13,Tryz.ntmps13
   go_wp2_with fail
   go_ret
   exact ⟨by rw [HX.out]; rfl,(Below.refl _ _).alloc (Nat.le_refl _) _⟩
theorem small_fits {n : Int} (h : I64 n) : S02.Fits n:=by unfold I64 at h; unfold S02.Fits; omega
set_option maxRecDepth 100000 in
set_option maxHeartbeats 1000000 in
theorem text25_any (n : Int) (h : I64 n) (w : World) : Calls Tryz.prog 36 #[.int .i64 n] w fun e w' => e = .returned (.string (numT n)) ∧ Below w.heap.size w w':=by
 have K1:=Lib.hid (fun w => S02.lofint_any n w h.1 h.2)
 have K2:=fun w => S02.ltext_any n w (small_fits h)
 simp only [textV_eq] at K2
 have K2:=Lib.hid K2
 generalize numT n = s at *
 generalize S02.L n = v at *
 go_enter Tryz.func36,Tryz.ntmps36
 go_wp2_with fail
 refine (K1.out _).mono ?_
 rintro e w1 ⟨rfl,hb⟩
 have HB:=Lib.hid hb; clear hb
 go_wp2_with fail
 refine (K2.out _).mono ?_
 rintro e w2 ⟨rfl,hb⟩
 have HB2:=Lib.hid (HB.out.then hb); clear hb
 go_wp2_with fail
 go_ret
 exact ⟨rfl,HB2.out⟩
set_option maxRecDepth 100000 in
set_option maxHeartbeats 1000000 in
theorem text_any (n : Int) (h : I64 n) (w : World) : Calls Tryz.prog 12 #[.int .i64 n] w fun e w' => e = .returned (.string (numT n)) ∧ Below w.heap.size w w':=by
 have K1:=Lib.hid (fun w => text25_any n h w)
 generalize numT n = s at *
 go_enter Tryz.func12,Tryz.ntmps12
 go_wp2_with fail
 refine (K1.out _).mono ?_
 rintro e w1 ⟨rfl,hb⟩
 have HB:=Lib.hid hb; clear hb
 go_wp2_with fail
 go_ret
 exact ⟨rfl,HB.out⟩
end Go.Proofs.YtejaocnhekjfiaaGreatDoor
namespace Go.Proofs.YtejaocnhekjfiaaGreatDoor
open Go.RowKit
set_option linter.unusedVariables false
open S25 (I64 numLine LineOk Tabs PlainW)
structure OpI where
 kind : Int
 h : Int
 o : Int
 key : Nat
 d : Int
def opV (o : OpI) : Value:=.agg #[.int .i64 o.kind,.int .i64 o.h,.int .i64 o.o,.int .u64 o.key,.int .i64 o.d]
theorem numLine3 (v : ByteArray) (x y z : Int) : numLine v [x,y,z] = (((((v ++ ⟨#[32]⟩) ++ numT x) ++ ⟨#[32]⟩) ++ numT y) ++ ⟨#[32]⟩) ++ numT z:=by
 show S25.lineW v [numT x,numT y,numT z] = _
 rw [S25.lineW_eq]
 show v ++ ((⟨#[32]⟩ : ByteArray) ++ (numT x ++ ((⟨#[32]⟩ : ByteArray) ++ (numT y ++ ((⟨#[32]⟩ : ByteArray) ++ (numT z ++ ⟨#[]⟩)))))) = _
 simp only [ByteArray.append_assoc]
 congr 7
 apply ByteArray.ext; rw [ByteArray.data_append]; exact Array.append_empty
theorem bDone_eq : (bDone.toList == [100,111,110,101]) = true:=by rw [ByteArray.toList_eq]; decide
theorem vAdd_sp : vAdd ++ (⟨#[32]⟩ : ByteArray) = ⟨#[97,100,100,32]⟩:=by decide
set_option maxRecDepth 100000 in
set_option maxHeartbeats 1000000 in
theorem does_add {w : World} {base x a m : Nat} {c : Cfg} {S : List SI} {G : List Int} (h : WIs w base x a m c S G) (hT : Tabs w) (hb10 : 10 ≤ base) (o : OpI) (h3 : o.kind ≠ 3) (h4 : o.kind ≠ 4) {s : SI} (hs : S[hd o.h]? = some s) (b : Int)
   (hk : 6 ≤ c.bits) (hf : ∀ zs ∈ s.C,FitL b zs) (hb : 0 ≤ b) (hbD : b ≤ 2305843009213693951) (hG : FitL b G) :
   Calls Tryz.prog 14 #[.pointer (some ⟨x,0,none⟩),opV o] w fun e w' => e = .returned (.bool true) ∧
     WIs w' base x a m c (S.set (hd o.h) { s with C:=updS c (o.key % 64) (smallD c o.d) s.C (List.range (c.bits + 1)) }) (bump G (64 * hd o.h + o.key % 64) (smallD c o.d)) ∧ Upd (WB x a m S) w w':=by
 have hb1:=(Below.refl w.heap.size w).alloc (Nat.le_refl _) (.cells #[.int .i64 o.kind,.int .i64 o.h,.int .i64 o.o,.int .u64 o.key,.int .i64 o.d] 42)
 have hbx:=heap_alloc_new w (.cells #[.int .i64 o.kind,.int .i64 o.h,.int .i64 o.o,.int .u64 o.key,.int .i64 o.d] 42)
 have hW1:=h.keep hb1
 have hT1:=hT.below hb1
 generalize hW : w.alloc (.cells #[.int .i64 o.kind,.int .i64 o.h,.int .i64 o.o,.int .u64 o.key,.int .i64 o.d] 42) = W1 at hb1 hbx hW1 hT1
 have HW:=Lib.hid hW
 have d0 : W1.cell? ⟨w.heap.size,0,none⟩ = some (.int .i64 o.kind):=(cell_of_row _ _ _ _ _ _ hbx).trans rfl
 have d1 : W1.cell? ⟨w.heap.size,1,none⟩ = some (.int .i64 o.h):=(cell_of_row _ _ _ _ _ _ hbx).trans rfl
 have d2 : W1.cell? ⟨w.heap.size,2,none⟩ = some (.int .i64 o.o):=(cell_of_row _ _ _ _ _ _ hbx).trans rfl
 have d3 : W1.cell? ⟨w.heap.size,3,none⟩ = some (.int .u64 o.key):=(cell_of_row _ _ _ _ _ _ hbx).trans rfl
 have d4 : W1.cell? ⟨w.heap.size,4,none⟩ = some (.int .i64 o.d):=(cell_of_row _ _ _ _ _ _ hbx).trans rfl
 have g0 : (o.kind == 3) = false:=by simpa using h3
 have g1 : (o.kind == 4) = false:=by simpa using h4
 obtain ⟨kk,hkk⟩ : ∃ kk : Nat,o.key % 64 = kk:=⟨_,rfl⟩
 have hkm : ((o.key : Int) % 64) = (kk : Int):=by omega
 have hk64 : kk < 64:=by omega
 rw [hkk]
 have KH1:=Lib.hid (fun w => handle_any o.h w)
 have KH2:=Lib.hid (fun w => handle_any o.o w)
 have HX:=Lib.hid hbx
 have HW1:=Lib.hid hW1
 have HB1:=Lib.hid hb1
 have HT1:=Lib.hid hT1
 have hh3:=hd_lt o.h
 have hok : ((hd o.h : Nat) : Int) < 3:=by omega
 unfold opV
 clear hb1 hbx hW1 hT1 h hT
 go_enter Tryz.func14,Tryz.ntmps14
 go_wp2_with fail
 clear hW
 refine (KH1.out _).mono ?_
 rintro e w' ⟨rfl,rfl⟩
 go_wp2_with fail
 refine (KH2.out _).mono ?_
 rintro e w' ⟨rfl,rfl⟩
 go_wp2_with fail
 have C1:=Lib.hid (show ∀ w',Below W1.heap.size W1 w' → w'.cell? ⟨x,1,none⟩ = some (.int .i64 c.bits) ∧ w'.cell? ⟨x,2,none⟩ = some (.int .i64 c.rows) ∧ w'.cell? ⟨x,3,none⟩ = some (.int .i64 c.width) ∧ w'.cell? ⟨x,4,none⟩ = some (.int .i64 c.mode) ∧ w'.cell? ⟨x,5,none⟩ = some (.int .u64 c.seed) from fun w' hb => (HW1.out.keep hb).cells.2)
 have D4:=Lib.hid (show ∀ w',Below W1.heap.size W1 w' → w'.cell? ⟨w.heap.size,4,none⟩ = some (.int .i64 o.d) from fun w' hb => (hb.cell (p:=⟨w.heap.size,4,none⟩) (lt_of_block HX.out)).trans d4)
 have KS:=fun w => small_any c o.d w
 unfold cfgV at KS
 have KS:=Lib.hid KS
 have SDL:=smallD_le c o.d
 generalize hsd : smallD c o.d = sd at *
 have HSD:=Lib.hid hsd
 clear hsd
 have T:=Lib.hid (Below.refl W1.heap.size W1).drew
 refine wp_region_phase (by kernel_rfl) ?_
 refine wpAnyH_take (i:=0) (oi:=⟨_,_,_,_,_,_⟩) (v:=?vva0) rfl (by kernel_rfl) (by kernel_rfl) (by kernel_rfl) (fun _ _ _ h => h) (Or.inl ⟨by rfl,?yya0⟩) T.out ?_
 case yya0 => (intro w' hw'; go_simp; try with_reducible rfl)
 try simp only [Act.put,List.setIfInBounds_toArray,List.set_cons_zero,List.set_cons_succ]
 refine wpAnyH_take (i:=1) (oi:=⟨_,_,_,_,_,_⟩) (v:=?vva1) rfl (by kernel_rfl) (by kernel_rfl) (by kernel_rfl) (fun _ _ _ h => h) (Or.inl ⟨by rfl,?yya1⟩) T.out ?_
 case yya1 => (intro w' hw'; go_simp; try with_reducible rfl)
 try simp only [Act.put,List.setIfInBounds_toArray,List.set_cons_zero,List.set_cons_succ]
 refine wpAnyH_take (i:=2) (oi:=⟨_,_,_,_,_,_⟩) (v:=?vva2) rfl (by kernel_rfl) (by kernel_rfl) (by kernel_rfl) (fun _ _ _ h => h) (Or.inl ⟨by rfl,?yya2⟩) T.out ?_
 case yya2 => (intro w' hw'; go_simp; try with_reducible rfl)
 try simp only [Act.put,List.setIfInBounds_toArray,List.set_cons_zero,List.set_cons_succ]
 refine wpAnyH_take (i:=3) (oi:=⟨_,_,_,_,_,_⟩) (v:=?vva3) rfl (by kernel_rfl) (by kernel_rfl) (by kernel_rfl) (fun _ _ _ h => h) (Or.inl ⟨by rfl,?yya3⟩) T.out ?_
 case yya3 => (intro w' hw'; have c1:=(C1.out w' hw').1; have c2:=(C1.out w' hw').2.1; have c3:=(C1.out w' hw').2.2.1; have c4:=(C1.out w' hw').2.2.2.1; have c5:=(C1.out w' hw').2.2.2.2; go_simp; try with_reducible rfl)
 try simp only [Act.put,List.setIfInBounds_toArray,List.set_cons_zero,List.set_cons_succ]
 refine wpAnyH_take (i:=4) (oi:=⟨_,_,_,_,_,_⟩) (v:=?vva4) rfl (by kernel_rfl) (by kernel_rfl) (by kernel_rfl) (fun _ _ _ h => h) (Or.inl ⟨by rfl,?yya4⟩) T.out ?_
 case yya4 => (intro w' hw'; go_simp; try with_reducible rfl)
 try simp only [Act.put,List.setIfInBounds_toArray,List.set_cons_zero,List.set_cons_succ]
 refine wpAnyH_take (i:=5) (oi:=⟨_,_,_,_,_,_⟩) (v:=?vva5) rfl (by kernel_rfl) (by kernel_rfl) (by kernel_rfl) (fun _ _ _ h => h) (Or.inl ⟨by rfl,?yya5⟩) T.out ?_
 case yya5 => (intro w' hw'; have c1:=D4.out w' hw'; go_simp; try with_reducible rfl)
 try simp only [Act.put,List.setIfInBounds_toArray,List.set_cons_zero,List.set_cons_succ]
 refine wpAnyH_ready (rs:=[6]) (by kernel_rfl) (by simp) ?_
 refine AllReadyH.cons (o:=⟨_,_,_,_,_,_⟩) rfl (fun K hK => ?_) AllReadyH.nil
 go_simp
 with_reducible refine (KS.out _).mono ?_
 rintro e w2 ⟨rfl,hb⟩
 have T:=Lib.hid (T.out.then hb)
 clear hb
 refine hK.out _ _ T.out (fun hHeld => ?_)
 clear hK K hHeld
 try simp only [Act.put,List.setIfInBounds_toArray,List.set_cons_zero,List.set_cons_succ]
 refine wpAnyH_take (i:=7) (oi:=⟨_,_,_,_,_,_⟩) (v:=?vva7) rfl (by kernel_rfl) (by kernel_rfl) (by kernel_rfl) (fun _ _ _ h => h) (Or.inl ⟨by rfl,?yya7⟩) T.out ?_
 case yya7 => (intro w' hw'; go_simp; try with_reducible rfl)
 try simp only [Act.put,List.setIfInBounds_toArray,List.set_cons_zero,List.set_cons_succ]
 refine wpAnyH_done (by kernel_rfl) ?_ _
 clear d0 d1 d2 d3 d4 D4 C1 KS KH1 KH2
 obtain ⟨W2,hW2⟩ : ∃ z : World,z = w2:=⟨_,rfl⟩
 subst hW2
 have T1:=Lib.hid T.out
 have HW2:=Lib.hid (HW1.out.keep T.out)
 have HT2:=Lib.hid (HT1.out.below T.out)
 have KT1:=Lib.hid (fun w => text_any ((hd o.h : Int) + 1) (i64_handle (by omega)) w)
 have KT2:=Lib.hid (fun w => text_any (kk : Int) (i64_nat (by omega)) w)
 have KT3:=Lib.hid (fun w => text_any sd ⟨by omega,by omega⟩ w)
 have hL:=numLine3 vAdd ((hd o.h : Int) + 1) (kk : Int) sd
 rw [vAdd_sp] at hL
 have z1:=numT_size ((hd o.h : Int) + 1) ⟨by omega,by omega⟩
 have z2:=numT_size (kk : Int) ⟨by omega,by omega⟩
 have z3:=numT_size sd ⟨by omega,by omega⟩
 have he0 : errOf c sd = 0:=by
   unfold errOf
   rw [if_neg]
   rintro ⟨e1,e2⟩
   have:=smallD_nn c o.d e1
   rw [HSD.out] at this
   omega
 have KL:=fun (w' : World) (hbw : Below W2.heap.size W2 w') => line_add (HW2.out.keep hbw).agg (HT2.out.below hbw) (show hd o.h < 20 by omega) hs kk (Nat.lt_of_lt_of_le hk64 (Nat.pow_le_pow_right (n:=2) (by decide) hk)) sd b 1048575 hf hb ⟨by omega,by omega⟩ (by decide) (by omega) he0 (by omega)
 simp only [hL] at KL
 generalize numT ((hd o.h : Int) + 1) = s1 at *
 generalize numT (kk : Int) = s2 at *
 generalize numT sd = s3 at *
 have n1 : ¬ 9223372036854775807 < 4 + s1.size:=by omega
 have n2 : ¬ 9223372036854775807 < 4 + s1.size + 1:=by omega
 have n3 : ¬ 9223372036854775807 < 4 + s1.size + 1 + s2.size:=by omega
 have n4 : ¬ 9223372036854775807 < 4 + s1.size + 1 + s2.size + 1:=by omega
 have n5 : ¬ 9223372036854775807 < 4 + s1.size + 1 + s2.size + 1 + s3.size:=by omega
 have KL:=Lib.hid KL
 clear hL z1 z2 z3 he0
 go_upto_region 22 with fail
 have A0:=Lib.hid (show ∀ w',Below W2.heap.size W2 w' → w'.cell? ⟨x,0,none⟩ = some (.pointer (some ⟨a,0,none⟩)) from fun w' hb => (HW2.out.keep hb).cells.1)
 have T:=Lib.hid (Below.refl W2.heap.size W2).drew
 have hwr : IntKind.i64.wrap ((hd o.h : Int) + 1) = (hd o.h : Int) + 1:=IntWalk.i64_in _ (by omega)
 have hwk : IntKind.i64.wrap (kk : Int) = (kk : Int):=IntWalk.i64_in _ (by omega)
 refine wp_region_held (S:=fun w' => w'.cell? ⟨x,0,none⟩ = some (.pointer (some ⟨a,0,none⟩))) (by kernel_rfl) ?_
 refine wpAnyH_take (i:=0) (oi:=⟨_,_,_,_,_,_⟩) (v:=?vvb0) rfl (by kernel_rfl) (by kernel_rfl) (by kernel_rfl) (fun _ _ _ h => h) (Or.inl ⟨by rfl,?yyb0⟩) (A0.out _ T.out) ?_
 case yyb0 => (intro w' hw'; go_simp; try with_reducible rfl)
 try simp only [Act.put,List.setIfInBounds_toArray,List.set_cons_zero,List.set_cons_succ]
 refine wpAnyH_take (i:=1) (oi:=⟨_,_,_,_,_,_⟩) (v:=?vvb1) rfl (by kernel_rfl) (by kernel_rfl) (by kernel_rfl) (fun _ _ _ h => h) (Or.inl ⟨by rfl,?yyb1⟩) (A0.out _ T.out) ?_
 case yyb1 => (intro w' hw'; go_simp; try with_reducible rfl)
 try simp only [Act.put,List.setIfInBounds_toArray,List.set_cons_zero,List.set_cons_succ]
 refine wpAnyH_take (i:=2) (oi:=⟨_,_,_,_,_,_⟩) (v:=?vvb2) rfl (by kernel_rfl) (by kernel_rfl) (by kernel_rfl) (fun _ _ _ h => h) (Or.inl ⟨by rfl,?yyb2⟩) (A0.out _ T.out) ?_
 case yyb2 => (intro w' hw'; go_simp; try with_reducible rfl)
 try simp only [Act.put,List.setIfInBounds_toArray,List.set_cons_zero,List.set_cons_succ]
 refine wpAnyH_take (i:=3) (oi:=⟨_,_,_,_,_,_⟩) (v:=?vvb3) rfl (by kernel_rfl) (by kernel_rfl) (by kernel_rfl) (fun _ _ _ h => h) (Or.inl ⟨by rfl,?yyb3⟩) (A0.out _ T.out) ?_
 case yyb3 => (intro w' hw'; have c0:=hw'; go_simp; try with_reducible rfl)
 try simp only [Act.put,List.setIfInBounds_toArray,List.set_cons_zero,List.set_cons_succ]
 refine wpAnyH_take (i:=4) (oi:=⟨_,_,_,_,_,_⟩) (v:=?vvb4) rfl (by kernel_rfl) (by kernel_rfl) (by kernel_rfl) (fun _ _ _ h => h) (Or.inl ⟨by rfl,?yyb4⟩) (A0.out _ T.out) ?_
 case yyb4 => (intro w' hw'; go_simp; try with_reducible rfl)
 try simp only [Act.put,List.setIfInBounds_toArray,List.set_cons_zero,List.set_cons_succ]
 refine wpAnyH_take (i:=5) (oi:=⟨_,_,_,_,_,_⟩) (v:=?vvb5) rfl (by kernel_rfl) (by kernel_rfl) (by kernel_rfl) (fun _ _ _ h => h) (Or.inl ⟨by rfl,?yyb5⟩) (A0.out _ T.out) ?_
 case yyb5 => (intro w' hw'; go_simp; try with_reducible rfl)
 try simp only [Act.put,List.setIfInBounds_toArray,List.set_cons_zero,List.set_cons_succ]
 refine wpAnyH_take (i:=9) (oi:=⟨_,_,_,_,_,_⟩) (v:=?vvb9) rfl (by kernel_rfl) (by kernel_rfl) (by kernel_rfl) (fun _ _ _ h => h) (Or.inl ⟨by rfl,?yyb9⟩) (A0.out _ T.out) ?_
 case yyb9 => (intro w' hw'; go_simp; try with_reducible rfl)
 try simp only [Act.put,List.setIfInBounds_toArray,List.set_cons_zero,List.set_cons_succ]
 refine wpAnyH_take (i:=10) (oi:=⟨_,_,_,_,_,_⟩) (v:=?vvb10) rfl (by kernel_rfl) (by kernel_rfl) (by kernel_rfl) (fun _ _ _ h => h) (Or.inl ⟨by rfl,?yyb10⟩) (A0.out _ T.out) ?_
 case yyb10 => (intro w' hw'; go_simp; try with_reducible rfl)
 try simp only [Act.put,List.setIfInBounds_toArray,List.set_cons_zero,List.set_cons_succ]
 refine wpAnyH_take (i:=14) (oi:=⟨_,_,_,_,_,_⟩) (v:=?vvb14) rfl (by kernel_rfl) (by kernel_rfl) (by kernel_rfl) (fun _ _ _ h => h) (Or.inl ⟨by rfl,?yyb14⟩) (A0.out _ T.out) ?_
 case yyb14 => (intro w' hw'; go_simp; try with_reducible rfl)
 try simp only [Act.put,List.setIfInBounds_toArray,List.set_cons_zero,List.set_cons_succ]
 refine wpAnyH_ready (rs:=[6]) (by kernel_rfl) (by simp) ?_
 refine AllReadyH.cons (o:=⟨_,_,_,_,_,_⟩) rfl (fun K hK => ?_) AllReadyH.nil
 go_simp
 with_reducible refine (KT1.out _).mono ?_
 rintro e w3 ⟨rfl,hb⟩
 have T:=Lib.hid (T.out.then hb)
 clear hb
 refine hK.out _ _ (A0.out _ T.out) (fun hHeld => ?_)
 clear hK K hHeld
 try simp only [Act.put,List.setIfInBounds_toArray,List.set_cons_zero,List.set_cons_succ]
 refine wpAnyH_take (i:=7) (oi:=⟨_,_,_,_,_,_⟩) (v:=?vvb7) rfl (by kernel_rfl) (by kernel_rfl) (by kernel_rfl) (fun _ _ _ h => h) (Or.inl ⟨by rfl,?yyb7⟩) (A0.out _ T.out) ?_
 case yyb7 => (intro w' hw'; go_simp; try with_reducible rfl)
 try simp only [Act.put,List.setIfInBounds_toArray,List.set_cons_zero,List.set_cons_succ]
 refine wpAnyH_take (i:=8) (oi:=⟨_,_,_,_,_,_⟩) (v:=?vvb8) rfl (by kernel_rfl) (by kernel_rfl) (by kernel_rfl) (fun _ _ _ h => h) (Or.inl ⟨by rfl,?yyb8⟩) (A0.out _ T.out) ?_
 case yyb8 => (intro w' hw'; go_simp; try with_reducible rfl)
 try simp only [Act.put,List.setIfInBounds_toArray,List.set_cons_zero,List.set_cons_succ]
 refine wpAnyH_ready (rs:=[11]) (by kernel_rfl) (by simp) ?_
 refine AllReadyH.cons (o:=⟨_,_,_,_,_,_⟩) rfl (fun K hK => ?_) AllReadyH.nil
 go_simp
 with_reducible refine (KT2.out _).mono ?_
 rintro e w3 ⟨rfl,hb⟩
 have T:=Lib.hid (T.out.then hb)
 clear hb
 refine hK.out _ _ (A0.out _ T.out) (fun hHeld => ?_)
 clear hK K hHeld
 try simp only [Act.put,List.setIfInBounds_toArray,List.set_cons_zero,List.set_cons_succ]
 refine wpAnyH_take (i:=12) (oi:=⟨_,_,_,_,_,_⟩) (v:=?vvb12) rfl (by kernel_rfl) (by kernel_rfl) (by kernel_rfl) (fun _ _ _ h => h) (Or.inl ⟨by rfl,?yyb12⟩) (A0.out _ T.out) ?_
 case yyb12 => (intro w' hw'; go_simp; try with_reducible rfl)
 try simp only [Act.put,List.setIfInBounds_toArray,List.set_cons_zero,List.set_cons_succ]
 refine wpAnyH_take (i:=13) (oi:=⟨_,_,_,_,_,_⟩) (v:=?vvb13) rfl (by kernel_rfl) (by kernel_rfl) (by kernel_rfl) (fun _ _ _ h => h) (Or.inl ⟨by rfl,?yyb13⟩) (A0.out _ T.out) ?_
 case yyb13 => (intro w' hw'; go_simp; try with_reducible rfl)
 try simp only [Act.put,List.setIfInBounds_toArray,List.set_cons_zero,List.set_cons_succ]
 refine wpAnyH_ready (rs:=[15]) (by kernel_rfl) (by simp) ?_
 refine AllReadyH.cons (o:=⟨_,_,_,_,_,_⟩) rfl (fun K hK => ?_) AllReadyH.nil
 go_simp
 with_reducible refine (KT3.out _).mono ?_
 rintro e w3 ⟨rfl,hb⟩
 have T:=Lib.hid (T.out.then hb)
 clear hb
 refine hK.out _ _ (A0.out _ T.out) (fun hHeld => ?_)
 clear hK K hHeld
 try simp only [Act.put,List.setIfInBounds_toArray,List.set_cons_zero,List.set_cons_succ]
 refine wpAnyH_take (i:=16) (oi:=⟨_,_,_,_,_,_⟩) (v:=?vvb16) rfl (by kernel_rfl) (by kernel_rfl) (by kernel_rfl) (fun _ _ _ h => h) (Or.inl ⟨by rfl,?yyb16⟩) (A0.out _ T.out) ?_
 case yyb16 => (intro w' hw'; go_simp; try with_reducible rfl)
 try simp only [Act.put,List.setIfInBounds_toArray,List.set_cons_zero,List.set_cons_succ]
 refine wpAnyH_ready (rs:=[17]) (by kernel_rfl) (by simp) ?_
 refine AllReadyH.cons (o:=⟨_,_,_,_,_,_⟩) rfl (fun K hK => ?_) AllReadyH.nil
 go_simp
 with_reducible refine (KL.out _ T.out).mono ?_
 rintro e w4 ⟨rfl,hA,hu⟩
 have HW4:=Lib.hid ((HW2.out.keep T.out).line hA hu (by rw [List.length_set]; exact HW2.out.three))
 have HU4:=Lib.hid hu
 have A4:=Lib.hid HW4.out.cells.1
 clear hA hu
 refine hK.out _ _ A4.out (fun hHeld => ?_)
 clear hK K hHeld
 try simp only [Act.put,List.setIfInBounds_toArray,List.set_cons_zero,List.set_cons_succ]
 refine wpAnyH_take (i:=18) (oi:=⟨_,_,_,_,_,_⟩) (v:=?vvb18) rfl (by kernel_rfl) (by kernel_rfl) (by kernel_rfl) (fun _ _ _ h => h) (Or.inl ⟨by rfl,?yyb18⟩) A4.out ?_
 case yyb18 => (intro w' hw'; go_simp; try with_reducible rfl)
 try simp only [Act.put,List.setIfInBounds_toArray,List.set_cons_zero,List.set_cons_succ]
 refine wpAnyH_take (i:=19) (oi:=⟨_,_,_,_,_,_⟩) (v:=?vvb19) rfl (by kernel_rfl) (by kernel_rfl) (by kernel_rfl) (fun _ _ _ h => h) (Or.inl ⟨by rfl,?yyb19⟩) A4.out ?_
 case yyb19 => (intro w' hw'; go_simp; try with_reducible rfl)
 try simp only [Act.put,List.setIfInBounds_toArray,List.set_cons_zero,List.set_cons_succ]
 refine wpAnyH_take (i:=20) (oi:=⟨_,_,_,_,_,_⟩) (v:=?vvb20) rfl (by kernel_rfl) (by kernel_rfl) (by kernel_rfl) (fun _ _ _ h => h) (Or.inl ⟨by rfl,?yyb20⟩) A4.out ?_
 case yyb20 => (intro w' hw'; go_simp; try with_reducible rfl)
 try simp only [Act.put,List.setIfInBounds_toArray,List.set_cons_zero,List.set_cons_succ]
 refine wpAnyH_take (i:=21) (oi:=⟨_,_,_,_,_,_⟩) (v:=?vvb21) rfl (by kernel_rfl) (by kernel_rfl) (by kernel_rfl) (fun _ _ _ h => h) (Or.inl ⟨by rfl,?yyb21⟩) A4.out ?_
 case yyb21 => (intro w' hw'; go_simp; try with_reducible rfl)
 try simp only [Act.put,List.setIfInBounds_toArray,List.set_cons_zero,List.set_cons_succ]
 refine wpAnyH_take (i:=22) (oi:=⟨_,_,_,_,_,_⟩) (v:=?vvb22) rfl (by kernel_rfl) (by kernel_rfl) (by kernel_rfl) (fun _ _ _ h => h) (Or.inl ⟨by rfl,?yyb22⟩) A4.out ?_
 case yyb22 => (intro w' hw'; go_simp; try with_reducible rfl)
 try simp only [Act.put,List.setIfInBounds_toArray,List.set_cons_zero,List.set_cons_succ]
 refine wpAnyH_done (by kernel_rfl) ?_ _
 clear KT1 KT2 KT3 KL n1 n2 n3 n4 n5 hwr hwk A0 A4
 obtain ⟨W4,hW4⟩ : ∃ z : World,z = w4:=⟨_,rfl⟩
 subst hW4
 go_upto_region 23 with fail
 have hk64i : (kk : Int) < 64:=by omega
 have hKey:=fun (w' : World) (hb : Below W4.heap.size W4 w') => (HW4.out.keep hb).key (i:=64 * hd o.h + kk) (by omega)
 have HFz:=Lib.hid (fun (w' : World) (hb : Below W4.heap.size W4 w') => (HW4.out.keep hb).frozen (6 + (64 * hd o.h + kk)))
 have HSt:=Lib.hid (fun (w' : World) (hb : Below W4.heap.size W4 w') (v : Int) => (HW4.out.keep hb).set (i:=64 * hd o.h + kk) (by omega) v)
 have hgb:=hG.getD hb (64 * hd o.h + kk)
 have HBu:=Lib.hid (show ∀ d,G.set (64 * hd o.h + kk) (G.getD (64 * hd o.h + kk) 0 + d) = bump G (64 * hd o.h + kk) d from fun d => rfl)
 generalize hj : G.getD (64 * hd o.h + kk) 0 = gj at *
 have hwg : IntKind.i64.wrap (gj + sd) = gj + sd:=IntWalk.i64_in _ (by omega)
 have hoff : 6 + (64 * hd o.h + kk) = 6 + hd o.h * 64 + kk:=by omega
 rw [hoff] at hKey HFz HSt
 have c0:=hKey _ (Below.refl _ _)
 have c1:=hKey _ (Below.refl W4.heap.size W4).drew
 clear hKey
 have HK:=Lib.hid hoff
 clear hoff
 have c2:=HFz.out _ (Below.refl _ _)
 have c3:=HFz.out _ (Below.refl W4.heap.size W4).drew
 go_still_tail 17,(by kernel_rfl)
 change wpList _ _ _ _ _ W4.drew
 go_wp2_with fail
 go_ret
 have HV:=(HSt.out _ (Below.refl W4.heap.size W4) (gj + sd)).keep (Below.refl _ _).drew
 rw [HBu.out] at HV
 refine ⟨by rw [bDone_eq]; rfl,by rw [HSD.out]; exact HV,?_⟩
 have u1:=Upd.of_below (S:=WB x a m S) ((HB1.out.trans ((T1.out.trans (T.out.mono T1.out.size)).mono HB1.out.size)))
 have u2:=HU4.out.mono (fun k hk => (Or.inr hk : WB x a m S k))
 exact ((u1.trans u2).trans (Upd.store _ x _ _ (Or.inl rfl))).drew
end Go.Proofs.YtejaocnhekjfiaaGreatDoor
namespace Go.Proofs.YtejaocnhekjfiaaGreatDoor
open Go.RowKit
set_option linter.unusedVariables false
open S25 (I64 numLine LineOk Tabs PlainW)
def ar64 (R : List Int) : Array Value:=(R.map iw).toArray
theorem ar64_size (R : List Int) : (ar64 R).size = R.length:=by simp [ar64]
theorem ar64_get (R : List Int) (i : Nat) (h : i < R.length) : (ar64 R)[i]? = some (.int .i64 (R.getD i 0)):=by
 simp only [ar64,List.getElem?_toArray,List.getElem?_map,List.getElem?_eq_getElem h,List.getD_eq_getElem?_getD]; rfl
theorem ar64_one (R : List Int) : (ar64 R).all (·.oneCell') = true:=by
 rw [Array.all_eq_true_iff_forall_mem]
 intro v hv
 simp [ar64] at hv
 obtain ⟨i,_,rfl⟩:=hv
 rfl
def z64 : Array Value:=ar64 (List.replicate 64 0)
theorem z64_size : z64.size = 64:=by rw [z64,ar64_size]; rfl
theorem zero31 (w : World) : (zeroValue 31).run Tryz.prog w = .ok (.agg z64) w:=by kernel_rfl
attribute [irreducible] z64
theorem info31 : (Tryz.prog.info? 31).map (·.size) = some 64:=by kernel_rfl
theorem wpList_load64 {ops : Array Oper} {rest : List Oper} {op : Oper} {a : Act} {w : World} {Q : Exit → Act → World → Prop} (hgd : op.guard = none) (x : Operand) (ho : op.op = .load 31 x)
   (b o : Nat) (hx : a.eval x = .pointer (some ⟨b,o,none⟩)) (R : List Int) (hR : R.length = 64) (hc : w.rangeAt b o (R.map iw))
   (h : wpList Tryz.prog ops Q rest (a.put op.dst (.agg (ar64 R))) w) : wpList Tryz.prog ops Q (op :: rest) a w:=
 wpList_load_mid hgd 31 x ho b o hx _ _ hc Tryz.underlying31 rfl (by rw [List.length_map,hR]; exact info31) h
attribute [irreducible] ar64
def rowG (G : List Int) (h : Nat) : List Int:=(List.range 64).map fun k => G.getD (64 * h + k) 0
theorem rowG_len (G : List Int) (h : Nat) : (rowG G h).length = 64:=by simp [rowG]
theorem rowG_getD (G : List Int) (h k : Nat) (hk : k < 64) : (rowG G h).getD k 0 = G.getD (64 * h + k) 0:=by
 rw [List.getD_eq_getElem?_getD]; simp [rowG,hk]
theorem WIs.range {w : World} {base x a m : Nat} {c : Cfg} {S : List SI} {G : List Int} (h : WIs w base x a m c S G) {i : Nat} (hi : i < 3) : w.rangeAt x (6 + i * 64) ((rowG G i).map iw):=fun j v hv => by
 have hj : j < 64:=by have:=(List.getElem?_eq_some_iff.1 hv).1; rw [List.length_map,rowG_len] at this; exact this
 have e : v = .int .i64 (G.getD (64 * i + j) 0):=by
   rw [List.getElem?_map] at hv
   simp [rowG,hj] at hv
   rw [← hv]; simp [iw]
 rw [e,show 6 + i * 64 + j = 6 + (64 * i + j) by omega]
 exact h.key (by omega)
def stG (f : Int → Int → Int) (G R : List Int) (h n : Nat) : List Int:=(List.range 192).map fun i => if 64 * h ≤ i ∧ i < 64 * h + n then f (G.getD i 0) (R.getD (i - 64 * h) 0) else G.getD i 0
theorem stG_len (f : Int → Int → Int) (G R : List Int) (h n : Nat) : (stG f G R h n).length = 192:=by simp [stG]
theorem stG_getD (f : Int → Int → Int) (G R : List Int) (h n i : Nat) (hi : i < 192) : (stG f G R h n).getD i 0 = if 64 * h ≤ i ∧ i < 64 * h + n then f (G.getD i 0) (R.getD (i - 64 * h) 0) else G.getD i 0:=by
 rw [List.getD_eq_getElem?_getD]; simp [stG,hi]
theorem list_ext_getD {l k : List Int} (n : Nat) (hl : l.length = n) (hk : k.length = n) (h : ∀ i,i < n → l.getD i 0 = k.getD i 0) : l = k:=by
 apply List.ext_getElem?
 intro i
 by_cases hi : i < n
 · have:=h i hi
   rw [List.getD_eq_getElem?_getD,List.getD_eq_getElem?_getD,List.getElem?_eq_getElem (by omega),List.getElem?_eq_getElem (by omega)] at this
   rw [List.getElem?_eq_getElem (by omega),List.getElem?_eq_getElem (by omega)]
   simpa using this
 · rw [List.getElem?_eq_none (by omega),List.getElem?_eq_none (by omega)]
theorem stG_zero (f : Int → Int → Int) (G R : List Int) (h : Nat) (hG : G.length = 192) : stG f G R h 0 = G:=
 list_ext_getD 192 (stG_len ..) hG fun i hi => by rw [stG_getD _ _ _ _ _ _ hi,if_neg (by omega)]
theorem stG_set (f : Int → Int → Int) (G R : List Int) (h n : Nat) (hn : 64 * h + n < 192) : (stG f G R h n).set (64 * h + n) (f (G.getD (64 * h + n) 0) (R.getD n 0)) = stG f G R h (n + 1):=
 list_ext_getD 192 (by rw [List.length_set,stG_len]) (stG_len ..) fun i hi => by
   rw [stG_getD _ _ _ _ _ _ hi]
   by_cases e : i = 64 * h + n
   · subst e
     rw [if_pos (by omega),List.getD_eq_getElem?_getD,List.getElem?_set_self (by rw [stG_len]; exact hi)]
     simp [show 64 * h + n - 64 * h = n by omega]
   · rw [List.getD_eq_getElem?_getD,List.getElem?_set_ne (by omega),← List.getD_eq_getElem?_getD,stG_getD _ _ _ _ _ _ hi]
     by_cases hh : 64 * h ≤ i ∧ i < 64 * h + n
     · rw [if_pos hh,if_pos (by omega)]
     · rw [if_neg hh,if_neg (by omega)]
theorem stG_next (f : Int → Int → Int) (G R : List Int) (h n : Nat) (hn : 64 * h + n < 192) : (stG f G R h n).getD (64 * h + n) 0 = G.getD (64 * h + n) 0:=by
 rw [stG_getD _ _ _ _ _ _ hn,if_neg (by omega)]
def pairG (f : Int → Int → Int) (G : List Int) (h o : Nat) : List Int:=stG f G (rowG G o) h 64
def RowAt (w : World) (k : Nat) (R : List Int) : Prop:=w.heap[k]? = some (.cells (ar64 R) 31 (0,0))
theorem RowAt.cell {w k R} (h : RowAt w k R) {i : Nat} (hi : i < R.length) : w.cell? ⟨k,i,none⟩ = some (.int .i64 (R.getD i 0)):=by rw [cell_of_row _ _ _ _ _ _ h,ar64_get _ _ hi]
theorem FitL.rowG {b : Int} {G : List Int} (hG : FitL b G) (hb : 0 ≤ b) (h : Nat) : FitL b (rowG G h):=fun v hv => by
 simp only [Go.Proofs.YtejaocnhekjfiaaGreatDoor.rowG,List.mem_map] at hv
 obtain ⟨k,_,rfl⟩:=hv
 exact hG.getD hb _
theorem numLine2 (v : ByteArray) (x y : Int) : numLine v [x,y] = (((v ++ ⟨#[32]⟩) ++ numT x) ++ ⟨#[32]⟩) ++ numT y:=by
 show S25.lineW v [numT x,numT y] = _
 rw [S25.lineW_eq]
 show v ++ ((⟨#[32]⟩ : ByteArray) ++ (numT x ++ ((⟨#[32]⟩ : ByteArray) ++ (numT y ++ ⟨#[]⟩)))) = _
 simp only [ByteArray.append_assoc]
 congr 5
 apply ByteArray.ext; rw [ByteArray.data_append]; exact Array.append_empty
theorem vMerge_sp : vMerge ++ (⟨#[32]⟩ : ByteArray) = ⟨#[109,101,114,103,101,32]⟩:=by decide
theorem vSubtract_sp : vSubtract ++ (⟨#[32]⟩ : ByteArray) = ⟨#[115,117,98,116,114,97,99,116,32]⟩:=by decide
theorem numT_digit (i : Nat) (h : i < 10) : numT (i : Int) = ⟨#[UInt8.ofNat (48 + i)]⟩:=by rw [← numT_small,Lib.decDigits_one h]
theorem errT3_eq : ((errT 3).toList == [101,114,114,111,114,32,51]) = true:=by
 rw [ByteArray.toList_eq,errT,show numT 3 = _ from numT_digit 3 (by decide)]; decide
end Go.Proofs.YtejaocnhekjfiaaGreatDoor
namespace Go.Proofs.YtejaocnhekjfiaaGreatDoor
open Go.RowKit
set_option linter.unusedVariables false
def cutCfg (r wd : Int) (sd md : Nat) : Cfg:=⟨6,1 + (r % 65536).toNat % 4,1 + (wd % 65536).toNat % 9,md,sd⟩
theorem cutCfg_ok (r wd : Int) {sd md : Nat} (hs : sd < 18446744073709551616) (h1 : 1 ≤ md) (h3 : md ≤ 3) : (cutCfg r wd sd md).ok:=by
 refine ⟨?_,?_,?_,?_,?_,?_,h1,h3,hs⟩ <;> simp only [cutCfg] <;> omega
set_option maxRecDepth 100000 in
set_option maxHeartbeats 2000000 in
theorem any_cfg (b r wd m : Int) (sd md : Nat) (w : World) : Calls Tryz.prog 29 #[.agg #[.int .i64 b,.int .i64 r,.int .i64 wd,.int .i64 m,.int .u64 sd],.int .i64 6,.int .i64 9] w fun e w' =>
   (∃ b' m' : Int,e = .returned (.agg #[.int .i64 b',.int .i64 (cutCfg r wd sd md).rows,.int .i64 (cutCfg r wd sd md).width,.int .i64 m',.int .u64 sd])) ∧ Below w.heap.size w w':=by
 have e0:=and_65535 b
 have e1:=and_65535 r
 have e2:=and_65535 wd
 have e3:=and_65535 m
 have HR:=Lib.hid (show IntKind.i64.wrap (1 + (((r % 65536).toNat : Nat) : Int).tmod 4) = (((cutCfg r wd sd md).rows : Nat) : Int) by rw [Int.tmod_eq_emod_of_nonneg (by omega),IntWalk.i64_in _ (by omega)]; simp only [cutCfg]; omega)
 have HD:=Lib.hid (show IntKind.i64.wrap (1 + (((wd % 65536).toNat : Nat) : Int).tmod 9) = (((cutCfg r wd sd md).width : Nat) : Int) by rw [Int.tmod_eq_emod_of_nonneg (by omega),IntWalk.i64_in _ (by omega)]; simp only [cutCfg]; omega)
 have l0 : (0 : Int) ≤ ((b % 65536).toNat : Int):=by omega
 have l1 : (0 : Int) ≤ ((r % 65536).toNat : Int):=by omega
 have l2 : (0 : Int) ≤ ((wd % 65536).toNat : Int):=by omega
 have l3 : (0 : Int) ≤ ((m % 65536).toNat : Int):=by omega
 have u0 : ((b % 65536).toNat : Int) ≤ 65535:=by omega
 have u1 : ((r % 65536).toNat : Int) ≤ 65535:=by omega
 have u2 : ((wd % 65536).toNat : Int) ≤ 65535:=by omega
 have u3 : ((m % 65536).toNat : Int) ≤ 65535:=by omega
 generalize (b % 65536).toNat = n0 at *
 generalize (r % 65536).toNat = n1 at *
 generalize (wd % 65536).toNat = n2 at *
 generalize (m % 65536).toNat = n3 at *
 generalize (cutCfg r wd sd md).rows = R at *
 generalize (cutCfg r wd sd md).width = W at *
 have hb1:=(heap_alloc_old (w.alloc (.cells #[.int .i64 b,.int .i64 r,.int .i64 wd,.int .i64 m,.int .u64 sd] 24)) (.cells #[.int .i64 0,.int .i64 0,.int .i64 0,.int .i64 0,.int .u64 0] 24) (by simp)).trans (heap_alloc_new w (.cells #[.int .i64 b,.int .i64 r,.int .i64 wd,.int .i64 m,.int .u64 sd] 24))
 have hb2:=heap_alloc_new (w.alloc (.cells #[.int .i64 b,.int .i64 r,.int .i64 wd,.int .i64 m,.int .u64 sd] 24)) (.cells #[.int .i64 0,.int .i64 0,.int .i64 0,.int .i64 0,.int .u64 0] 24)
 rw [World.size_alloc] at hb2
 have HB:=Lib.hid (((Below.refl _ w).alloc (Nat.le_refl _) (.cells #[.int .i64 b,.int .i64 r,.int .i64 wd,.int .i64 m,.int .u64 sd] 24)).alloc (by simp) (.cells #[.int .i64 0,.int .i64 0,.int .i64 0,.int .i64 0,.int .u64 0] 24))
 generalize hW : (w.alloc (.cells #[.int .i64 b,.int .i64 r,.int .i64 wd,.int .i64 m,.int .u64 sd] 24)).alloc (.cells #[.int .i64 0,.int .i64 0,.int .i64 0,.int .i64 0,.int .u64 0] 24) = W1 at *
 have c0 : W1.cell? ⟨w.heap.size,0,none⟩ = some (.int .i64 b):=(cell_of_row _ _ _ _ _ _ hb1).trans rfl
 have c1 : W1.cell? ⟨w.heap.size,1,none⟩ = some (.int .i64 r):=(cell_of_row _ _ _ _ _ _ hb1).trans rfl
 have c2 : W1.cell? ⟨w.heap.size,2,none⟩ = some (.int .i64 wd):=(cell_of_row _ _ _ _ _ _ hb1).trans rfl
 have c3 : W1.cell? ⟨w.heap.size,3,none⟩ = some (.int .i64 m):=(cell_of_row _ _ _ _ _ _ hb1).trans rfl
 have c4 : W1.cell? ⟨w.heap.size,4,none⟩ = some (.int .u64 sd):=(cell_of_row _ _ _ _ _ _ hb1).trans rfl
 have HN:=Lib.hid hb2
 clear hb1 hb2
 go_enter Tryz.func29,Tryz.ntmps29
 go_upto_region 1 with fail
 go_still_tail 25,(by kernel_rfl)
 change wpList _ _ _ _ _ W1.drew
 refine wpList_store_row rfl 24 (.tmp 6) (.tmp 31) rfl (w.heap.size + 1) _ rfl rfl 24 _ HN.out rfl rfl ?h1 ?_
 case h1 => simp [Value.oneCell']
 go_wp2_with fail
 refine bodyPost_ret (v:=.agg _) (results_cell_row rfl _ _ (w.heap.size + 1) 24 _ _ _ rfl (setRow_heap W1.drew _ _ _ _ _ HN.out) Tryz.underlying24 rfl rfl) rfl ⟨⟨_,_,by rw [← HR.out,← HD.out]⟩,S02.below_row HB.out.drew (by omega) _⟩
end Go.Proofs.YtejaocnhekjfiaaGreatDoor
namespace Go.Proofs.YtejaocnhekjfiaaGreatDoor
open Go.RowKit
set_option linter.unusedVariables false
open S25 (I64 numLine LineOk Tabs PlainW)
theorem yieldsIf_build {P : Program} {ops : Array Oper} {S : World → Prop} {op : Oper} {a : Act} (hw : Region.wanted op (yielded ops a.tmps) = true) (t : TypeId) (parts : Array (Nat × Operand)) (ho : op.op = .build t parts)
   (cells : Array Value) (hb : P.built t (parts.toList.map fun (i,x) => (i,a.eval x)) = some cells) : YieldsIf P ops S op (.agg cells) a:=
 .inl ⟨hw,fun w hw' => by
   have hb' : P.built t (parts.map fun (i,x) => (i,a.eval x)).toList = some cells:=by rw [Array.toList_map]; exact hb
   unfold execOp
   simp only [ho,Sem.run_bind,run_build w t _ cells hb',Result.andThen_ok]
   rfl⟩
def wZero (a : Nat) (b r wd m : Int) (s : Int) : Array Value:=([Value.pointer (some ⟨a,0,none⟩),.int .i64 b,.int .i64 r,.int .i64 wd,.int .i64 m,.int .u64 s] ++ List.replicate 192 (Value.int .i64 0)).toArray
theorem built35 (a : Nat) (b r wd m s : Int) : Tryz.prog.built 35 [(0,.pointer (some ⟨a,0,none⟩)),(1,.agg #[.int .i64 b,.int .i64 r,.int .i64 wd,.int .i64 m,.int .u64 s])] = some (wZero a b r wd m s):=by kernel_rfl
theorem wZero_is (a : Nat) (c : Cfg) : wZero a c.bits c.rows c.width c.mode c.seed = (wCells a c (List.replicate 192 0)).toArray:=by
 unfold wZero wCells; rw [List.map_replicate]; rfl
attribute [irreducible] wZero
theorem numLine5 (v : ByteArray) (x y z u t : Int) : numLine v [x,y,z,u,t] = (((((((((v ++ ⟨#[32]⟩) ++ numT x) ++ ⟨#[32]⟩) ++ numT y) ++ ⟨#[32]⟩) ++ numT z) ++ ⟨#[32]⟩) ++ numT u) ++ ⟨#[32]⟩) ++ numT t:=by
 show S25.lineW v [numT x,numT y,numT z,numT u,numT t] = _
 rw [S25.lineW_eq]
 show v ++ ((⟨#[32]⟩ : ByteArray) ++ (numT x ++ ((⟨#[32]⟩ : ByteArray) ++ (numT y ++ ((⟨#[32]⟩ : ByteArray) ++ (numT z ++ ((⟨#[32]⟩ : ByteArray) ++ (numT u ++ ((⟨#[32]⟩ : ByteArray) ++ (numT t ++ ⟨#[]⟩)))))))))) = _
 simp only [ByteArray.append_assoc]
 congr 11
 apply ByteArray.ext; rw [ByteArray.data_append]; exact Array.append_empty
theorem vCreate_sp : ((vCreate ++ (⟨#[32]⟩ : ByteArray)) ++ numT 6) ++ (⟨#[32]⟩ : ByteArray) = ⟨#[99,114,101,97,116,101,32,54,32]⟩:=by
 rw [show numT 6 = _ from numT_digit 6 (by decide)]; decide
theorem bHandle_eq (s : ByteArray) : ((bHandle ++ s).toList == ((⟨#[104,97,110,100,108,101,32]⟩ : ByteArray) ++ s).toList) = true:=by simp [bHandle]
structure Mk (w : World) (base x a m : Nat) (c : Cfg) (S : List SI) (k : Nat) : Prop where
 blk : w.heap[x]? = some (.cells (wCells a c (List.replicate 192 0)).toArray 35 (0,0))
 agg : AggIs w base a m c S
 len : S.length = k
 zero : ∀ s ∈ S,s.C = zeroC c
 lo : base ≤ x
theorem Mk.keep {w w' : World} {base x a m : Nat} {c : Cfg} {S : List SI} {k : Nat} (h : Mk w base x a m c S k) (hb : Below w.heap.size w w') : Mk w' base x a m c S k:=
 ⟨(hb.block _ (lt_of_block h.blk)).trans h.blk,h.agg.keep hb,h.len,h.zero,h.lo⟩
theorem Mk.cell {w : World} {base x a m : Nat} {c : Cfg} {S : List SI} {k : Nat} (h : Mk w base x a m c S k) : w.cell? ⟨x,0,none⟩ = some (.pointer (some ⟨a,0,none⟩)):=(cell_of_row _ _ _ _ _ _ h.blk).trans rfl
theorem Mk.line {w w' : World} {base x a m : Nat} {c : Cfg} {S : List SI} {k : Nat} (h : Mk w base x a m c S k) {s : SI} (hs : s.C = zeroC c) (hA : AggIs w' base a m c (S ++ [s])) (hu : Upd (AggB a m S) w w') : Mk w' base x a m c (S ++ [s]) (k + 1):=
 ⟨hu.heap h.blk (h.agg.no x h.blk (by decide) (by decide)),hA,by simp [h.len],fun t ht => by
   rcases List.mem_append.1 ht with h1 | h1
   · exact h.zero t h1
   · simp at h1; rw [h1]; exact hs,h.lo⟩
set_option maxRecDepth 100000 in
set_option maxHeartbeats 4000000 in
theorem made_any (b r wd m0 : Int) (sd md : Nat) (w : World) (hT : Tabs w) (hs : sd < 18446744073709551616) (h1 : 1 ≤ md) (h3 : md ≤ 3) :
   Calls Tryz.prog 9 #[.agg #[.int .i64 b,.int .i64 r,.int .i64 wd,.int .i64 m0,.int .u64 sd],.int .i64 md] w fun e w' => ∃ (x a m : Nat) (S : List SI),e = .returned (.pointer (some ⟨x,0,none⟩)) ∧
     WIs w' w.heap.size x a m (cutCfg r wd sd md) S (List.replicate 192 0) ∧ (∀ s ∈ S,s.C = zeroC (cutCfg r wd sd md)) ∧ Below w.heap.size w w':=by
 have KA:=Lib.hid (any_cfg b r wd m0 sd md)
 have HC:=Lib.hid (cutCfg_ok r wd hs h1 h3)
 have HT:=Lib.hid hT
 have HS:=Lib.hid hs
 have hbits : (cutCfg r wd sd md).bits = 6:=rfl
 have hmode : (cutCfg r wd sd md).mode = md:=rfl
 have hseed : (cutCfg r wd sd md).seed = sd:=rfl
 clear hT hs
 generalize hcc : cutCfg r wd sd md = c at *
 clear hcc
 obtain ⟨R,hR⟩ : ∃ q,c.rows = q:=⟨_,rfl⟩
 obtain ⟨W,hW⟩ : ∃ q,c.width = q:=⟨_,rfl⟩
 rw [hR,hW] at KA
 have hR4 : R ≤ 8:=hR ▸ HC.out.r8
 have hW9 : W ≤ 128:=hW ▸ HC.out.w8
 have HR:=Lib.hid hR
 have HW:=Lib.hid hW
 have HBI:=Lib.hid hbits
 have HMO:=Lib.hid hmode
 have HSE:=Lib.hid hseed
 clear hR hW hbits hmode hseed
 go_enter Tryz.func9,Tryz.ntmps9
 go_wp2_with fail
 refine (KA.out _).mono ?_
 rintro e w1 ⟨⟨b',m',rfl⟩,hb1⟩
 have HB1:=Lib.hid (((Below.refl w.heap.size w).alloc (Nat.le_refl _) (.cells #[.int .i64 b,.int .i64 r,.int .i64 wd,.int .i64 m0,.int .u64 sd] 24)).trans (hb1.mono (by simp)))
 clear hb1
 go_upto_region 4 with fail
 have HBC:=Lib.hid (heap_alloc_new w1 (.cells #[.int .i64 6,.int .i64 R,.int .i64 W,.int .i64 md,.int .u64 sd] 24))
 have HB2:=Lib.hid (HB1.out.alloc HB1.out.size (.cells #[.int .i64 6,.int .i64 R,.int .i64 W,.int .i64 md,.int .u64 sd] 24))
 have HLE:=Lib.hid HB1.out.size
 generalize w1.alloc (.cells #[.int .i64 6,.int .i64 R,.int .i64 W,.int .i64 md,.int .u64 sd] 24) = W2 at *
 generalize w1.heap.size = BC at *
 clear HB1
 have HL2:=Lib.hid HB2.out.size
 have CC:=Lib.hid (show ∀ w',Below W2.heap.size W2 w' → w'.cell? ⟨BC,0,none⟩ = some (.int .i64 6) ∧ w'.cell? ⟨BC,1,none⟩ = some (.int .i64 R) ∧ w'.cell? ⟨BC,2,none⟩ = some (.int .i64 W) ∧ w'.cell? ⟨BC,3,none⟩ = some (.int .i64 md) ∧ w'.cell? ⟨BC,4,none⟩ = some (.int .u64 sd) from fun w' hb =>
   have h:=(hb.block _ (lt_of_block HBC.out)).trans HBC.out
   ⟨(cell_of_row _ _ _ _ _ _ h).trans rfl,(cell_of_row _ _ _ _ _ _ h).trans rfl,(cell_of_row _ _ _ _ _ _ h).trans rfl,(cell_of_row _ _ _ _ _ _ h).trans rfl,(cell_of_row _ _ _ _ _ _ h).trans rfl⟩)
 have KN:=Lib.hid (show ∀ w',Below W2.heap.size W2 w' → Calls Tryz.prog 30 #[] w' fun e w'' => ∃ a m,e = .returned (.pointer (some ⟨a,0,none⟩)) ∧ AggIs w'' w.heap.size a m c [] ∧ Below w'.heap.size w' w'' from fun w' hb =>
   (new_any c w.heap.size w' (Nat.le_trans HL2.out hb.size)).mono (fun e w'' h => ⟨_,_,h.1,h.2.1,h.2.2⟩))
 have T:=Lib.hid (Below.refl W2.heap.size W2).drew
 refine wp_region_phase (by kernel_rfl) ?_
 refine wpAnyH_take (i:=1) (oi:=⟨_,_,_,_,_,_⟩) (v:=?vva1) rfl (by kernel_rfl) (by kernel_rfl) (by kernel_rfl) (fun _ _ _ h => h) (Or.inl ⟨by rfl,?yya1⟩) T.out ?_
 case yya1 => (intro w' hw'; obtain ⟨c0,c1,c2,c3,c4⟩:=CC.out w' hw'; go_simp; try with_reducible rfl)
 try simp only [Act.put,List.setIfInBounds_toArray,List.set_cons_zero,List.set_cons_succ]
 refine wpAnyH_ready (rs:=[0]) (by kernel_rfl) (by simp) ?_
 refine AllReadyH.cons (o:=⟨_,_,_,_,_,_⟩) rfl (fun K hK => ?_) AllReadyH.nil
 go_simp
 with_reducible refine (KN.out _ T.out).mono ?_
 rintro e w3 ⟨a,m,rfl,hA,hb⟩
 have HA:=Lib.hid hA
 have T:=Lib.hid (T.out.then hb)
 clear hA hb
 refine hK.out _ _ T.out (fun hHeld => ?_)
 clear hK K hHeld
 try simp only [Act.put,List.setIfInBounds_toArray,List.set_cons_zero,List.set_cons_succ]
 refine wpAnyH_take (i:=2) (oi:=⟨_,_,_,_,_,_⟩) (v:=.agg (wZero a 6 R W md sd)) rfl (by kernel_rfl) (by kernel_rfl) (by kernel_rfl) (fun _ _ _ h => h) (yieldsIf_build (by rfl) 35 #[(0,.tmp 15),(1,.tmp 16)] rfl _ (built35 a 6 R W md sd)) T.out ?_
 try simp only [Act.put,List.setIfInBounds_toArray,List.set_cons_zero,List.set_cons_succ]
 refine wpAnyH_ready (rs:=[3]) (by kernel_rfl) (by simp) ?_
 refine AllReadyH.cons (o:=⟨_,_,_,_,_,_⟩) rfl (fun K hK => ?_) AllReadyH.nil
 go_simp
 refine hK.out _ _ (T.out.alloc T.out.size _) (fun hHeld => ?_)
 clear hK K hHeld
 try simp only [Act.put,List.setIfInBounds_toArray,List.set_cons_zero,List.set_cons_succ]
 have T4:=Lib.hid (T.out.alloc T.out.size (.cells (wZero a 6 R W md sd) 35))
 refine wpAnyH_take (i:=4) (oi:=⟨_,_,_,_,_,_⟩) (v:=?vva4) rfl (by kernel_rfl) (by kernel_rfl) (by kernel_rfl) (fun _ _ _ h => h) (Or.inl ⟨by rfl,?yya4⟩) T4.out ?_
 case yya4 => (intro w' hw'; go_simp; try with_reducible rfl)
 try simp only [Act.put,List.setIfInBounds_toArray,List.set_cons_zero,List.set_cons_succ]
 refine wpAnyH_done (by kernel_rfl) ?_ _
 obtain ⟨W3,hW3⟩ : ∃ z : World,z = w3:=⟨_,rfl⟩
 subst hW3
 have hz4:=wZero_is a c
 rw [HBI.out,HR.out,HW.out,HMO.out,HSE.out] at hz4
 have hz4 : wZero a 6 R W md sd = _:=hz4
 have hx4:=heap_alloc_new W3 (.cells (wZero a 6 R W md sd) 35)
 rw [hz4] at hx4
 have HL3:=Lib.hid (Nat.le_trans HL2.out T.out.size)
 have HM4:=Lib.hid (show Mk (W3.alloc (.cells (wZero a 6 R W md sd) 35)) w.heap.size W3.heap.size a m c [] 0 from
   ⟨by rw [hz4]; exact hx4,HA.out.keep ((Below.refl _ _).alloc (Nat.le_refl _) _),rfl,by simp,HL3.out⟩)
 have HT4:=Lib.hid ((HT.out.below HB2.out).below T4.out)
 have CC4:=Lib.hid (fun w' (hb : Below (W3.alloc (.cells (wZero a 6 R W md sd) 35)).heap.size (W3.alloc (.cells (wZero a 6 R W md sd) 35)) w') => CC.out w' (T4.out.then hb))
 have HBC4:=Lib.hid ((T4.out.block _ (lt_of_block HBC.out)).trans HBC.out)
 have HB4:=Lib.hid (HB2.out.trans (T4.out.mono HL2.out))
 clear hz4 hx4 CC HBC HB2 HA KN KA
 generalize W3.alloc (.cells (wZero a 6 R W md sd) 35) = W4 at *
 generalize W3.heap.size = x at *
 have a0:=HM4.out.cell
 go_wp2_with fail
 clear a0
 go_loopw [7] (fun u wr => ∃ k : Nat,k ≤ 3 ∧ u = .int .i64 ((k : Int) + 1) ∧ Hid (∃ S,Mk wr w.heap.size x a m c S k ∧ wr.heap[BC]? = some (.cells #[.int .i64 6,.int .i64 R,.int .i64 W,.int .i64 md,.int .u64 sd] 24 (0,0)) ∧ Below w.heap.size w wr)) (fun u _ => 4 - (intOf u).toNat)
 case atStart => exact ⟨0,by omega,by go_num,Lib.hid ⟨[],HM4.out,HBC4.out,HB4.out⟩⟩
 case round =>
   obtain ⟨k,hk,rfl,HKK⟩:=hrel
   obtain ⟨S,hM,hBC,hB⟩:=HKK.out
   clear HKK
   have HM:=Lib.hid hM
   have HBC:=Lib.hid hBC
   have HB:=Lib.hid hB
   clear hM hBC hB HM4 HBC4 HB4 HT4 CC4
   by_cases hlt : k < 3
   · have hle : (k : Int) + 1 ≤ 3:=by omega
     obtain ⟨sq,hsq⟩ : ∃ q : Int,IntKind.i64.wrap (sd : Int) = q:=⟨_,rfl⟩
     have hs0 : IntKind.u64.wrap sq = (sd : Int):=by rw [← hsq,IntKind.wrap_u64,IntKind.wrap_i64]; have:=HS.out; omega
     have hsI : I64 sq:=by rw [← hsq,IntKind.wrap_i64]; exact ⟨by omega,by omega⟩
     have hL:=numLine5 vCreate 6 (R : Int) (W : Int) (md : Int) sq
     rw [vCreate_sp] at hL
     have z1:=numT_size (R : Int) ⟨by omega,by omega⟩
     have z2:=numT_size (W : Int) ⟨by omega,by omega⟩
     have z3:=numT_size (md : Int) ⟨by omega,by omega⟩
     have z4:=numT_size sq hsI
     have KT1:=Lib.hid (fun w => text_any (R : Int) (i64_nat (by omega)) w)
     have KT2:=Lib.hid (fun w => text_any (W : Int) (i64_nat (by omega)) w)
     have KT3:=Lib.hid (fun w => text_any (md : Int) (i64_nat (by omega)) w)
     have KT4:=Lib.hid (fun w => text_any sq hsI w)
     have KT5:=Lib.hid (fun w => text_any ((k : Int) + 1) (i64_handle (by omega)) w)
     have KL:=fun (w' : World) (hbw : Below wr.heap.size wr w') => line_create HC.out (HM.out.keep hbw).agg ((HT.out.below HB.out).below hbw) (by have:=HM.out.len; omega) sq hsI (by rw [HSE.out]; exact hs0) (Nat.le_trans HB.out.size hbw.size)
     simp only [HBI.out,HR.out,HW.out,HMO.out,HM.out.len] at KL
     simp only [show ((6 : Nat) : Int) = 6 from rfl,hL] at KL
     have hcmp:=bHandle_eq (numT ((k : Int) + 1))
     have z5:=numT_size ((k : Int) + 1) ⟨by omega,by omega⟩
     generalize bHandle ++ numT ((k : Int) + 1) = sh at *
     generalize numT ((k : Int) + 1) = s5 at *
     generalize numT (R : Int) = s1 at *
     generalize numT (W : Int) = s2 at *
     generalize numT (md : Int) = s3 at *
     generalize numT sq = s4 at *
     have n1 : ¬ 9223372036854775807 < 9 + s1.size:=by omega
     have n2 : ¬ 9223372036854775807 < 9 + s1.size + 1:=by omega
     have n3 : ¬ 9223372036854775807 < 9 + s1.size + 1 + s2.size:=by omega
     have n4 : ¬ 9223372036854775807 < 9 + s1.size + 1 + s2.size + 1:=by omega
     have n5 : ¬ 9223372036854775807 < 9 + s1.size + 1 + s2.size + 1 + s3.size:=by omega
     have n6 : ¬ 9223372036854775807 < 9 + s1.size + 1 + s2.size + 1 + s3.size + 1:=by omega
     have n7 : ¬ 9223372036854775807 < 9 + s1.size + 1 + s2.size + 1 + s3.size + 1 + s4.size:=by omega
     have n8 : ¬ 9223372036854775807 < 7 + s5.size:=by omega
     have KL:=Lib.hid KL
     have HCM:=Lib.hid hcmp
     have HS0:=Lib.hid hs0
     clear hL z1 z2 z3 z4 z5 hcmp hs0 hsI
     go_upto_region 10 with fail
     have AC:=Lib.hid (show ∀ w',Below wr.heap.size wr w' → w'.cell? ⟨x,0,none⟩ = some (.pointer (some ⟨a,0,none⟩)) ∧ w'.cell? ⟨BC,1,none⟩ = some (.int .i64 R) ∧ w'.cell? ⟨BC,2,none⟩ = some (.int .i64 W) ∧ w'.cell? ⟨BC,3,none⟩ = some (.int .i64 md) ∧ w'.cell? ⟨BC,4,none⟩ = some (.int .u64 sd) from fun w' hb =>
       have h:=(hb.block _ (lt_of_block HBC.out)).trans HBC.out
       ⟨(HM.out.keep hb).cell,(cell_of_row _ _ _ _ _ _ h).trans rfl,(cell_of_row _ _ _ _ _ _ h).trans rfl,(cell_of_row _ _ _ _ _ _ h).trans rfl,(cell_of_row _ _ _ _ _ _ h).trans rfl⟩)
     have T:=Lib.hid (Below.refl wr.heap.size wr).drew
     refine wp_region_held (S:=fun w' => w'.cell? ⟨x,0,none⟩ = some (.pointer (some ⟨a,0,none⟩)) ∧ w'.cell? ⟨BC,1,none⟩ = some (.int .i64 R) ∧ w'.cell? ⟨BC,2,none⟩ = some (.int .i64 W) ∧ w'.cell? ⟨BC,3,none⟩ = some (.int .i64 md) ∧ w'.cell? ⟨BC,4,none⟩ = some (.int .u64 sd)) (by kernel_rfl) ?_
     refine wpAnyH_take (i:=0) (oi:=⟨_,_,_,_,_,_⟩) (v:=?vvd0) rfl (by kernel_rfl) (by kernel_rfl) (by kernel_rfl) (fun _ _ _ h => h) (Or.inl ⟨by rfl,?yyd0⟩) (AC.out _ T.out) ?_
     case yyd0 => (intro w' hw'; go_simp; try with_reducible rfl)
     try simp only [Act.put,List.setIfInBounds_toArray,List.set_cons_zero,List.set_cons_succ]
     refine wpAnyH_take (i:=1) (oi:=⟨_,_,_,_,_,_⟩) (v:=?vvd1) rfl (by kernel_rfl) (by kernel_rfl) (by kernel_rfl) (fun _ _ _ h => h) (Or.inl ⟨by rfl,?yyd1⟩) (AC.out _ T.out) ?_
     case yyd1 => (intro w' hw'; go_simp; try with_reducible rfl)
     try simp only [Act.put,List.setIfInBounds_toArray,List.set_cons_zero,List.set_cons_succ]
     refine wpAnyH_take (i:=2) (oi:=⟨_,_,_,_,_,_⟩) (v:=?vvd2) rfl (by kernel_rfl) (by kernel_rfl) (by kernel_rfl) (fun _ _ _ h => h) (Or.inl ⟨by rfl,?yyd2⟩) (AC.out _ T.out) ?_
     case yyd2 => (intro w' hw'; go_simp; try with_reducible rfl)
     try simp only [Act.put,List.setIfInBounds_toArray,List.set_cons_zero,List.set_cons_succ]
     refine wpAnyH_take (i:=3) (oi:=⟨_,_,_,_,_,_⟩) (v:=?vvd3) rfl (by kernel_rfl) (by kernel_rfl) (by kernel_rfl) (fun _ _ _ h => h) (Or.inl ⟨by rfl,?yyd3⟩) (AC.out _ T.out) ?_
     case yyd3 => (intro w' hw'; obtain ⟨q0,q1,q2,q3,q4⟩:=hw'; go_simp; try with_reducible rfl)
     try simp only [Act.put,List.setIfInBounds_toArray,List.set_cons_zero,List.set_cons_succ]
     refine wpAnyH_take (i:=4) (oi:=⟨_,_,_,_,_,_⟩) (v:=?vvd4) rfl (by kernel_rfl) (by kernel_rfl) (by kernel_rfl) (fun _ _ _ h => h) (Or.inl ⟨by rfl,?yyd4⟩) (AC.out _ T.out) ?_
     case yyd4 => (intro w' hw'; go_simp; try with_reducible rfl)
     try simp only [Act.put,List.setIfInBounds_toArray,List.set_cons_zero,List.set_cons_succ]
     refine wpAnyH_take (i:=5) (oi:=⟨_,_,_,_,_,_⟩) (v:=?vvd5) rfl (by kernel_rfl) (by kernel_rfl) (by kernel_rfl) (fun _ _ _ h => h) (Or.inl ⟨by rfl,?yyd5⟩) (AC.out _ T.out) ?_
     case yyd5 => (intro w' hw'; obtain ⟨q0,q1,q2,q3,q4⟩:=hw'; go_simp; try with_reducible rfl)
     try simp only [Act.put,List.setIfInBounds_toArray,List.set_cons_zero,List.set_cons_succ]
     refine wpAnyH_take (i:=9) (oi:=⟨_,_,_,_,_,_⟩) (v:=?vvd9) rfl (by kernel_rfl) (by kernel_rfl) (by kernel_rfl) (fun _ _ _ h => h) (Or.inl ⟨by rfl,?yyd9⟩) (AC.out _ T.out) ?_
     case yyd9 => (intro w' hw'; go_simp; try with_reducible rfl)
     try simp only [Act.put,List.setIfInBounds_toArray,List.set_cons_zero,List.set_cons_succ]
     refine wpAnyH_take (i:=10) (oi:=⟨_,_,_,_,_,_⟩) (v:=?vvd10) rfl (by kernel_rfl) (by kernel_rfl) (by kernel_rfl) (fun _ _ _ h => h) (Or.inl ⟨by rfl,?yyd10⟩) (AC.out _ T.out) ?_
     case yyd10 => (intro w' hw'; obtain ⟨q0,q1,q2,q3,q4⟩:=hw'; go_simp; try with_reducible rfl)
     try simp only [Act.put,List.setIfInBounds_toArray,List.set_cons_zero,List.set_cons_succ]
     refine wpAnyH_take (i:=14) (oi:=⟨_,_,_,_,_,_⟩) (v:=?vvd14) rfl (by kernel_rfl) (by kernel_rfl) (by kernel_rfl) (fun _ _ _ h => h) (Or.inl ⟨by rfl,?yyd14⟩) (AC.out _ T.out) ?_
     case yyd14 => (intro w' hw'; go_simp; try with_reducible rfl)
     try simp only [Act.put,List.setIfInBounds_toArray,List.set_cons_zero,List.set_cons_succ]
     refine wpAnyH_take (i:=15) (oi:=⟨_,_,_,_,_,_⟩) (v:=?vvd15) rfl (by kernel_rfl) (by kernel_rfl) (by kernel_rfl) (fun _ _ _ h => h) (Or.inl ⟨by rfl,?yyd15⟩) (AC.out _ T.out) ?_
     case yyd15 => (intro w' hw'; obtain ⟨q0,q1,q2,q3,q4⟩:=hw'; go_simp; try with_reducible rfl)
     try simp only [Act.put,List.setIfInBounds_toArray,List.set_cons_zero,List.set_cons_succ]
     refine wpAnyH_take (i:=19) (oi:=⟨_,_,_,_,_,_⟩) (v:=?vvd19) rfl (by kernel_rfl) (by kernel_rfl) (by kernel_rfl) (fun _ _ _ h => h) (Or.inl ⟨by rfl,?yyd19⟩) (AC.out _ T.out) ?_
     case yyd19 => (intro w' hw'; go_simp; try with_reducible rfl)
     try simp only [Act.put,List.setIfInBounds_toArray,List.set_cons_zero,List.set_cons_succ]
     refine wpAnyH_take (i:=20) (oi:=⟨_,_,_,_,_,_⟩) (v:=?vvd20) rfl (by kernel_rfl) (by kernel_rfl) (by kernel_rfl) (fun _ _ _ h => h) (Or.inl ⟨by rfl,?yyd20⟩) (AC.out _ T.out) ?_
     case yyd20 => (intro w' hw'; obtain ⟨q0,q1,q2,q3,q4⟩:=hw'; go_simp; try with_reducible rfl)
     try simp only [Act.put,List.setIfInBounds_toArray,List.set_cons_zero,List.set_cons_succ]
     refine wpAnyH_take (i:=21) (oi:=⟨_,_,_,_,_,_⟩) (v:=?vvd21) rfl (by kernel_rfl) (by kernel_rfl) (by kernel_rfl) (fun _ _ _ h => h) (Or.inl ⟨by rfl,?yyd21⟩) (AC.out _ T.out) ?_
     case yyd21 => (intro w' hw'; go_simp; try with_reducible rfl)
     try simp only [Act.put,List.setIfInBounds_toArray,List.set_cons_zero,List.set_cons_succ]
     refine wpAnyH_ready (rs:=[6]) (by kernel_rfl) (by simp) ?_
     refine AllReadyH.cons (o:=⟨_,_,_,_,_,_⟩) rfl (fun K hK => ?_) AllReadyH.nil
     go_simp
     with_reducible refine (KT1.out _).mono ?_
     rintro e w3 ⟨rfl,hb⟩
     have T:=Lib.hid (T.out.then hb)
     clear hb
     refine hK.out _ _ (AC.out _ T.out) (fun hHeld => ?_)
     clear hK K hHeld
     try simp only [Act.put,List.setIfInBounds_toArray,List.set_cons_zero,List.set_cons_succ]
     refine wpAnyH_take (i:=7) (oi:=⟨_,_,_,_,_,_⟩) (v:=?vvd7) rfl (by kernel_rfl) (by kernel_rfl) (by kernel_rfl) (fun _ _ _ h => h) (Or.inl ⟨by rfl,?yyd7⟩) (AC.out _ T.out) ?_
     case yyd7 => (intro w' hw'; go_simp; try with_reducible rfl)
     try simp only [Act.put,List.setIfInBounds_toArray,List.set_cons_zero,List.set_cons_succ]
     refine wpAnyH_take (i:=8) (oi:=⟨_,_,_,_,_,_⟩) (v:=?vvd8) rfl (by kernel_rfl) (by kernel_rfl) (by kernel_rfl) (fun _ _ _ h => h) (Or.inl ⟨by rfl,?yyd8⟩) (AC.out _ T.out) ?_
     case yyd8 => (intro w' hw'; go_simp; try with_reducible rfl)
     try simp only [Act.put,List.setIfInBounds_toArray,List.set_cons_zero,List.set_cons_succ]
     refine wpAnyH_ready (rs:=[11]) (by kernel_rfl) (by simp) ?_
     refine AllReadyH.cons (o:=⟨_,_,_,_,_,_⟩) rfl (fun K hK => ?_) AllReadyH.nil
     go_simp
     with_reducible refine (KT2.out _).mono ?_
     rintro e w3 ⟨rfl,hb⟩
     have T:=Lib.hid (T.out.then hb)
     clear hb
     refine hK.out _ _ (AC.out _ T.out) (fun hHeld => ?_)
     clear hK K hHeld
     try simp only [Act.put,List.setIfInBounds_toArray,List.set_cons_zero,List.set_cons_succ]
     refine wpAnyH_take (i:=12) (oi:=⟨_,_,_,_,_,_⟩) (v:=?vvd12) rfl (by kernel_rfl) (by kernel_rfl) (by kernel_rfl) (fun _ _ _ h => h) (Or.inl ⟨by rfl,?yyd12⟩) (AC.out _ T.out) ?_
     case yyd12 => (intro w' hw'; go_simp; try with_reducible rfl)
     try simp only [Act.put,List.setIfInBounds_toArray,List.set_cons_zero,List.set_cons_succ]
     refine wpAnyH_take (i:=13) (oi:=⟨_,_,_,_,_,_⟩) (v:=?vvd13) rfl (by kernel_rfl) (by kernel_rfl) (by kernel_rfl) (fun _ _ _ h => h) (Or.inl ⟨by rfl,?yyd13⟩) (AC.out _ T.out) ?_
     case yyd13 => (intro w' hw'; go_simp; try with_reducible rfl)
     try simp only [Act.put,List.setIfInBounds_toArray,List.set_cons_zero,List.set_cons_succ]
     refine wpAnyH_ready (rs:=[16]) (by kernel_rfl) (by simp) ?_
     refine AllReadyH.cons (o:=⟨_,_,_,_,_,_⟩) rfl (fun K hK => ?_) AllReadyH.nil
     go_simp
     with_reducible refine (KT3.out _).mono ?_
     rintro e w3 ⟨rfl,hb⟩
     have T:=Lib.hid (T.out.then hb)
     clear hb
     refine hK.out _ _ (AC.out _ T.out) (fun hHeld => ?_)
     clear hK K hHeld
     try simp only [Act.put,List.setIfInBounds_toArray,List.set_cons_zero,List.set_cons_succ]
     refine wpAnyH_take (i:=17) (oi:=⟨_,_,_,_,_,_⟩) (v:=?vvd17) rfl (by kernel_rfl) (by kernel_rfl) (by kernel_rfl) (fun _ _ _ h => h) (Or.inl ⟨by rfl,?yyd17⟩) (AC.out _ T.out) ?_
     case yyd17 => (intro w' hw'; go_simp; try with_reducible rfl)
     try simp only [Act.put,List.setIfInBounds_toArray,List.set_cons_zero,List.set_cons_succ]
     refine wpAnyH_take (i:=18) (oi:=⟨_,_,_,_,_,_⟩) (v:=?vvd18) rfl (by kernel_rfl) (by kernel_rfl) (by kernel_rfl) (fun _ _ _ h => h) (Or.inl ⟨by rfl,?yyd18⟩) (AC.out _ T.out) ?_
     case yyd18 => (intro w' hw'; go_simp; try with_reducible rfl)
     try simp only [Act.put,List.setIfInBounds_toArray,List.set_cons_zero,List.set_cons_succ]
     refine wpAnyH_ready (rs:=[22]) (by kernel_rfl) (by simp) ?_
     refine AllReadyH.cons (o:=⟨_,_,_,_,_,_⟩) rfl (fun K hK => ?_) AllReadyH.nil
     go_simp
     with_reducible refine (KT4.out _).mono ?_
     rintro e w3 ⟨rfl,hb⟩
     have T:=Lib.hid (T.out.then hb)
     clear hb
     refine hK.out _ _ (AC.out _ T.out) (fun hHeld => ?_)
     clear hK K hHeld
     try simp only [Act.put,List.setIfInBounds_toArray,List.set_cons_zero,List.set_cons_succ]
     refine wpAnyH_take (i:=23) (oi:=⟨_,_,_,_,_,_⟩) (v:=?vvd23) rfl (by kernel_rfl) (by kernel_rfl) (by kernel_rfl) (fun _ _ _ h => h) (Or.inl ⟨by rfl,?yyd23⟩) (AC.out _ T.out) ?_
     case yyd23 => (intro w' hw'; go_simp; try with_reducible rfl)
     try simp only [Act.put,List.setIfInBounds_toArray,List.set_cons_zero,List.set_cons_succ]
     refine wpAnyH_ready (rs:=[24]) (by kernel_rfl) (by simp) ?_
     refine AllReadyH.cons (o:=⟨_,_,_,_,_,_⟩) rfl (fun K hK => ?_) AllReadyH.nil
     go_simp
     with_reducible refine (KL.out _ T.out).mono ?_
     rintro e w4 ⟨rfl,s,hz,hA,hu⟩
     have HM5:=Lib.hid ((HM.out.keep T.out).line hz hA hu)
     have HBC5:=Lib.hid (hu.heap ((T.out.block _ (lt_of_block HBC.out)).trans HBC.out) ((HM.out.keep T.out).agg.no _ ((T.out.block _ (lt_of_block HBC.out)).trans HBC.out) (by decide) (by decide)))
     have HB5:=Lib.hid (HB.out.trans ((T.out.mono HB.out.size).trans (hu.below (HM.out.keep T.out).agg.base (Nat.le_trans HB.out.size T.out.size))))
     have A4:=Lib.hid (show w4.cell? ⟨x,0,none⟩ = some (.pointer (some ⟨a,0,none⟩)) ∧ w4.cell? ⟨BC,1,none⟩ = some (.int .i64 R) ∧ w4.cell? ⟨BC,2,none⟩ = some (.int .i64 W) ∧ w4.cell? ⟨BC,3,none⟩ = some (.int .i64 md) ∧ w4.cell? ⟨BC,4,none⟩ = some (.int .u64 sd) from ⟨HM5.out.cell,(cell_of_row _ _ _ _ _ _ HBC5.out).trans rfl,(cell_of_row _ _ _ _ _ _ HBC5.out).trans rfl,(cell_of_row _ _ _ _ _ _ HBC5.out).trans rfl,(cell_of_row _ _ _ _ _ _ HBC5.out).trans rfl⟩)
     clear hA hu hz
     refine hK.out _ _ A4.out (fun hHeld => ?_)
     clear hK K hHeld
     try simp only [Act.put,List.setIfInBounds_toArray,List.set_cons_zero,List.set_cons_succ]
     refine wpAnyH_take (i:=25) (oi:=⟨_,_,_,_,_,_⟩) (v:=?vvd25) rfl (by kernel_rfl) (by kernel_rfl) (by kernel_rfl) (fun _ _ _ h => h) (Or.inl ⟨by rfl,?yyd25⟩) A4.out ?_
     case yyd25 => (intro w' hw'; go_simp; try with_reducible rfl)
     try simp only [Act.put,List.setIfInBounds_toArray,List.set_cons_zero,List.set_cons_succ]
     refine wpAnyH_take (i:=26) (oi:=⟨_,_,_,_,_,_⟩) (v:=?vvd26) rfl (by kernel_rfl) (by kernel_rfl) (by kernel_rfl) (fun _ _ _ h => h) (Or.inl ⟨by rfl,?yyd26⟩) A4.out ?_
     case yyd26 => (intro w' hw'; go_simp; try with_reducible rfl)
     try simp only [Act.put,List.setIfInBounds_toArray,List.set_cons_zero,List.set_cons_succ]
     refine wpAnyH_take (i:=27) (oi:=⟨_,_,_,_,_,_⟩) (v:=?vvd27) rfl (by kernel_rfl) (by kernel_rfl) (by kernel_rfl) (fun _ _ _ h => h) (Or.inl ⟨by rfl,?yyd27⟩) A4.out ?_
     case yyd27 => (intro w' hw'; go_simp; try with_reducible rfl)
     try simp only [Act.put,List.setIfInBounds_toArray,List.set_cons_zero,List.set_cons_succ]
     refine wpAnyH_take (i:=28) (oi:=⟨_,_,_,_,_,_⟩) (v:=?vvd28) rfl (by kernel_rfl) (by kernel_rfl) (by kernel_rfl) (fun _ _ _ h => h) (Or.inl ⟨by rfl,?yyd28⟩) A4.out ?_
     case yyd28 => (intro w' hw'; go_simp; try with_reducible rfl)
     try simp only [Act.put,List.setIfInBounds_toArray,List.set_cons_zero,List.set_cons_succ]
     refine wpAnyH_take (i:=29) (oi:=⟨_,_,_,_,_,_⟩) (v:=?vvd29) rfl (by kernel_rfl) (by kernel_rfl) (by kernel_rfl) (fun _ _ _ h => h) (Or.inl ⟨by rfl,?yyd29⟩) A4.out ?_
     case yyd29 => (intro w' hw'; go_simp; try with_reducible rfl)
     try simp only [Act.put,List.setIfInBounds_toArray,List.set_cons_zero,List.set_cons_succ]
     refine wpAnyH_done (by kernel_rfl) ?_ _
     clear KT1 KT2 KT3 KT4 n1 n2 n3 n4 n5 n6 n7 hsq
     have hcm:=HCM.out
     obtain ⟨W5,hW5⟩ : ∃ z : World,z = w4:=⟨_,rfl⟩
     subst hW5
     go_wp2_with fail
     refine (KT5.out _).mono ?_
     rintro e w6 ⟨rfl,hb6⟩
     have HM6:=Lib.hid (HM5.out.keep hb6)
     have HBC6:=Lib.hid ((hb6.block _ (lt_of_block HBC5.out)).trans HBC5.out)
     have HB6:=Lib.hid (HB5.out.then hb6)
     clear hb6
     go_wp2_with fail
     go_roundw
     case rel => exact ⟨k + 1,by omega,by go_num,Lib.hid ⟨_,HM6.out,HBC6.out,HB6.out⟩⟩
     case measure => simp [intOf]; omega
   · have hkk : k = 3:=by omega
     have hfa : ¬ ((k : Int) + 1 ≤ 3):=by omega
     subst hkk
     clear hlt
     go_wp2_with fail
     go_ret
     exact ⟨x,rfl,a,m,S,⟨HM.out.blk,by simp,HM.out.agg,HM.out.len,HM.out.lo⟩,HM.out.zero,HB.out⟩
end Go.Proofs.YtejaocnhekjfiaaGreatDoor
namespace Go.Proofs.YtejaocnhekjfiaaGreatDoor
open Go.RowKit
set_option linter.unusedVariables false
open S25 (I64 numLine LineOk Tabs PlainW)
set_option maxRecDepth 100000 in
set_option maxHeartbeats 4000000 in
theorem does_merge {w : World} {base x a m : Nat} {c : Cfg} {S : List SI} {G : List Int} (h : WIs w base x a m c S G) (hT : Tabs w) (hb10 : 10 ≤ base) (o : OpI) (h3 : o.kind = 3) {s t : SI} (hs : S[hd o.h]? = some s) (ht : S[hd o.o]? = some t) (b : Int)
   (f1 : ∀ zs ∈ s.C,FitL 4611686018427387903 zs) (f2 : ∀ zs ∈ t.C,FitL 4611686018427387903 zs) (hb : 0 ≤ b) (hbD : b ≤ 2305843009213693951) (hG : FitL b G) :
   Calls Tryz.prog 14 #[.pointer (some ⟨x,0,none⟩),opV o] w fun e w' => e = .returned (.bool true) ∧
     WIs w' base x a m c (S.set (hd o.h) { s with C:=List.zipWith (List.zipWith (· + ·)) s.C t.C }) (pairG (· + ·) G (hd o.h) (hd o.o)) ∧ Upd (WB x a m S) w w':=by
 have hb1:=(Below.refl w.heap.size w).alloc (Nat.le_refl _) (.cells #[.int .i64 o.kind,.int .i64 o.h,.int .i64 o.o,.int .u64 o.key,.int .i64 o.d] 42)
 have hbx:=heap_alloc_new w (.cells #[.int .i64 o.kind,.int .i64 o.h,.int .i64 o.o,.int .u64 o.key,.int .i64 o.d] 42)
 have hW1:=h.keep hb1
 have hT1:=hT.below hb1
 unfold opV
 rw [h3] at *
 generalize hW : w.alloc (.cells #[.int .i64 3,.int .i64 o.h,.int .i64 o.o,.int .u64 o.key,.int .i64 o.d] 42) = W1 at hb1 hbx hW1 hT1
 have HW:=Lib.hid hW
 have HX:=Lib.hid (show ∀ w',Below W1.heap.size W1 w' → w'.cell? ⟨w.heap.size,0,none⟩ = some (.int .i64 3) from fun w' hb => (hb.cell (p:=⟨w.heap.size,0,none⟩) (lt_of_block hbx)).trans ((cell_of_row _ _ _ _ _ _ hbx).trans rfl))
 have d0 : W1.cell? ⟨w.heap.size,0,none⟩ = some (.int .i64 3):=(cell_of_row _ _ _ _ _ _ hbx).trans rfl
 have d1 : W1.cell? ⟨w.heap.size,1,none⟩ = some (.int .i64 o.h):=(cell_of_row _ _ _ _ _ _ hbx).trans rfl
 have d2 : W1.cell? ⟨w.heap.size,2,none⟩ = some (.int .i64 o.o):=(cell_of_row _ _ _ _ _ _ hbx).trans rfl
 have HBX:=Lib.hid hbx
 have KH1:=Lib.hid (fun w => handle_any o.h w)
 have KH2:=Lib.hid (fun w => handle_any o.o w)
 have HW1:=Lib.hid hW1
 have HB1:=Lib.hid hb1
 have HT1:=Lib.hid hT1
 have hh3:=hd_lt o.h
 have ho3:=hd_lt o.o
 have HS:=Lib.hid hs
 have HTt:=Lib.hid ht
 have HF1:=Lib.hid f1
 have HF2:=Lib.hid f2
 have HGb:=Lib.hid hG
 generalize hd o.h = i at *
 generalize hd o.o = j at *
 have hok : ((i : Nat) : Int) < 3:=by omega
 have hoj : ((j : Nat) : Int) < 3:=by omega
 clear hb1 hbx hW1 hT1 h hT hs ht f1 f2 hG
 go_enter Tryz.func14,Tryz.ntmps14
 go_wp2_with fail
 clear hW
 refine (KH1.out _).mono ?_
 rintro e w' ⟨rfl,rfl⟩
 go_wp2_with fail
 refine (KH2.out _).mono ?_
 rintro e w' ⟨rfl,rfl⟩
 go_wp2_with fail
 have KT1:=Lib.hid (fun w => text_any ((i : Int) + 1) (i64_handle (by omega)) w)
 have KT2:=Lib.hid (fun w => text_any ((j : Int) + 1) (i64_handle (by omega)) w)
 have hL:=numLine2 vMerge ((i : Int) + 1) ((j : Int) + 1)
 rw [vMerge_sp] at hL
 have z1:=numT_size ((i : Int) + 1) ⟨by omega,by omega⟩
 have z2:=numT_size ((j : Int) + 1) ⟨by omega,by omega⟩
 have KL:=fun (w' : World) (hbw : Below W1.heap.size W1 w') => line_merge (HW1.out.keep hbw).agg (HT1.out.below hbw) (show i < 20 by omega) (show j < 20 by omega) HS.out HTt.out HF1.out HF2.out
 simp only [hL] at KL
 generalize numT ((i : Int) + 1) = s1 at *
 generalize numT ((j : Int) + 1) = s2 at *
 have n1 : ¬ 9223372036854775807 < 6 + s1.size:=by omega
 have n2 : ¬ 9223372036854775807 < 6 + s1.size + 1:=by omega
 have n3 : ¬ 9223372036854775807 < 6 + s1.size + 1 + s2.size:=by omega
 have KL:=Lib.hid KL
 clear hL z1 z2
 go_upto_region 7 with fail
 have A0:=Lib.hid (show ∀ w',Below W1.heap.size W1 w' → w'.cell? ⟨x,0,none⟩ = some (.pointer (some ⟨a,0,none⟩)) from fun w' hb => (HW1.out.keep hb).cells.1)
 have T:=Lib.hid (Below.refl W1.heap.size W1).drew
 have hwr : IntKind.i64.wrap ((i : Int) + 1) = (i : Int) + 1:=IntWalk.i64_in _ (by omega)
 have hwk : IntKind.i64.wrap ((j : Int) + 1) = (j : Int) + 1:=IntWalk.i64_in _ (by omega)
 refine wp_region_held (S:=fun w' => w'.cell? ⟨x,0,none⟩ = some (.pointer (some ⟨a,0,none⟩))) (by kernel_rfl) ?_
 refine wpAnyH_take (i:=0) (oi:=⟨_,_,_,_,_,_⟩) (v:=?vvb0) rfl (by kernel_rfl) (by kernel_rfl) (by kernel_rfl) (fun _ _ _ h => h) (Or.inl ⟨by rfl,?yyb0⟩) (A0.out _ T.out) ?_
 case yyb0 => (intro w' hw'; go_simp; try with_reducible rfl)
 try simp only [Act.put,List.setIfInBounds_toArray,List.set_cons_zero,List.set_cons_succ]
 refine wpAnyH_take (i:=1) (oi:=⟨_,_,_,_,_,_⟩) (v:=?vvb1) rfl (by kernel_rfl) (by kernel_rfl) (by kernel_rfl) (fun _ _ _ h => h) (Or.inl ⟨by rfl,?yyb1⟩) (A0.out _ T.out) ?_
 case yyb1 => (intro w' hw'; go_simp; try with_reducible rfl)
 try simp only [Act.put,List.setIfInBounds_toArray,List.set_cons_zero,List.set_cons_succ]
 refine wpAnyH_take (i:=2) (oi:=⟨_,_,_,_,_,_⟩) (v:=?vvb2) rfl (by kernel_rfl) (by kernel_rfl) (by kernel_rfl) (fun _ _ _ h => h) (Or.inl ⟨by rfl,?yyb2⟩) (A0.out _ T.out) ?_
 case yyb2 => (intro w' hw'; go_simp; try with_reducible rfl)
 try simp only [Act.put,List.setIfInBounds_toArray,List.set_cons_zero,List.set_cons_succ]
 refine wpAnyH_take (i:=3) (oi:=⟨_,_,_,_,_,_⟩) (v:=?vvb3) rfl (by kernel_rfl) (by kernel_rfl) (by kernel_rfl) (fun _ _ _ h => h) (Or.inl ⟨by rfl,?yyb3⟩) (A0.out _ T.out) ?_
 case yyb3 => (intro w' hw'; have c0:=hw'; go_simp; try with_reducible rfl)
 try simp only [Act.put,List.setIfInBounds_toArray,List.set_cons_zero,List.set_cons_succ]
 refine wpAnyH_take (i:=4) (oi:=⟨_,_,_,_,_,_⟩) (v:=?vvb4) rfl (by kernel_rfl) (by kernel_rfl) (by kernel_rfl) (fun _ _ _ h => h) (Or.inl ⟨by rfl,?yyb4⟩) (A0.out _ T.out) ?_
 case yyb4 => (intro w' hw'; go_simp; try with_reducible rfl)
 try simp only [Act.put,List.setIfInBounds_toArray,List.set_cons_zero,List.set_cons_succ]
 refine wpAnyH_take (i:=5) (oi:=⟨_,_,_,_,_,_⟩) (v:=?vvb5) rfl (by kernel_rfl) (by kernel_rfl) (by kernel_rfl) (fun _ _ _ h => h) (Or.inl ⟨by rfl,?yyb5⟩) (A0.out _ T.out) ?_
 case yyb5 => (intro w' hw'; go_simp; try with_reducible rfl)
 try simp only [Act.put,List.setIfInBounds_toArray,List.set_cons_zero,List.set_cons_succ]
 refine wpAnyH_take (i:=6) (oi:=⟨_,_,_,_,_,_⟩) (v:=?vvb6) rfl (by kernel_rfl) (by kernel_rfl) (by kernel_rfl) (fun _ _ _ h => h) (Or.inl ⟨by rfl,?yyb6⟩) (A0.out _ T.out) ?_
 case yyb6 => (intro w' hw'; go_simp; try with_reducible rfl)
 try simp only [Act.put,List.setIfInBounds_toArray,List.set_cons_zero,List.set_cons_succ]
 refine wpAnyH_take (i:=10) (oi:=⟨_,_,_,_,_,_⟩) (v:=?vvb10) rfl (by kernel_rfl) (by kernel_rfl) (by kernel_rfl) (fun _ _ _ h => h) (Or.inl ⟨by rfl,?yyb10⟩) (A0.out _ T.out) ?_
 case yyb10 => (intro w' hw'; go_simp; try with_reducible rfl)
 try simp only [Act.put,List.setIfInBounds_toArray,List.set_cons_zero,List.set_cons_succ]
 refine wpAnyH_take (i:=11) (oi:=⟨_,_,_,_,_,_⟩) (v:=?vvb11) rfl (by kernel_rfl) (by kernel_rfl) (by kernel_rfl) (fun _ _ _ h => h) (Or.inl ⟨by rfl,?yyb11⟩) (A0.out _ T.out) ?_
 case yyb11 => (intro w' hw'; go_simp; try with_reducible rfl)
 try simp only [Act.put,List.setIfInBounds_toArray,List.set_cons_zero,List.set_cons_succ]
 refine wpAnyH_ready (rs:=[7]) (by kernel_rfl) (by simp) ?_
 refine AllReadyH.cons (o:=⟨_,_,_,_,_,_⟩) rfl (fun K hK => ?_) AllReadyH.nil
 go_simp
 with_reducible refine (KT1.out _).mono ?_
 rintro e w3 ⟨rfl,hb⟩
 have T:=Lib.hid (T.out.then hb)
 clear hb
 refine hK.out _ _ (A0.out _ T.out) (fun hHeld => ?_)
 clear hK K hHeld
 try simp only [Act.put,List.setIfInBounds_toArray,List.set_cons_zero,List.set_cons_succ]
 refine wpAnyH_take (i:=8) (oi:=⟨_,_,_,_,_,_⟩) (v:=?vvb8) rfl (by kernel_rfl) (by kernel_rfl) (by kernel_rfl) (fun _ _ _ h => h) (Or.inl ⟨by rfl,?yyb8⟩) (A0.out _ T.out) ?_
 case yyb8 => (intro w' hw'; go_simp; try with_reducible rfl)
 try simp only [Act.put,List.setIfInBounds_toArray,List.set_cons_zero,List.set_cons_succ]
 refine wpAnyH_take (i:=9) (oi:=⟨_,_,_,_,_,_⟩) (v:=?vvb9) rfl (by kernel_rfl) (by kernel_rfl) (by kernel_rfl) (fun _ _ _ h => h) (Or.inl ⟨by rfl,?yyb9⟩) (A0.out _ T.out) ?_
 case yyb9 => (intro w' hw'; go_simp; try with_reducible rfl)
 try simp only [Act.put,List.setIfInBounds_toArray,List.set_cons_zero,List.set_cons_succ]
 refine wpAnyH_ready (rs:=[12]) (by kernel_rfl) (by simp) ?_
 refine AllReadyH.cons (o:=⟨_,_,_,_,_,_⟩) rfl (fun K hK => ?_) AllReadyH.nil
 go_simp
 with_reducible refine (KT2.out _).mono ?_
 rintro e w3 ⟨rfl,hb⟩
 have T:=Lib.hid (T.out.then hb)
 clear hb
 refine hK.out _ _ (A0.out _ T.out) (fun hHeld => ?_)
 clear hK K hHeld
 try simp only [Act.put,List.setIfInBounds_toArray,List.set_cons_zero,List.set_cons_succ]
 refine wpAnyH_take (i:=13) (oi:=⟨_,_,_,_,_,_⟩) (v:=?vvb13) rfl (by kernel_rfl) (by kernel_rfl) (by kernel_rfl) (fun _ _ _ h => h) (Or.inl ⟨by rfl,?yyb13⟩) (A0.out _ T.out) ?_
 case yyb13 => (intro w' hw'; go_simp; try with_reducible rfl)
 try simp only [Act.put,List.setIfInBounds_toArray,List.set_cons_zero,List.set_cons_succ]
 refine wpAnyH_ready (rs:=[14]) (by kernel_rfl) (by simp) ?_
 refine AllReadyH.cons (o:=⟨_,_,_,_,_,_⟩) rfl (fun K hK => ?_) AllReadyH.nil
 go_simp
 with_reducible refine (KL.out _ T.out).mono ?_
 rintro e w4 ⟨rfl,hA,hu⟩
 have HW4:=Lib.hid ((HW1.out.keep T.out).line hA hu (by rw [List.length_set]; exact HW1.out.three))
 have HU4:=Lib.hid (((Upd.of_below (S:=WB x a m S) (HB1.out.trans (T.out.mono HB1.out.size))).trans (hu.mono (fun k hk => (Or.inr hk : WB x a m S k)))))
 have A4:=Lib.hid HW4.out.cells.1
 have HXx:=Lib.hid (hu.heap ((T.out.block _ (lt_of_block HBX.out)).trans HBX.out) ((HW1.out.keep T.out).agg.no _ ((T.out.block _ (lt_of_block HBX.out)).trans HBX.out) (by decide) (by decide)))
 clear hA hu
 refine hK.out _ _ A4.out (fun hHeld => ?_)
 clear hK K hHeld
 try simp only [Act.put,List.setIfInBounds_toArray,List.set_cons_zero,List.set_cons_succ]
 refine wpAnyH_take (i:=15) (oi:=⟨_,_,_,_,_,_⟩) (v:=?vvb15) rfl (by kernel_rfl) (by kernel_rfl) (by kernel_rfl) (fun _ _ _ h => h) (Or.inl ⟨by rfl,?yyb15⟩) A4.out ?_
 case yyb15 => (intro w' hw'; go_simp; try with_reducible rfl)
 try simp only [Act.put,List.setIfInBounds_toArray,List.set_cons_zero,List.set_cons_succ]
 refine wpAnyH_take (i:=16) (oi:=⟨_,_,_,_,_,_⟩) (v:=?vvb16) rfl (by kernel_rfl) (by kernel_rfl) (by kernel_rfl) (fun _ _ _ h => h) (Or.inl ⟨by rfl,?yyb16⟩) A4.out ?_
 case yyb16 => (intro w' hw'; go_simp; try with_reducible rfl)
 try simp only [Act.put,List.setIfInBounds_toArray,List.set_cons_zero,List.set_cons_succ]
 refine wpAnyH_take (i:=17) (oi:=⟨_,_,_,_,_,_⟩) (v:=?vvb17) rfl (by kernel_rfl) (by kernel_rfl) (by kernel_rfl) (fun _ _ _ h => h) (Or.inl ⟨by rfl,?yyb17⟩) A4.out ?_
 case yyb17 => (intro w' hw'; go_simp; try with_reducible rfl)
 try simp only [Act.put,List.setIfInBounds_toArray,List.set_cons_zero,List.set_cons_succ]
 refine wpAnyH_take (i:=18) (oi:=⟨_,_,_,_,_,_⟩) (v:=?vvb18) rfl (by kernel_rfl) (by kernel_rfl) (by kernel_rfl) (fun _ _ _ h => h) (Or.inl ⟨by rfl,?yyb18⟩) A4.out ?_
 case yyb18 => (intro w' hw'; go_simp; try with_reducible rfl)
 try simp only [Act.put,List.setIfInBounds_toArray,List.set_cons_zero,List.set_cons_succ]
 refine wpAnyH_take (i:=19) (oi:=⟨_,_,_,_,_,_⟩) (v:=?vvb19) rfl (by kernel_rfl) (by kernel_rfl) (by kernel_rfl) (fun _ _ _ h => h) (Or.inl ⟨by rfl,?yyb19⟩) A4.out ?_
 case yyb19 => (intro w' hw'; go_simp; try with_reducible rfl)
 try simp only [Act.put,List.setIfInBounds_toArray,List.set_cons_zero,List.set_cons_succ]
 refine wpAnyH_done (by kernel_rfl) ?_ _
 clear KT1 KT2 KL n1 n2 n3 hwr hwk A0 A4 d0 d1 d2 HX
 obtain ⟨W4,hW4⟩ : ∃ z : World,z = w4:=⟨_,rfl⟩
 subst hW4
 have d0 : W4.cell? ⟨w.heap.size,0,none⟩ = some (.int .i64 3):=(cell_of_row _ _ _ _ _ _ HXx.out).trans rfl
 have dc:=HW4.out.cells.2.2.2.2.1
 have hbd:=bDone_eq
 have HR:=Lib.hid (HW4.out.range (i:=j) (by omega))
 have hz:=zero31
 go_upto_region 13 with (first | (refine wpList_load64 rfl (.tmp 70) rfl x (6 + j * 64) rfl _ (rowG_len G j) HR.out ?_) | (refine wpList_store_row rfl 31 (.tmp 10) (.tmp 71) rfl _ (ar64 (rowG G j)) rfl rfl 31 _ (heap_alloc_new _ _) (by rw [ar64_size,rowG_len]; exact info31) (by rw [z64_size,ar64_size,rowG_len]) (ar64_one _) ?_))
 have HR5:=Lib.hid (show RowAt ((W4.alloc (.cells z64 31)).setRow W4.heap.size (ar64 (rowG G j))) W4.heap.size (rowG G j) from setRow_heap _ _ _ _ _ _ (heap_alloc_new W4 (.cells z64 31)))
 have HB5:=Lib.hid (S02.below_row ((Below.refl W4.heap.size W4).alloc (Nat.le_refl _) (.cells z64 31)) (Nat.le_refl _) (ar64 (rowG G j)))
 generalize (W4.alloc (.cells z64 31)).setRow W4.heap.size (ar64 (rowG G j)) = W5 at *
 have HW5:=Lib.hid (HW4.out.keep HB5.out)
 have HXx5:=Lib.hid ((HB5.out.block _ (lt_of_block HXx.out)).trans HXx.out)
 have HU5:=Lib.hid (HU4.out.trans (Upd.of_below HB5.out))
 have HN1:=Lib.hid (show W4.heap.size ≠ x from fun e => by have:=HW4.out.blk; rw [← e] at this; have:=lt_of_block this; omega)
 have HN2:=Lib.hid (show w.heap.size ≠ x from fun e => by have:=HW4.out.blk; rw [← e,HXx.out] at this; simp at this)
 generalize W4.heap.size = B at *
 clear d0 dc hbd hz HR HB5 HU4 HXx HW4 HBX KH1 KH2 HS HTt HF1 HF2 HT1 HW1 HB1
 go_wp2_with fail
 go_loopw [11] (fun u wr => ∃ k : Nat,k ≤ 64 ∧ u = .int .i64 k ∧ Hid (WIs wr base x a m c (S.set i { s with C:=List.zipWith (List.zipWith (· + ·)) s.C t.C }) (stG (· + ·) G (rowG G j) i k)) ∧ Hid (Upd (· = x) W5 wr)) (fun u _ => 64 - (intOf u).toNat)
 case atStart => exact ⟨0,Nat.zero_le _,rfl,Lib.hid (by rw [stG_zero _ _ _ _ HW5.out.len]; exact HW5.out),Lib.hid (Upd.refl _ _)⟩
 case round =>
   obtain ⟨k,hk,rfl,HK,HU⟩:=hrel
   have d0 : wr.cell? ⟨w.heap.size,0,none⟩ = some (.int .i64 3):=(cell_of_row _ _ _ _ _ _ (HU.out.heap HXx5.out HN2.out)).trans rfl
   by_cases hlt : k < 64
   · have hkI : (k : Int) < 64:=by omega
     have hRr : RowAt wr B (rowG G j):=HU.out.heap HR5.out HN1.out
     have hR2 : RowAt wr.drew B (rowG G j):=hRr
     have hg0:=HGb.out.getD hb (64 * i + k)
     have hr0:=(HGb.out.rowG hb j).getD hb k
     have hkey:=HK.out.key (i:=64 * i + k) (by omega)
     rw [stG_next _ _ _ _ _ (by omega)] at hkey
     have hst:=(HK.out.set (i:=64 * i + k) (by omega) (G.getD (64 * i + k) 0 + (rowG G j).getD k 0)).keep (Below.refl _ _).drew
     have hset:=stG_set (· + ·) G (rowG G j) i k (by omega)
     have hset : (stG (· + ·) G (rowG G j) i k).set (64 * i + k) (G.getD (64 * i + k) 0 + (rowG G j).getD k 0) = stG (· + ·) G (rowG G j) i (k + 1):=hset
     rw [hset] at hst
     have hoff : 6 + (64 * i + k) = 6 + i * 64 + k:=by omega
     rw [hoff] at hkey hst
     have e0:=hRr.cell (i:=k) (by rw [rowG_len]; exact hlt)
     have e1:=hR2.cell (i:=k) (by rw [rowG_len]; exact hlt)
     have c2:=HK.out.frozen (6 + i * 64 + k)
     have hU2:=(HU.out.trans (Upd.store (S:=(· = x)) wr x (6 + i * 64 + k) (.int .i64 (G.getD (64 * i + k) 0 + (rowG G j).getD k 0)) rfl)).drew
     clear hset hoff
     generalize G.getD (64 * i + k) 0 = gk at *
     generalize (rowG G j).getD k 0 = rk at *
     have c0:=hkey
     have c1 : wr.drew.cell? ⟨x,6 + i * 64 + k,none⟩ = some (.int .i64 gk):=hkey
     have c3 : wr.drew.frozen? ⟨x,6 + i * 64 + k,none⟩ = false:=c2
     have hwg : IntKind.i64.wrap (gk + rk) = gk + rk:=IntWalk.i64_in _ (by omega)
     have HST:=Lib.hid hst
     have HU2:=Lib.hid hU2
     clear hst hU2 hkey hRr hR2
     go_upto_region 17 with fail
     go_still_tail 19,(by kernel_rfl)
     change wpList _ _ _ _ _ wr.drew
     go_wp2_with fail
     go_roundw
     case rel => exact ⟨k + 1,by omega,by go_num,HST,HU2⟩
     case measure => simp [intOf]; omega
   · have hkk : k = 64:=by omega
     have hfa : decide ((k : Int) < 64) = false:=by simp; omega
     have HF:=Lib.hid (show WIs wr base x a m c (S.set i { s with C:=List.zipWith (List.zipWith (· + ·)) s.C t.C }) (pairG (· + ·) G i j) by have t:=HK.out; rw [hkk] at t; exact t)
     clear hkk
     go_wp2_with fail
     go_ret
     exact ⟨rfl,HF.out,HU5.out.trans (HU.out.mono (fun k hk => Or.inl hk))⟩
end Go.Proofs.YtejaocnhekjfiaaGreatDoor
