/- TopInner returns true at every input that can be read; and its card. -/
import Derived.Test.YtejaocnhekjfiaaGreatDoorI02
import Derived.Test.YtejaocnhekjfiaaGreatDoorRows
import Derived.Test.YtejaocnhekjfiaaGreatDoorCards
import Derived.Test.YtejaocnhekjfiaaGreatDoorTie
import Derived.ProofKit
import Derived.Stop.Joined
import Derived.ShutString
import Derived.ChangeOld
import Derived.Below
import Derived.SevenTiedAt
namespace Go.Proofs.YtejaocnhekjfiaaGreatDoor.topInner
open Go.ChangeShapes Go.WideShapes Go.ChangeAt Go.RowKit
open Go.ChangeMaps (open_string shut_string)
set_option linter.unusedVariables false
theorem own : ownKnob Tryz.prog.godebug = none:=by kernel_rfl
theorem lo7 : laidOutB Tryz.prog = true:=by kernel_rfl
theorem list2 {α : Type} (l : List α) (h : l.toArray.size = 2) : ∃ c0 c1,l = [c0,c1]:=by
 match l,h with
 | [c0,c1],_ => exact ⟨c0,c1,rfl⟩
theorem z57 : Tryz.prog.cellsOf 57 = 2:=by kernel_rfl
theorem z3 : Tryz.prog.cellsOf 3 = 1:=by kernel_rfl
set_option maxRecDepth 100000 in
set_option maxHeartbeats 1000000 in
theorem lifted (os : Os) (started : os.Started) (H : Type) (enc : TypeId × Value → H) :
   ReturnsInHanded {} Tryz.checked os 6 .any (fun w args => (Rows.topInnerSpec.pre enc Tryz.prog Tryz.f6 [] false w args ∧ laidMetH Tryz.prog laid7 w) ∧ sizedMet enc Tryz.prog Tryz.f6 (OpenSpec.ofChange Rows.topInnerSpec) false w args)
     (Rows.topInnerSpec.post enc Tryz.prog Tryz.f6 false true false false):=by
 refine returnsInHanded_of_change_and (C:=Tryz.checked) (X:=fun w _ => laidMetH Tryz.prog laid7 w) (fun _ _ _ hh h => h.of_heap hh) own started (by kernel_rfl) Tryz.func6
   (ChangeSpec.witness_shaped (enc:=enc) (C:=Tryz.checked) (os:=os) (X:=fun w _ => laidMetH Tryz.prog laid7 w) false (laidWorld os) #[.agg #[.int .i64 0,.int .i64 0,.int .i64 0,.int .i64 0,.int .u64 0],.slice none 0 0,.agg #[.int .i64 0,.int .i64 0]] 8 rfl (World.shaped_of_RefB (by kernel_rfl) (by kernel_rfl)) (by kernel_rfl) (by kernel_rfl) (by kernel_rfl) (door_met os _)) ?_
 intro W base args ds gs before hval0 hW _ _ hL _
 have hval : ∀ (j : Nat) t v,Tryz.f6.params[j]? = some t → args[j]? = some v → Value.okWide Tryz.prog W .any base t v:=hval0
 have hW':=hW
 obtain ⟨p,q,hA0,hV,rfl,hfz,hnd⟩:=hW
 have hA : DataW.TrodAll enc Tryz.prog W 0 (fun _ => true) true Tryz.f6.params.toList args.toList ds p:=hA0
 rw [Tryz.params6] at hA hval
 obtain ⟨v0,vs0,d0,ds0,p0,q0,hargs,rfl,rfl,h0,rr0⟩:=trodAll_cons hA
 obtain ⟨v1,vs1,d1,ds1,p1,q1,rfl,rfl,rfl,h1,rr1⟩:=trodAll_cons rr0
 obtain ⟨v2,vs2,d2,ds2,p2,q2,rfl,rfl,rfl,h2,rr2⟩:=trodAll_cons rr1
 obtain ⟨rfl,rfl,rfl⟩:=trodAll_nil rr2
 obtain rfl : args = #[v0,v1,v2]:=by cases args; simp_all
 obtain ⟨rfl,rfl⟩:=trodVars_none hV
 have lt0 : ∀ x ∈ p0,x.block < W.heap.size:=by obtain ⟨m,hm⟩:=h0; exact DataW.trod_lt m _ _ _ hm
 obtain ⟨b0,r0,wd0,m0,sd0,rfl,hs0⟩:=open_cfg (hval 0 24 v0 rfl rfl) h0
 have lt1 : ∀ x ∈ p1,x.block < W.heap.size:=by obtain ⟨m,hm⟩:=h1; exact DataW.trod_lt m _ _ _ hm
 obtain ⟨a1,l1,cap1,rfl,ho1⟩:=open_ops (hval 1 25 v1 rfl rfl) h1
 have k2:=h2
 have lt2 : ∀ x ∈ p2,x.block < W.heap.size:=by obtain ⟨m,hm⟩:=k2; exact DataW.trod_lt m _ _ _ hm
 obtain ⟨cs2,rfl,hsz2,_⟩ : ∃ cs,v2 = .agg cs ∧ cs.size = Tryz.prog.cellsOf 57 ∧ Row.okWide Tryz.prog W .any base 57 cs:=by
   have:=hval 2 57 v2 rfl rfl
   simpa [Value.okWide,Tryz.underlying57] using this
 rw [z57] at hsz2
 obtain ⟨l2⟩:=cs2
 obtain ⟨c0,c1,rfl⟩:=list2 l2 hsz2
 obtain ⟨fuel2,hf2⟩:=h2
 obtain ⟨xs2,m2,_,hx2,_,hl2,hel2⟩:=DataW.trod_array Tryz.underlying57 hf2
 rw [z3] at hel2
 obtain ⟨y20,hy20⟩ : ∃ y,xs2[0]? = some y:=⟨_,List.getElem?_eq_getElem (by omega)⟩
 have g20:=hel2 0 (by omega)
 rw [hy20] at g20
 obtain ⟨a2_0,e20,_,w2_0⟩:=DataW.trod_int Tryz.underlying3 g20
 simp [Value.cells] at e20
 obtain ⟨y21,hy21⟩ : ∃ y,xs2[1]? = some y:=⟨_,List.getElem?_eq_getElem (by omega)⟩
 have g21:=hel2 1 (by omega)
 rw [hy21] at g21
 obtain ⟨a2_1,e21,_,w2_1⟩:=DataW.trod_int Tryz.underlying3 g21
 simp [Value.cells] at e21
 subst e20 e21
 have hT:=tabs_of_laid hL
 refine (topinner_any b0 r0 wd0 m0 sd0 W hT hs0 a1 l1 cap1 ho1 a2_0 a2_1).mono fun e W' ⟨he,bel⟩ => ?_
 subst he
 exact ⟨_,rfl,_,_,_,[],_,[],hW',trodAll_mk1 (shut_bool Tryz.underlying4 _),(trodAll_cons_mk (Below.trod lo7 (by kernel_rfl) (of_decide_eq_true (by kernel_rfl)) h0 bel lt0) (trodAll_cons_mk (Below.trod lo7 (by kernel_rfl) (of_decide_eq_true (by kernel_rfl)) h1 bel lt1) (trodAll_cons_mk (Below.trod lo7 (by kernel_rfl) (of_decide_eq_true (by kernel_rfl)) k2 bel lt2) trodAll_mk0))),rfl,bel.frame _,fun h => by cases h⟩
theorem and2 {a b : Bool} (ha : a = true) (hb : b = true) : (a && b) = true:=by rw [ha,hb]; rfl
set_option maxHeartbeats 20000000 in
set_option maxRecDepth 100000 in
theorem closed : joinedFacts Tryz.prog 6 Tryz.f6 Rows.topInnerSpec Rows.topInnerRow = true:=by
 unfold joinedFacts
 repeat' (with_reducible apply and2)
 all_goals (as_aux_lemma => kernel_rfl)
theorem named : Tryz.prog.funcNamed "gauger/gaugertop.TopInner" = some 6 := by kernel_rfl
theorem inst : (Tryz.f6).isInstance Tryz.prog Rows.topInnerRow.origin Rows.topInnerRow.targs:=of_decide_eq_true (by kernel_rfl)
theorem wrap : (Tryz.f6).isWrapper Tryz.prog Rows.topInnerRow.wrapper Rows.topInnerRow.mainSum:=by
 unfold Func.isWrapper; first | (rw [if_pos (by decide +kernel)]; kernel_rfl) | (rw [if_neg (by decide +kernel)]; exact ⟨rfl,rfl⟩)
theorem over : Rows.TopInnerSaid:=
 OpenClaim.holds_of_wide 6 Tryz.f6 rfl rfl rfl rfl rfl rfl rfl ⟨rfl,rfl,rfl,rfl,rfl⟩ rfl rfl rfl rfl rfl named Tryz.func6 closed inst wrap
   (fun os started H enc _ => lifted os started H enc)
theorem proved : Rows.TopInnerCardSaid:=
 Claim7.holds_tied_plain_at .later [] [.data,.data,.data,.data,.sentinel,.sentinel,.pinned] true (true, "b3bbf6cc72bcc2b640276ceb1a487a31f18ed8760ae2ced7450543b15a73aa88") true
   over (fun _ h => by cases h) (by kernel_rfl) (fun _ h => by cases h) topInner_row_tie rfl ⟨rfl,rfl⟩ (by kernel_rfl) rfl
   (fun f fn hf hfn => by
     obtain rfl : f = 6:=Option.some.inj (named.symm.trans hf) |>.symm
     obtain rfl : fn = Tryz.f6:=(Option.some.inj (Tryz.func6.symm.trans hfn)).symm
     exact ⟨by kernel_rfl,fun j t ht => by
       rw [Tryz.params6] at ht
       have h3 : t = 24 ∨ t = 25 ∨ t = 57:=by
         match j,ht with
         | 0,ht => simp at ht; simp [← ht]
         | 1,ht => simp at ht; simp [← ht]
         | 2,ht => simp at ht; simp [← ht]
         | j + 3,ht => simp at ht
       rcases h3 with rfl | rfl | rfl <;> exact (show Tryz.prog.wantsStandIn _ = false by kernel_rfl)⟩)
   (by kernel_rfl)
end Go.Proofs.YtejaocnhekjfiaaGreatDoor.topInner
