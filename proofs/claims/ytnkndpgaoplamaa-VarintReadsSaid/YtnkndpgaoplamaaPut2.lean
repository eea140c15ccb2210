/- slices.Clone of bytes, Put, what PutRow's closure does. -/
import Derived.Test.YtnkndpgaoplamaaPut
import Derived.Maps.AppendAt
namespace Go.Proofs.Ytnkndpgaoplamaa
open Go.RowKit
set_option linter.unusedVariables false

set_option maxRecDepth 100000 in
theorem clone_nil (w : World) : Calls Try.prog 23 #[.slice none 0 0] w fun e w' => e = .returned (.slice none 0 0) ∧ w = w' := by
  have hq := fun w => Lib.run_eql_slice_nil (P := Try.prog) w 27 5 none 0 0 0 0 Try.underlying27
  go_enter Try.func23, Try.ntmps23
  go_wp2
  go_ret
  exact ⟨rfl, rfl⟩
set_option maxRecDepth 100000 in
set_option maxHeartbeats 1000000 in
theorem clone_some (b o n c : Nat) (xs : List Int) (w : World) (hr : Row w (some ⟨b, o, none⟩) n (xs.map bv)) (hn : n ≤ 1048576) :
    Calls Try.prog 23 #[.slice (some ⟨b, o, none⟩) n c] w (Rowed w 5 (xs.map bv)) := by
  obtain ⟨i0, hi, hz0, hz1, hz2⟩ := info_parts info5
  have hq := fun w => Lib.run_eql_slice_nil (P := Try.prog) w 27 5 (some ⟨b, o, none⟩) n c 0 0 Try.underlying27
  have hone := bv_one xs
  have hm1 : n ≤ maxLen := by unfold maxLen; omega
  have hm2 : n * 1 ≤ 140737488355328 := by omega
  have HL := Lib.hid hr.1
  have HR := Lib.hid hr; clear hr
  have hb0 := (Below.refl w.heap.size w).alloc (Nat.le_refl _) (.cells #[] 5)
  have HB := Lib.hid hb0
  go_enter Try.func23, Try.ntmps23
  go_wp2_with (at_builtin; refine wpList_append_fresh rfl (.tmp 5) (.tmp 6) 27 rfl w.heap.size 5 i0 (.int .u8 0) 1 Try.underlying27 hi hz0 hz1 hz2 rfl _ _ rfl (owns_empty w 5) (some ⟨b, o, none⟩) n c (xs.map bv) rfl (HR.out.below HB.out) (by simp) hone hm1 hm2 HB.out.size ?_)
  intro g c1 w2 hgB hnc hcm1 hrow hown hb2
  have HO := Lib.hid hown
  have HB2 := Lib.hid (HB.out.trans hb2)
  clear hrow hown hb2 hb0
  go_wp2
  go_ret
  exact ⟨_, rfl, by rw [HL.out]; exact HO.out, HB2.out⟩
set_option maxRecDepth 100000 in
set_option maxHeartbeats 1000000 in
theorem put_core (s : Value) (xs : List Int) (u : Nat) (w : World) (hK : Calls Try.prog 23 #[s] w (Rowed w 5 (xs.map bv))) (hx : xs.length ≤ 1048576) (hu : u < 18446744073709551616) :
    Calls Try.prog 14 #[s, .int .u64 u] w (Rowed w 5 ((xs ++ enc u).map bv)) := by
  obtain ⟨i0, hi, hz0, hz1, hz2⟩ := info_parts info5
  have HE := Lib.hid (enc_ten hu)
  have HU := Lib.hid hu; clear hu
  have HX := Lib.hid hx; clear hx
  go_enter Try.func14, Try.ntmps14
  go_wp2_with fail
  refine hK.mono ?_
  clear hK
  rintro e w1 ⟨v1, rfl, ho1, hb1⟩
  have O0 := Lib.hid ho1
  have B0 := Lib.hid hb1
  clear ho1 hb1
  go_wp2_with fail
  go_loopw [1, 5] (fun a v wr => ∃ (M : Nat) (ds : List Int), a = .int .u64 M ∧ wr.ownsRow w.heap.size 5 1 v (xs.length + ds.length) ((xs ++ ds).map bv) ∧ Below w.heap.size w wr ∧ ds ++ enc M = enc u ∧ M < 18446744073709551616) (fun a _ _ => (intOf a).toNat)
  case atStart => exact ⟨u, [], rfl, by simpa using O0.out, B0.out, rfl, HU.out⟩
  case round =>
    obtain ⟨M, ds, rfl, hown, hb, hds, hM⟩ := hrel
    have HO := Lib.hid hown; have HB := Lib.hid hb; have HD := Lib.hid hds
    obtain ⟨va, vc, rfl, _⟩ := Row.own hown
    have hl := congrArg List.length hds
    rw [List.length_append] at hl
    have hp := enc_pos M
    have hE := HE.out
    have hX := HX.out
    have hm1 : xs.length + ds.length + 1 ≤ maxLen := by unfold maxLen; omega
    have hm2 : (xs.length + ds.length + 1) * 1 ≤ 140737488355328 := by omega
    have hM2 : (M : Int) ≤ 18446744073709551615 := by omega
    have HM := Lib.hid hM
    clear hown hb hds hl hp hE hM hX O0 B0
    by_cases hlt : M < 128
    · have hw : IntKind.u8.wrap (M : Int) = (M : Int) := by rw [IntKind.wrap_u8]; omega
      have hge : (M : Int) < 128 := by omega
      go_wp2_with (at_builtin; refine wpList_append_copy rfl (.tmp 18) (.tmp 21) 27 rfl w.heap.size 5 i0 (.int .u8 0) 1 Try.underlying27 hi hz0 hz1 hz2 rfl _ (xs.length + ds.length) ((xs ++ ds).map bv) rfl (HO.out.alloc _) (some ⟨wr.heap.size, 0, none⟩) 1 1 [bv M] rfl (row_one wr 5 _) (by simp) (one_int .u8 _) hm1 hm2 (HB.out.alloc HB.out.size _).size ?_; intro v3 w3 hown3 hb3 hnil3)
      have HO3 := Lib.hid hown3
      have HB3 := Lib.hid ((HB.out.alloc HB.out.size _).trans hb3)
      clear hown3 hb3 hnil3
      go_wp2
      go_ret
      refine ⟨v3, rfl, ?_, HB3.out⟩
      rw [← HD.out, enc_small hlt]
      have := HO3.out
      simp only [List.length_map, List.length_append, List.length_singleton, ← Nat.add_assoc] at this ⊢
      simpa using this
    · have hw : bits BinOp.or IntKind.u8 ((M : Int) % 256) 128 = 128 + (M : Int) % 128 := by have := or128 (show (0 : Int) ≤ (M : Int) by omega); rwa [IntKind.wrap_u8] at this
      have hge : (128 : Int) ≤ (M : Int) := by omega
      go_wp2_with (at_builtin; refine wpList_append_copy rfl (.tmp 12) (.tmp 16) 27 rfl w.heap.size 5 i0 (.int .u8 0) 1 Try.underlying27 hi hz0 hz1 hz2 rfl _ (xs.length + ds.length) ((xs ++ ds).map bv) rfl (HO.out.alloc _) (some ⟨wr.heap.size, 0, none⟩) 1 1 [bv (128 + (M : Int) % 128)] rfl (row_one wr 5 _) (by simp) (one_int .u8 _) hm1 hm2 (HB.out.alloc HB.out.size _).size ?_; intro v3 w3 hown3 hb3 hnil3)
      have HO3 := Lib.hid hown3
      have HB3 := Lib.hid ((HB.out.alloc HB.out.size _).trans hb3)
      clear hown3 hb3 hnil3
      go_wp2
      go_roundw
      case rel =>
        refine ⟨M / 128, ds ++ [128 + (M : Int) % 128], by simp, ?_, HB3.out, ?_, by have := HM.out; omega⟩
        · have := HO3.out
          simp only [List.length_append, List.length_singleton, ← Nat.add_assoc]
          simpa using this
        · rw [← HD.out, enc_big hlt]; simp
      case measure => simp [intOf]; omega
theorem grown_refl (w : World) (r : Option Nat) : w.grownBy w r := ⟨rfl, rfl, rfl, Nat.le_refl _, fun _ _ _ => rfl⟩
theorem grown_alloc {w w1 : World} {r : Option Nat} (h : w.grownBy w1 r) (o : Obj) : w.grownBy (w1.alloc o) r :=
  ⟨h.os, h.tape, h.output, by have := h.size; rw [World.size_alloc]; omega, fun k hk hr => (heap_alloc_old w1 o (Nat.lt_of_lt_of_le hk h.size)).trans (h.block k hk hr)⟩
/-- Where the row lies now: where it lay, or in a block that was made since. -/
def Moved (w : World) (v v' : Value) : Prop := v'.ownBlock = v.ownBlock ∨ ∃ k, v'.ownBlock = some k ∧ w.heap.size ≤ k
theorem grown_trans {w w1 w2 : World} {v v1 : Value} (h : w.grownBy w1 v.ownBlock) (hm : Moved w v v1) (h2 : w1.grownBy w2 v1.ownBlock) : w.grownBy w2 v.ownBlock :=
  ⟨h2.os.trans h.os, h2.tape.trans h.tape, h2.output.trans h.output, Nat.le_trans h.size h2.size, fun k hk hr => by
    refine (h2.block k (Nat.lt_of_lt_of_le hk h.size) ?_).trans (h.block k hk hr)
    rcases hm with hm | ⟨j, hj, hjk⟩
    · rw [hm]; exact hr
    · rw [hj]; simp; omega⟩
theorem Moved.step {w w1 : World} {v v1 v2 : Value} (hs : w.heap.size ≤ w1.heap.size) (h : Moved w v v1) (h2 : v2.ownBlock = v1.ownBlock ∨ v2.ownBlock = some w1.heap.size) : Moved w v v2 := by
  rcases h2 with h2 | h2
  · unfold Moved; rw [h2]; exact h
  · exact .inr ⟨_, h2, hs⟩
/-- The row comes back longer; of what was there its own block alone may have turned. -/
def Longer (B : Nat) (w : World) (v : Value) (xs : List Value) (e : Ending) (w' : World) : Prop := ∃ v', e = .returned v' ∧ w'.ownsRow B 5 1 v' xs.length xs ∧ w.grownBy w' v.ownBlock ∧ Moved w v v'
set_option maxRecDepth 100000 in
set_option maxHeartbeats 1000000 in
theorem clos_any (B : Nat) (v : Value) (xs : List Int) (u : Nat) (w : World) (hown0 : w.ownsRow B 5 1 v xs.length (xs.map bv)) (hx : xs.length ≤ 1048576) (hu : u < 18446744073709551616) (hB : B ≤ w.heap.size) :
    Calls Try.prog 24 #[v, .int .u64 u] w (Longer B w v ((xs ++ enc u).map bv)) := by
  obtain ⟨i0, hi, hz0, hz1, hz2⟩ := info_parts info5
  have HE := Lib.hid (enc_ten hu)
  have HU := Lib.hid hu; clear hu
  have HX := Lib.hid hx; clear hx
  have O0 := Lib.hid hown0; clear hown0
  have HBB := Lib.hid hB; clear hB
  go_enter Try.func24, Try.ntmps24
  go_wp2_with fail
  go_loopw [0, 1] (fun y a wr => ∃ (M : Nat) (ds : List Int), a = .int .u64 M ∧ wr.ownsRow B 5 1 y (xs.length + ds.length) ((xs ++ ds).map bv) ∧ w.grownBy wr v.ownBlock ∧ Moved w v y ∧ ds ++ enc M = enc u ∧ M < 18446744073709551616) (fun _ a _ => (intOf a).toNat)
  case atStart => exact ⟨u, [], rfl, by simpa using O0.out, grown_refl _ _, .inl rfl, rfl, HU.out⟩
  case round =>
    obtain ⟨M, ds, rfl, hown, hb, hmv, hds, hM⟩ := hrel
    have HO := Lib.hid hown; have HB := Lib.hid hb; have HD := Lib.hid hds; have HV := Lib.hid hmv
    obtain ⟨va, vc, rfl, _⟩ := Row.own hown
    have hl := congrArg List.length hds
    rw [List.length_append] at hl
    have hp := enc_pos M
    have hE := HE.out
    have hX := HX.out
    have hm1 : xs.length + ds.length + 1 ≤ maxLen := by unfold maxLen; omega
    have hm2 : (xs.length + ds.length + 1) * 1 ≤ 140737488355328 := by omega
    have hM2 : (M : Int) ≤ 18446744073709551615 := by omega
    have HM := Lib.hid hM
    have hsz : ∀ o, B ≤ (wr.alloc o).heap.size := fun o => by have h1 := HB.out.size; have h2 := HBB.out; rw [World.size_alloc]; omega
    clear hown hb hds hl hp hE hM hX O0 hmv
    by_cases hlt : M < 128
    · have hw : IntKind.u8.wrap (M : Int) = (M : Int) := by rw [IntKind.wrap_u8]; omega
      have hge : (M : Int) < 128 := by omega
      go_wp2_with (at_builtin; refine wpList_append_own_at _ rfl (.tmp 15) (.tmp 18) 27 rfl B 5 i0 (.int .u8 0) 1 1 Try.underlying27 hi hz0 hz1 hz2 rfl (by decide) _ (xs.length + ds.length) ((xs ++ ds).map bv) rfl (HO.out.alloc _) ⟨wr.heap.size, 0, none⟩ 1 1 [bv M] rfl rfl (news_one wr (bv M) 5) (one_int .u8 _) hm1 hm2 (hsz _) ?_; intro v3 w3 hown3 hg3 hnil3 hat3)
      have HO3 := Lib.hid hown3
      have HG3 := Lib.hid (grown_trans (grown_alloc HB.out _) HV.out hg3)
      have HV3 := Lib.hid (HV.out.step (grown_alloc HB.out _).size hat3)
      clear hown3 hg3 hnil3 hat3
      go_wp2
      go_ret
      refine ⟨v3, rfl, ?_, HG3.out, HV3.out⟩
      rw [← HD.out, enc_small hlt]
      have := HO3.out
      simp only [List.length_map, List.length_append, List.length_singleton, ← Nat.add_assoc] at this ⊢
      simpa using this
    · have hw : bits BinOp.or IntKind.u8 ((M : Int) % 256) 128 = 128 + (M : Int) % 128 := by have := or128 (show (0 : Int) ≤ (M : Int) by omega); rwa [IntKind.wrap_u8] at this
      have hge : (128 : Int) ≤ (M : Int) := by omega
      go_wp2_with (at_builtin; refine wpList_append_own_at _ rfl (.tmp 9) (.tmp 13) 27 rfl B 5 i0 (.int .u8 0) 1 1 Try.underlying27 hi hz0 hz1 hz2 rfl (by decide) _ (xs.length + ds.length) ((xs ++ ds).map bv) rfl (HO.out.alloc _) ⟨wr.heap.size, 0, none⟩ 1 1 [bv (128 + (M : Int) % 128)] rfl rfl (news_one wr (bv (128 + (M : Int) % 128)) 5) (one_int .u8 _) hm1 hm2 (hsz _) ?_; intro v3 w3 hown3 hg3 hnil3 hat3)
      have HO3 := Lib.hid hown3
      have HG3 := Lib.hid (grown_trans (grown_alloc HB.out _) HV.out hg3)
      have HV3 := Lib.hid (HV.out.step (grown_alloc HB.out _).size hat3)
      clear hown3 hg3 hnil3 hat3
      go_wp2
      go_roundw
      case rel =>
        refine ⟨M / 128, ds ++ [128 + (M : Int) % 128], by simp, ?_, HG3.out, HV3.out, ?_, by have := HM.out; omega⟩
        · have := HO3.out
          simp only [List.length_append, List.length_singleton, ← Nat.add_assoc]
          simpa using this
        · rw [← HD.out, enc_big hlt]; simp
      case measure => simp [intOf]; omega
end Go.Proofs.Ytnkndpgaoplamaa
