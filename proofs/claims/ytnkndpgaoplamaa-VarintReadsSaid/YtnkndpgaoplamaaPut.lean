/- Bytes of the reference, slices.Clone of bytes, Put. -/
import Derived.Test.YtnkndpgaoplamaaZig
import Derived.Test.YtnkndpgaoplamaaEnc
namespace Go.Proofs.Ytnkndpgaoplamaa
open Go.RowKit
set_option linter.unusedVariables false

def bv (n : Int) : Value := .int .u8 n
def iv (n : Int) : Value := .int .i64 n
theorem bv_one (l : List Int) : ∀ u ∈ l.map bv, u.oneCell' = true := by
  intro u hu
  obtain ⟨x, _, rfl⟩ := List.mem_map.1 hu
  rfl
theorem iv_one (l : List Int) : ∀ u ∈ l.map iv, u.oneCell' = true := by
  intro u hu
  obtain ⟨x, _, rfl⟩ := List.mem_map.1 hu
  rfl
theorem info5 : (Try.prog.info? 5).map (fun i => (i.zero, i.size, i.bytes)) = some (some (.int .u8 0), 1, 1) := by kernel_rfl
theorem info2 : (Try.prog.info? 2).map (fun i => (i.zero, i.size, i.bytes)) = some (some (.int .i64 0), 1, 8) := by kernel_rfl
/-- A row of the call's own comes back, that reads so; what was there is as it was. -/
def Rowed (w : World) (t : TypeId) (xs : List Value) (e : Ending) (w' : World) : Prop := ∃ v, e = .returned v ∧ w'.ownsRow w.heap.size t 1 v xs.length xs ∧ Below w.heap.size w w'
theorem own_below {w w' : World} {base : Nat} {e : TypeId} {size : Nat} {v : Value} {n : Nat} {xs : List Value} (h : w.ownsRow base e size v n xs) (hb : Below w.heap.size w w') : w'.ownsRow base e size v n xs := by
  refine ⟨h.1, ?_⟩
  rcases h.2 with h2 | ⟨g, cap, cur, e1, hg, hh, hr⟩
  · exact Or.inl h2
  · exact Or.inr ⟨g, cap, cur, e1, hg, (hb.block g (lt_of_block hh)).trans hh, hr⟩
theorem own_base {w : World} {base base' : Nat} {e : TypeId} {size : Nat} {v : Value} {n : Nat} {xs : List Value} (h : w.ownsRow base e size v n xs) (hb : base' ≤ base) : w.ownsRow base' e size v n xs :=
  ⟨h.1, h.2.elim Or.inl (fun ⟨g, cap, cur, hv, hg, r⟩ => Or.inr ⟨g, cap, cur, hv, Nat.le_trans hb hg, r⟩)⟩
theorem own_nil (w : World) (base : Nat) (e : TypeId) (size : Nat) : w.ownsRow base e size (.slice none 0 0) 0 [] := ⟨by simp, Or.inl ⟨rfl, rfl⟩⟩
theorem _root_.Go.RowKit.Below.then {w w1 w2 : World} (h : Below w.heap.size w w1) (hb : Below w1.heap.size w1 w2) : Below w.heap.size w w2 := h.trans (hb.mono h.size)
theorem row_one (w : World) (t : TypeId) (x : Value) : Row (w.alloc (.cells #[x] t)) (some ⟨w.heap.size, 0, none⟩) 1 [x] := by
  refine ⟨rfl, fun i y hy => ⟨w.heap.size, 0, rfl, ?_, by simp⟩⟩
  rw [Nat.zero_add, cell_of_row _ _ _ _ _ _ (heap_alloc_new w _)]
  rcases i with _ | i
  · simpa using hy
  · simp at hy
theorem or128 {x : Int} (h : 0 ≤ x) : bits BinOp.or IntKind.u8 (IntKind.u8.wrap x) 128 = 128 + x % 128 := by
  show IntKind.u8.wrap ((BitVec.ofInt 8 (IntKind.u8.wrap x) ||| BitVec.ofInt 8 128).toNat : Int) = _
  have key : ∀ k : BitVec 8, (k ||| 128#8).toNat = 128 + k.toNat % 128 := by decide
  have e : BitVec.ofInt 8 128 = 128#8 := by decide
  rw [e, key, BitVec.toNat_ofInt, IntKind.wrap_u8, IntKind.wrap_u8]
  omega
set_option maxRecDepth 100000 in
set_option maxHeartbeats 1000000 in
theorem bytes_any (u : Nat) (w : World) (hu : u < 18446744073709551616) :
    Calls Try.prog 15 #[.int .u64 u] w (Rowed w 5 ((enc u).map bv)) := by
  obtain ⟨i0, hi, hz0, hz1, hz2⟩ := info_parts info5
  have HE := Lib.hid (enc_ten hu)
  have HU := Lib.hid hu; clear hu
  have O0 := Lib.hid (owns_empty w 5)
  have B0 := Lib.hid ((Below.refl w.heap.size w).alloc (Nat.le_refl _) (.cells #[] 5))
  go_enter Try.func15, Try.ntmps15
  go_wp2
  go_loopw [0, 3] (fun a v wr => ∃ (M : Nat) (ds : List Int), a = .int .u64 M ∧ wr.ownsRow w.heap.size 5 1 v ds.length (ds.map bv) ∧ Below w.heap.size w wr ∧ ds ++ enc M = enc u ∧ M < 18446744073709551616) (fun a _ _ => (intOf a).toNat)
  case atStart => exact ⟨u, [], rfl, O0.out, B0.out, rfl, HU.out⟩
  case round =>
    obtain ⟨M, ds, rfl, hown, hb, hds, hM⟩ := hrel
    have HO := Lib.hid hown; have HB := Lib.hid hb; have HD := Lib.hid hds
    obtain ⟨va, vc, rfl, _⟩ := Row.own hown
    have hl := congrArg List.length hds
    rw [List.length_append] at hl
    have hp := enc_pos M
    have hE := HE.out
    have hm1 : ds.length + 1 ≤ maxLen := by unfold maxLen; omega
    have hm2 : (ds.length + 1) * 1 ≤ 140737488355328 := by omega
    have hM2 : (M : Int) ≤ 18446744073709551615 := by omega
    have HM := Lib.hid hM
    clear hown hb hds hl hp hE hM O0 B0
    by_cases hlt : M < 128
    · have hw : IntKind.u8.wrap (M : Int) = (M : Int) := by rw [IntKind.wrap_u8]; omega
      have hge : (M : Int) < 128 := by omega
      go_wp2_with (at_builtin; refine wpList_append_copy rfl (.tmp 16) (.tmp 19) 27 rfl w.heap.size 5 i0 (.int .u8 0) 1 Try.underlying27 hi hz0 hz1 hz2 rfl _ ds.length (ds.map bv) rfl (HO.out.alloc _) (some ⟨wr.heap.size, 0, none⟩) 1 1 [bv M] rfl (row_one wr 5 _) (by simp) (one_int .u8 _) hm1 hm2 (HB.out.alloc HB.out.size _).size ?_; intro v3 w3 hown3 hb3 hnil3)
      have HO3 := Lib.hid hown3
      have HB3 := Lib.hid ((HB.out.alloc HB.out.size _).trans hb3)
      clear hown3 hb3 hnil3
      go_wp2
      go_ret
      refine ⟨v3, rfl, ?_, HB3.out⟩
      rw [← HD.out, enc_small hlt]
      simpa using HO3.out
    · have hw : IntKind.u8.wrap (128 + (M : Int) % 128) = 128 + (M : Int) % 128 := by rw [IntKind.wrap_u8]; omega
      have hge : (128 : Int) ≤ (M : Int) := by omega
      go_wp2_with (at_builtin; refine wpList_append_copy rfl (.tmp 7) (.tmp 12) 27 rfl w.heap.size 5 i0 (.int .u8 0) 1 Try.underlying27 hi hz0 hz1 hz2 rfl _ ds.length (ds.map bv) rfl (HO.out.alloc _) (some ⟨wr.heap.size, 0, none⟩) 1 1 [bv (128 + (M : Int) % 128)] rfl (row_one wr 5 _) (by simp) (one_int .u8 _) hm1 hm2 (HB.out.alloc HB.out.size _).size ?_; intro v3 w3 hown3 hb3 hnil3)
      have HO3 := Lib.hid hown3
      have HB3 := Lib.hid ((HB.out.alloc HB.out.size _).trans hb3)
      clear hown3 hb3 hnil3
      go_wp2
      go_roundw
      case rel =>
        refine ⟨M / 128, ds ++ [128 + (M : Int) % 128], by simp, by simpa using HO3.out, HB3.out, ?_, by have := HM.out; omega⟩
        rw [← HD.out, enc_big hlt]; simp
      case measure => simp [intOf]; omega
end Go.Proofs.Ytnkndpgaoplamaa
