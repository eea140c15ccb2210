/- What shown and the laws need: contracts with the posts that a region takes; texts of bytes. -/
import Derived.Test.YtnkndpgaoplamaaRTakeRow
import Derived.Test.YtnkndpgaoplamaaPutRow
import Derived.Test.YtnkndpgaoplamaaSame
import Derived.Laws.BytesArg
namespace Go.Proofs.Ytnkndpgaoplamaa
open Go.RowKit
set_option linter.unusedVariables false

theorem then_draw {w w0 w' : World} (h : Below w.heap.size w w0) (hb : Below w0.drew.heap.size w0.drew w') : Below w.heap.size w w' := h.drew.then hb
theorem then_make {w w0 w' : World} {p : Obj} (h : Below w.heap.size w w0) (hb : Below (w0.alloc p).heap.size (w0.alloc p) w') : Below w.heap.size w w' := (h.alloc h.size p).then hb
theorem then_make_draw {w w0 w' : World} {p : Obj} (h : Below w.heap.size w w0) (hb : Below (w0.alloc p).drew.heap.size (w0.alloc p).drew w') : Below w.heap.size w w' := (h.alloc h.size p).drew.then hb
theorem then_draw_make {w w0 w' : World} {p : Obj} (h : Below w.heap.size w w0) (hb : Below (w0.drew.alloc p).heap.size (w0.drew.alloc p) w') : Below w.heap.size w w' := then_make h.drew hb
/-- A new block as a row. -/
theorem row_lit (w : World) (t : TypeId) (cs : List Value) {a : Addr} (ha : a = ⟨w.heap.size, 0, none⟩) {n : Nat} (hn : cs.length = n) : Row (w.alloc (.cells cs.toArray t)) (some a) n cs := by
  subst ha
  refine ⟨hn, fun i y hy => ⟨w.heap.size, 0, rfl, ?_, by simp⟩⟩
  rw [Nat.zero_add, cell_of_row _ _ _ _ _ _ (heap_alloc_new w _)]
  simpa using hy
/-- Bytes as a text. -/
theorem conv_row {w : World} {b o n c : Nat} {xs : List Int} (hr : Row w (some ⟨b, o, none⟩) n (xs.map bv)) : (convert 27 9 (.slice (some ⟨b, o, none⟩) n c)).run Try.prog w = .ok (.string (strOfNums xs)) w := by
  have hl : xs.length = n := by simpa using hr.1
  refine run_convert_bytes_arg w 27 5 Try.underlying27 Try.underlying5 b o n c xs hl (fun i hi => ?_) 9 Try.underlying9
  obtain ⟨b', o', e', hc, _⟩ := hr.2 i (bv (xs.getD i 0)) (by simp [List.getD, List.getElem?_eq_getElem (show i < xs.length by omega)])
  simp only [Option.some.injEq, Addr.mk.injEq, and_true] at e'
  obtain ⟨rfl, rfl⟩ := e'
  exact hc
theorem conv_nil (w : World) (l c : Nat) : (convert 27 9 (.slice none l c)).run Try.prog w = .ok (.string (strOfNums [])) w := run_convert_bytes_nil w 27 5 Try.underlying27 Try.underlying5 l c 9 Try.underlying9
theorem conv_own {w : World} {base n : Nat} {a : Option Addr} {c : Nat} {xs : List Int} (h : w.ownsRow base 5 1 (.slice a n c) n (xs.map bv)) : (convert 27 9 (.slice a n c)).run Try.prog w = .ok (.string (strOfNums xs)) w := by
  obtain ⟨a', c', e, hr⟩ := Row.own h
  simp only [Value.slice.injEq, true_and] at e
  obtain ⟨rfl, rfl⟩ := e
  rcases h.2 with ⟨h2, h3⟩ | ⟨g, cap, cur, h2, _⟩
  · simp only [Value.slice.injEq] at h2
    obtain ⟨rfl, rfl, rfl⟩ := h2
    have : xs = [] := by simpa using hr.1
    subst this
    exact conv_nil w 0 0
  · simp only [Value.slice.injEq, true_and] at h2
    obtain ⟨rfl, rfl⟩ := h2
    exact conv_row hr
theorem str_app (a b : List Int) : strOfNums (a ++ b) = strOfNums a ++ strOfNums b := by
  apply ByteArray.ext
  simp [strOfNums]
theorem dec300 : dec [172, 2, 7] = some (300, 2) := by decide
theorem dec80 : dec [128, 0] = none := by decide
theorem enc300 : enc 300 = [172, 2] := by rw [enc_big (by omega), enc_small (by omega)]; rfl
theorem rowB3 : rowB [-3, 64] = [5, 128, 1] := by
  show enc 5 ++ (enc 128 ++ []) = _
  rw [enc_small (by omega), enc_big (by omega), enc_small (by omega)]; rfl
theorem decs2 : rowOf 2 [5, 128, 1, 9] = some ([5, 128], 3) := by decide
theorem rowV2 : rowV [5, 128] = [-3, 64] := by decide
/-- The first two calls of shown, made fast. -/
theorem put300 (w : World) : Calls Try.prog 14 #[.slice (some ⟨w.heap.size, 0, none⟩) 1 1, .int .u64 300] (w.alloc (.cells #[.int .u8 9] 5)) (Rowed (w.alloc (.cells #[.int .u8 9] 5)) 5 ([9, 172, 2].map bv)) := by
  have h := put_core (.slice (some ⟨w.heap.size, 0, none⟩) 1 1) [9] 300 (w.alloc (.cells #[.int .u8 9] 5)) (clone_some w.heap.size 0 1 1 [9] _ (row_lit w 5 [.int .u8 9] rfl rfl) (by omega)) (by simp) (by omega)
  rw [enc300] at h
  exact h
theorem take300 (w : World) : Calls Try.prog 18 #[.slice (some ⟨w.heap.size, 0, none⟩) 3 3] (w.alloc (.cells #[.int .u8 172, .int .u8 2, .int .u8 7] 5)) fun e w' => e = .returned (.tuple #[.int .u64 300, .int .i64 2, .int .i64 0]) ∧ w.alloc (.cells #[.int .u8 172, .int .u8 2, .int .u8 7] 5) = w' := by
  have h := take_any [172, 2, 7] (some ⟨w.heap.size, 0, none⟩) 3 3 (w.alloc (.cells #[.int .u8 172, .int .u8 2, .int .u8 7] 5)) (row_lit w 5 [.int .u8 172, .int .u8 2, .int .u8 7] rfl rfl) (by intro x hx; simp at hx; omega) (by omega)
  rw [dec300] at h
  exact h
theorem take80 (w : World) : Calls Try.prog 18 #[.slice (some ⟨w.heap.size, 0, none⟩) 2 2] (w.alloc (.cells #[.int .u8 128, .int .u8 0] 5)) fun e w' => e = .returned (.tuple #[.int .u64 0, .int .i64 0, .int .i64 8]) ∧ w.alloc (.cells #[.int .u8 128, .int .u8 0] 5) = w' := by
  have h := take_any [128, 0] (some ⟨w.heap.size, 0, none⟩) 2 2 (w.alloc (.cells #[.int .u8 128, .int .u8 0] 5)) (row_lit w 5 [.int .u8 128, .int .u8 0] rfl rfl) (by intro x hx; simp at hx; omega) (by omega)
  rw [dec80] at h
  exact h
theorem putrow_nil (l : List Int) (a : Option Addr) (n c : Nat) (w : World) (hr : Row w a n (l.map iv)) (hin : In64 l) (hn : n ≤ 65536) : Calls Try.prog 16 #[.slice none 0 0, .slice a n c] w (Rowed w 5 ((rowB l).map bv)) := by
  have h := putrow_core (.slice none 0 0) [] l a n c w ((clone_nil w).mono fun e w' h => ⟨.slice none 0 0, h.1, by simpa using own_nil w' w.heap.size 5 1, by rw [← h.2]; exact Below.refl _ _⟩) (by simp) hr hin hn
  simpa using h
theorem put_nil (u : Nat) (w : World) (hu : u < 18446744073709551616) : Calls Try.prog 14 #[.slice none 0 0, .int .u64 u] w (Rowed w 5 ((enc u).map bv)) := by
  have h := put_core (.slice none 0 0) [] u w ((clone_nil w).mono fun e w' h => ⟨.slice none 0 0, h.1, by simpa using own_nil w' w.heap.size 5 1, by rw [← h.2]; exact Below.refl _ _⟩) (by simp) hu
  simpa using h
theorem putrow3 (w : World) : Calls Try.prog 16 #[.slice none 0 0, .slice (some ⟨w.heap.size, 0, none⟩) 2 2] (w.alloc (.cells #[.int .i64 (-3), .int .i64 64] 2)) (Rowed (w.alloc (.cells #[.int .i64 (-3), .int .i64 64] 2)) 5 ([5, 128, 1].map bv)) := by
  have h := putrow_nil [-3, 64] (some ⟨w.heap.size, 0, none⟩) 2 2 (w.alloc (.cells #[.int .i64 (-3), .int .i64 64] 2)) (row_lit w 2 [.int .i64 (-3), .int .i64 64] rfl rfl) (by intro x hx; simp at hx; omega) (by omega)
  rw [rowB3] at h
  exact h
theorem takerow3 (w : World) : Calls Try.prog 20 #[.slice (some ⟨w.heap.size, 0, none⟩) 4 4, .int .i64 2] (w.alloc (.cells #[.int .u8 5, .int .u8 128, .int .u8 1, .int .u8 9] 5)) fun e w' => (∃ v, e = .returned (.tuple #[v, .int .i64 3, .int .i64 0]) ∧ w'.ownsRow (w.alloc (.cells #[.int .u8 5, .int .u8 128, .int .u8 1, .int .u8 9] 5)).heap.size 2 1 v 2 [.int .i64 (-3), .int .i64 64]) ∧ Below (w.alloc (.cells #[.int .u8 5, .int .u8 128, .int .u8 1, .int .u8 9] 5)).heap.size (w.alloc (.cells #[.int .u8 5, .int .u8 128, .int .u8 1, .int .u8 9] 5)) w' := by
  have h := takerow_any [5, 128, 1, 9] w.heap.size 4 4 2 (w.alloc (.cells #[.int .u8 5, .int .u8 128, .int .u8 1, .int .u8 9] 5)) (row_lit w 5 [.int .u8 5, .int .u8 128, .int .u8 1, .int .u8 9] rfl rfl) (by omega) (by intro x hx; simp at hx; omega) (by omega) (by omega) (by omega)
  rw [decs2] at h
  refine h.mono ?_
  rintro e w' ⟨hb, v, he, ho⟩
  rw [rowV2] at ho
  exact ⟨⟨v, he, ho⟩, hb⟩
theorem zig2 (w : World) : Calls Try.prog 10 #[.int .i64 (-2)] w fun e w' => e = .returned (.int .u64 3) ∧ Below w.heap.size w w' :=
  (zig_any (-2) w (by omega) (by omega)).mono fun e w' h => ⟨h.1, by rw [← h.2]; exact Below.refl _ _⟩
theorem zag4 (w : World) : Calls Try.prog 12 #[.int .u64 4] w fun e w' => e = .returned (.int .i64 2) ∧ Below w.heap.size w w' :=
  (zag_any 4 w (by omega) (by omega)).mono fun e w' h => ⟨h.1, by rw [← h.2]; exact Below.refl _ _⟩
theorem same2 (v0 : World) (a : Option Addr) (c : Nat) (hr : Row v0 a 2 [.int .i64 (-3), .int .i64 64]) (w : World) (hb : Below v0.heap.size v0 w) (d : Nat) :
    Calls Try.prog 22 #[.slice a 2 c, .slice (some ⟨w.heap.size, 0, none⟩) 2 2] ((w.alloc (.cells #[.int .i64 (-3), .int .i64 64] 2)).drewN d) fun e w' => e = .returned (.bool true) ∧ Below ((w.alloc (.cells #[.int .i64 (-3), .int .i64 64] 2)).drewN d).heap.size ((w.alloc (.cells #[.int .i64 (-3), .int .i64 64] 2)).drewN d) w' := by
  have h := same_any [-3, 64] [-3, 64] a (some ⟨w.heap.size, 0, none⟩) 2 c 2 2 ((w.alloc (.cells #[.int .i64 (-3), .int .i64 64] 2)).drewN d) (hr.below (below_drewN (hb.alloc hb.size _) _)) ((row_lit w 2 [.int .i64 (-3), .int .i64 64] rfl rfl).below (below_drewN (Below.refl _ _) _)) (by omega) (by omega)
  refine h.mono ?_
  rintro e w' ⟨he, hb⟩
  exact ⟨by rw [he]; rfl, hb⟩
end Go.Proofs.Ytnkndpgaoplamaa
