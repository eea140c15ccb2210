/- shown: what must be in any case. -/
import Derived.Test.YtdamilkofdclbaaShow0
namespace Go.Proofs.Ytdamilkofdclbaa
open Go.RowKit
set_option linter.unusedVariables false

theorem cell_alloc2 {w : World} {a : Addr} {v : Value} (h : w.cell? a = some v) (o p : Obj) : ((w.alloc o).alloc p).cell? a = some v := by
  have h1 : (w.alloc o).cell? a = some v := (World.cell?_alloc_old w o a (Nat.ne_of_lt (block_lt_of_cell h))).trans h
  exact (World.cell?_alloc_old _ p a (Nat.ne_of_lt (block_lt_of_cell h1))).trans h1
set_option maxRecDepth 100000 in
set_option maxHeartbeats 2000000 in
theorem shown_any (w : World) : Calls Try.prog 11 #[] w fun e w' => e = .returned (.bool true) ∧ Below w.heap.size w w' := by
  go_enter Try.func11, Try.ntmps11
  go_wp2_with fail
  refine (s1 _).mono ?_
  rintro e w1 ⟨rfl, hb1⟩
  have B1 := Lib.hid hb1; clear hb1
  go_wp2_with fail
  refine (s2 _).mono ?_
  rintro e w2 ⟨rfl, hb2⟩
  have B2 := Lib.hid (B1.out.then hb2); clear hb2
  go_wp2_with fail
  have hc0 : (w2.alloc (.cells #[.int .i64 2, .int .u64 0] 24)).cell? ⟨w2.heap.size, 0, none⟩ = some (.int .i64 2) := (cell_of_row _ _ _ _ _ _ (heap_alloc_new w2 _)).trans rfl
  have hc1 : (w2.alloc (.cells #[.int .i64 2, .int .u64 0] 24)).cell? ⟨w2.heap.size, 1, none⟩ = some (.int .u64 0) := (cell_of_row _ _ _ _ _ _ (heap_alloc_new w2 _)).trans rfl
  have B2' := Lib.hid (B2.out.alloc B2.out.size (.cells #[.int .i64 2, .int .u64 0] 24))
  have C0 := Lib.hid hc0; have C1 := Lib.hid hc1; clear hc0 hc1
  obtain ⟨g, hg⟩ : ∃ g, w2.heap.size = g := ⟨_, rfl⟩
  rw [hg] at C0 C1 ⊢
  generalize w2.alloc (.cells #[.int .i64 2, .int .u64 0] 24) = w2' at *
  clear hg B2
  refine (s3 _).mono ?_
  rintro e w3 ⟨rfl, hb3⟩
  have D0 := Lib.hid ((hb3.cell (block_lt_of_cell C0.out)).trans C0.out)
  have D1 := Lib.hid ((hb3.cell (block_lt_of_cell C1.out)).trans C1.out)
  have B3 := Lib.hid (B2'.out.then hb3); clear hb3 C0 C1 B2'
  go_wp2_with fail
  have h4 := s4 (w3.alloc (.cells #[.int .i64 0, .int .u64 0] 24)) 2
  have hz : (w3.alloc (.cells #[.int .i64 0, .int .u64 0] 24)).heap.size = w3.heap.size + 1 := by simp
  rw [hz] at h4
  have D0 := Lib.hid ((cell_alloc2 D0.out (.cells #[.int .i64 0, .int .u64 0] 24) (.cells #[.int .i64 9223372036854775807, .int .i64 1, .int .i64 (-1)] 2)))
  have D1 := Lib.hid ((cell_alloc2 D1.out (.cells #[.int .i64 0, .int .u64 0] 24) (.cells #[.int .i64 9223372036854775807, .int .i64 1, .int .i64 (-1)] 2)))
  have B3 := Lib.hid ((B3.out.alloc B3.out.size (.cells #[.int .i64 0, .int .u64 0] 24)).alloc (B3.out.alloc B3.out.size _).size (.cells #[.int .i64 9223372036854775807, .int .i64 1, .int .i64 (-1)] 2))
  clear hz
  generalize ((w3.alloc (Obj.cells #[Value.int IntKind.i64 0, Value.int IntKind.u64 0] 24)).alloc (Obj.cells #[Value.int IntKind.i64 9223372036854775807, Value.int IntKind.i64 1, Value.int IntKind.i64 (-1)] 2)) = w3' at *
  refine h4.mono ?_
  clear h4
  rintro e w4 ⟨rfl, hb4⟩
  have D0 := Lib.hid ((hb4.cell (block_lt_of_cell D0.out)).trans D0.out)
  have D1 := Lib.hid ((hb4.cell (block_lt_of_cell D1.out)).trans D1.out)
  have B4 := Lib.hid (B3.out.then hb4); clear hb4 B3
  go_wp2_with fail
  refine (s5 _).mono ?_
  rintro e w5 ⟨rfl, hb5⟩
  have D0 := Lib.hid ((hb5.cell (block_lt_of_cell D0.out)).trans D0.out)
  have D1 := Lib.hid ((hb5.cell (block_lt_of_cell D1.out)).trans D1.out)
  have B5 := Lib.hid (B4.out.then hb5); clear hb5 B4
  go_wp2_with fail
  refine (s6 _).mono ?_
  rintro e w6 ⟨rfl, hb6⟩
  have D0 := Lib.hid ((hb6.cell (block_lt_of_cell D0.out)).trans D0.out)
  have D1 := Lib.hid ((hb6.cell (block_lt_of_cell D1.out)).trans D1.out)
  have B6 := Lib.hid (B5.out.then hb6); clear hb6 B5
  have c0 := D0.out
  have c1 := D1.out
  go_wp2_with fail
  refine (s7 _).mono ?_
  rintro e w7 ⟨rfl, hb7⟩
  have B7 := Lib.hid (B6.out.then hb7); clear hb7 B6
  go_wp2_with fail
  refine (s8 _).mono ?_
  rintro e w8 ⟨rfl, hb8⟩
  have B8 := Lib.hid (B7.out.then hb8); clear hb8 B7
  go_wp2_with fail
  refine (s9 _).mono ?_
  rintro e w9 ⟨rfl, hb9⟩
  have B9 := Lib.hid (B8.out.then hb9); clear hb9 B8
  go_wp2_with fail
  refine (s10 _).mono ?_
  rintro e w10 ⟨rfl, hb10⟩
  have B10 := Lib.hid (B9.out.then hb10); clear hb10 B9
  go_wp2_with fail
  refine (s11 _).mono ?_
  rintro e w11 ⟨rfl, hb11⟩
  have B11 := Lib.hid (B10.out.then hb11); clear hb11 B10
  go_wp2_with fail
  refine (s12 _).mono ?_
  rintro e w12 ⟨rfl, hb12⟩
  have B12 := Lib.hid (B11.out.then hb12); clear hb12 B11
  go_wp2
  go_ret
  exact ⟨rfl, B12.out⟩
end Go.Proofs.Ytdamilkofdclbaa
