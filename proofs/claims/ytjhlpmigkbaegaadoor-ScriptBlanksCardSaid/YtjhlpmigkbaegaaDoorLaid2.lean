/- What the listed variables give the walks. -/
import Derived.Test.YtjhlpmigkbaegaaDoorLaid
namespace Go.Proofs.YtjhlpmigkbaegaaDoor
open Go.RowKit
set_option linter.unusedVariables false
theorem err_star : "*" ++ "errors.errorString" = "*errors.errorString" := by decide
theorem err_row (u : TypeId) (h : Tryd.prog.typeName? 3 u = some "*errors.errorString") : u = 125 :=
  typeName_ptr_named (nm := "errors.errorString") (by rw [err_star]; kernel_rfl) (by kernel_rfl) (by decide) u (by rw [err_star]; exact h)
theorem lt_of_cell {w : World} {a : Addr} {v : Value} (h : w.cell? a = some v) : a.block < w.heap.size := by
  by_cases hl : a.block < w.heap.size
  · exact hl
  · have : w.heap[a.block]? = none := by simp; omega
    simp [World.cell?, this] at h
theorem tabs_of_laid {W : World} (h : laidMetH Tryd.prog laid7 W) : Tabs W := by
  rw [MakeChecks.laidMetH_plain _ _ _ (by kernel_rfl)] at h
  have h1 : laidMet Tryd.prog laid7 W := h
  have u8 : Lib.Utf8Tabs 0 1 W := utf8Tabs_of_reads Tryd.lays260 ⟨by kernel_rfl, by kernel_rfl, by kernel_rfl, by kernel_rfl, by kernel_rfl, by kernel_rfl, by kernel_rfl⟩
    (first_is ▸ Lib.laidMet.reads h1 (.tail _ (.tail _ (.tail _ (.tail _ (.tail _ (.tail _ (.head _))))))))
    (accept_is ▸ Lib.laidMet.reads h1 (.tail _ (.tail _ (.tail _ (.head _)))))
  have h3 := h1.tail.tail
  rw [pow_is] at h3
  have hp := Lib.tabIs_of_head (g := 2) (t := 104) (e := 23) (n := 20) (by kernel_rfl) (by kernel_rfl) (by kernel_rfl) (by kernel_rfl) (by kernel_rfl) (by kernel_rfl) h3
  have h5 := h1.tail.tail.tail.tail
  obtain ⟨a7, s7, hv7, _⟩ := laid_sentinel (g := 7) (ti := 99) (tp := 125) (te := 127) (ts := 9) h5 (by kernel_rfl) (by kernel_rfl) Tryd.underlying99 err_row Tryd.underlying125 Tryd.underlying127 rfl rfl Tryd.underlying9 (by kernel_rfl) (by kernel_rfl)
  obtain ⟨a6, s6, hv6, _⟩ := laid_sentinel (g := 6) (ti := 99) (tp := 125) (te := 127) (ts := 9) h5.tail (by kernel_rfl) (by kernel_rfl) Tryd.underlying99 err_row Tryd.underlying125 Tryd.underlying127 rfl rfl Tryd.underlying9 (by kernel_rfl) (by kernel_rfl)
  have c7 := World.var?_cell (g := 7) (by kernel_rfl) hv7 0
  have c6 := World.var?_cell (g := 6) (by kernel_rfl) hv6 0
  refine ⟨u8, hp, ⟨_, _, c6.trans rfl⟩, ⟨_, _, c7.trans rfl⟩, ?_⟩
  exact lt_of_cell (a := ⟨7, 0, none⟩) (c7.trans rfl)
end Go.Proofs.YtjhlpmigkbaegaaDoor
