/- reversed: the bytes the other way round, as a text. -/
import Derived.Test.YtdamilkofdclbaaRows
import Derived.Test.YtdamilkofdclbaaKit
import Derived.Test.YtdamilkofdclbaaRev
import Derived.Laws.BytesArg
namespace Go.Proofs.Ytdamilkofdclbaa
open Go.RowKit
set_option linter.unusedVariables false

def bv (n : Int) : Value := .int .u8 n
set_option maxRecDepth 100000 in
set_option maxHeartbeats 1000000 in
theorem reversed_any (g n c : Nat) (old : Array Value) (xs : List Int) (w : World) (hh : w.heap[g]? = some (.cells old 5 (0, 0))) (hn : n ≤ old.size) (hc : n ≤ c) (hlen : n ≤ 65535)
    (hx : old.toList.take n = xs.map bv) :
    Calls Try.prog 38 #[.slice (some ⟨g, 0, none⟩) n c] w fun e w' => e = .returned (.string (strOfNums xs.reverse)) ∧ Only g w w' := by
  have hxl : xs.length = n := by have := congrArg List.length hx; simp at this; omega
  have kr := reverse_any g n c old w hh hn hc hlen (fun i x hi hxi => by
    have h1 : (old.toList.take n)[i]? = some x := by rw [List.getElem?_take, if_pos hi]; simpa using hxi
    rw [hx, List.getElem?_map] at h1
    obtain ⟨b, _, hb⟩ := Option.map_eq_some_iff.1 h1
    exact ⟨b, hb.symm⟩)
  have kc : ∀ (cur : Array Value) (w' : World), cur.toList.take n = (old.toList.take n).reverse → w'.heap[g]? = some (.cells cur 5 (0, 0)) →
      (convert 58 9 (.slice (some ⟨g, 0, none⟩) n c)).run Try.prog w' = .ok (.string (strOfNums xs.reverse)) w' := by
    intro cur w' h1 h2
    refine run_convert_bytes_arg w' 58 5 Try.underlying58 Try.underlying5 g 0 n c xs.reverse (by simp [hxl]) (fun i hi => ?_) 9 Try.underlying9
    rw [Nat.zero_add, cell_of_row _ _ _ _ _ _ h2]
    rw [hx, ← List.map_reverse] at h1
    have h3 : (cur.toList.take n)[i]? = (xs.reverse.map bv)[i]? := by rw [h1]
    rw [List.getElem?_take, if_pos hi, List.getElem?_map] at h3
    simp only [Array.getElem?_toList] at h3
    rw [h3, List.getElem?_eq_getElem (by simp; omega), List.getD_eq_getElem?_getD, List.getElem?_eq_getElem (by simp; omega)]
    rfl
  have KR := Lib.hid kr
  have KC := Lib.hid kc
  clear kr kc hh hx
  go_enter Try.func38, Try.ntmps38
  go_wp2_with fail
  refine KR.out.mono ?_
  rintro e w1 ⟨rfl, ⟨cur, e1, e2, e3⟩, ho⟩
  have kc := KC.out cur w1 e2 e3
  have HO := Lib.hid ho
  clear ho e1 e2 e3
  go_wp2
  go_ret
  exact ⟨rfl, HO.out⟩
end Go.Proofs.Ytdamilkofdclbaa
