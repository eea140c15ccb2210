/- reversed, over a row of the call's own. -/
import Derived.Test.YtdamilkofdclbaaRev2
namespace Go.Proofs.Ytdamilkofdclbaa
open Go.RowKit
set_option linter.unusedVariables false
theorem reversed_own (base : Nat) (v : Value) (n : Nat) (xs : List Int) (w : World) (h : w.ownsRow base 5 1 v n (xs.map bv)) (hn : 0 < n) (hlen : n ≤ 65535) :
    Calls Try.prog 38 #[v] w fun e w' => e = .returned (.string (strOfNums xs.reverse)) ∧ Below base w w' := by
  rcases h with ⟨hl, ⟨rfl, h0⟩ | ⟨g, cap, cur, rfl, hg, hh, hnc, hcm, hcs, ht⟩⟩
  · omega
  · refine (reversed_any g n cap cur xs w hh (by omega) hnc hlen (by simpa using ht)).mono ?_
    rintro e w' ⟨h1, h2⟩
    exact ⟨h1, h2.below hg⟩
end Go.Proofs.Ytdamilkofdclbaa
