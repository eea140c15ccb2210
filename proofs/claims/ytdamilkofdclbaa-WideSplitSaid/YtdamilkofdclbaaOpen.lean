/- A wide number that came in. -/
import Derived.Test.YtdamilkofdclbaaWide
import Derived.OpenShut
namespace Go.Proofs.Ytdamilkofdclbaa
open Go.RowKit
theorem wide_of {h l : Int} (h1 : (Lit.int .i64 h).wf = true) (h2 : (Lit.int .u64 l).wf = true) : ∃ v, Fits v ∧ h = hiOf v ∧ l = loOf v := by
  have a := bounds_i64 h1
  have b := bounds_u64 h2
  exact ⟨18446744073709551616 * h + l, by unfold Fits; omega, by unfold hiOf; omega, by unfold loOf; omega⟩
end Go.Proofs.Ytdamilkofdclbaa
