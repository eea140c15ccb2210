/- A region that draws, walked in phases: behind each call what holds is said anew. -/
import Derived.Test.YtnkndpgaoplamaaKit
import Derived.Deep.RegionHeld3
namespace Go.RowKit
section
variable {P : Program} {ops : Array Oper} {Q : Exit → Act → World → Prop} {md : Region.Mode} {S T : World → Prop}
theorem wpAnyH_mono (hST : ∀ w, S w → T w) : ∀ (fuel : Nat) (listed : Array Bool) (a : Act) (w : World), wpAnyH P md ops Q S fuel listed a w → wpAnyH P md ops Q T fuel listed a w
  | 0, _, _, _, h => h
  | fuel + 1, _, _, _, h => ⟨h.1, fun i hi => wpOp_mono (fun a' w' h' => ⟨hST w' h'.1, wpAnyH_mono hST fuel _ a' w' h'.2⟩) (h.2 i hi)⟩
/-- Behind a call: the phase that speaks of the new world. -/
theorem wpAnyH_phase {x0 x1 : World} (h : Below x0.heap.size x0 x1) {fuel : Nat} {listed : Array Bool} {a : Act} {w : World}
    (h2 : wpAnyH P md ops Q (fun w' => Below x1.heap.size x1 w') fuel listed a w) : wpAnyH P md ops Q (fun w' => Below x0.heap.size x0 w') fuel listed a w :=
  wpAnyH_mono (fun _ hb => h.trans (hb.mono h.size)) fuel listed a w h2
theorem wp_region_phase {id : Nat} {a : Act} {w : World} (hm : P.follows .mixedOrders = true)
    (h : wpAnyH P .any ops Q (fun w' => Below w.heap.size w w') ops.size (Array.replicate ops.size false) a w.drew) : (Code.region id ops true).wp P Q a w :=
  wp_region_held hm h
end
theorem below_undrew {w w' : World} (h : Below w.drew.heap.size w.drew w') : Below w.heap.size w w' := ⟨h.os, h.tape, h.output, h.size, h.block⟩
end Go.RowKit
