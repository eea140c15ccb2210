/- Text: a number to base ten. -/
import Derived.Test.YtdamilkofdclbaaRows
import Derived.Test.YtdamilkofdclbaaKit
import Derived.Test.YtdamilkofdclbaaText
import Derived.Test.YtdamilkofdclbaaRev2
namespace Go.Proofs.Ytdamilkofdclbaa
open Go.RowKit
set_option linter.unusedVariables false

/-- The digits to base ten, the lowest first, as bytes. -/
def digs (n : Nat) : List Int := if n < 10 then [48 + (n : Int)] else (48 + ((n % 10 : Nat) : Int)) :: digs (n / 10)
decreasing_by omega
/-- The rest of the digits: none, if the number is 0 and some stand already. -/
def rest (n : Nat) (some : Bool) : List Int := if n = 0 ∧ some = true then [] else digs n
theorem rest_step (n : Nat) (b : Bool) (h : n ≠ 0 ∨ b = false) : rest n b = (48 + ((n % 10 : Nat) : Int)) :: rest (n / 10) true := by
  unfold rest
  rw [if_neg (by simp; intro h1; rcases h with h | h; exact absurd h1 h; exact h)]
  rw [digs]
  split
  · rename_i hn
    rw [if_pos ⟨by omega, rfl⟩, Nat.mod_eq_of_lt hn]
  · rw [if_neg (by simp; omega)]
/-- The bytes of a number's text, the other way round. -/
def textRev (v : Int) : List Int := digs v.natAbs ++ (if v < 0 then [45] else [])
def textV (v : Int) : Value := .string (strOfNums (textRev v).reverse)
end Go.Proofs.Ytdamilkofdclbaa
