/- script's line walked. -/
import Derived.Test.YtjhlpmigkbaegaaDoorParse
import Derived.Lib.ItoaLen
namespace Go.Proofs.YtjhlpmigkbaegaaDoor
open Go.RowKit
set_option linter.unusedVariables false

/-- A number as a text. -/
def numS (n : Int) : ByteArray := ⟨(Lib.itoa n).toArray⟩
/-- Numbers behind a word. -/
def lineS (v : ByteArray) : List Int → ByteArray
  | [] => v
  | n :: l => lineS (v ++ ((⟨#[32]⟩ : ByteArray) ++ numS n)) l
def RelL (w : World) (v0 : ByteArray) (l : List Int) (u0 u9 : Value) (wr : World) : Prop :=
  ∃ (k : Nat) (v : ByteArray), k ≤ l.length ∧ v.size ≤ v0.size + 22 * k ∧ u0 = .string v ∧ u9 = .int .i64 k ∧ Hid (lineS v (l.drop k) = lineS v0 l) ∧ Hid (Below w.heap.size w wr)
def TPost (w : World) (s : ByteArray) (e : Ending) (w' : World) : Prop := e = .returned (.string s) ∧ Below w.heap.size w w'
set_option maxRecDepth 100000 in
set_option maxHeartbeats 1000000 in
theorem line_any (v : ByteArray) (l : List Int) (a : Option Addr) (c : Nat) (w : World) (hT : Tabs w) (hr : Row w a l.length (l.map i64v))
    (hl : l.length ≤ 1048576) (hvs : v.size ≤ 1099511627776) (hb : ∀ x ∈ l, -9223372036854775808 ≤ x ∧ x ≤ 9223372036854775807) :
    Calls Tryd.prog 26 #[.string v, .slice a l.length c] w (TPost w (lineS v l)) := by
  have HR := Lib.hid hr
  have HT := Lib.hid hT
  have HB := Lib.hid hb
  clear hr hT hb
  go_enter Tryd.func26, Tryd.ntmps26
  go_wp2_with fail
  go_loopw [0, 9] (fun u0 u9 wr => RelL w v l u0 u9 wr) (fun _ u9 _ => l.length - (intOf u9).toNat)
  case atStart => exact ⟨0, v, by omega, by omega, rfl, rfl, Lib.hid rfl, Lib.hid (Below.refl _ _)⟩
  case round =>
    obtain ⟨k, v1, hk, hsz, rfl, rfl, HV, HBB⟩ := hrel
    by_cases hlt : k < l.length
    · obtain ⟨x, hx⟩ : ∃ x, l[k]? = some x := ⟨l[k], List.getElem?_eq_getElem hlt⟩
      have hxb := HB.out x (List.mem_of_getElem? hx)
      have hrow := HR.out.below HBB.out
      obtain ⟨b, o, rfl, hc, hlb⟩ := hrow.2 k (i64v x) (by rw [List.getElem?_map, hx]; rfl)
      unfold i64v at hc
      have hil := Lib.itoa_length_le x hxb.1 hxb.2
      have KF := Lib.hid (Tryd.strconv_FormatInt_10 x hxb.1 hxb.2 wr (HT.out.below HBB.out).pow)
      have HS := Lib.hid (show lineS (v1 ++ ((⟨#[32]⟩ : ByteArray) ++ numS x)) (l.drop (k + 1)) = lineS v l by
        rw [← HV.out]
        have e : l.drop k = x :: l.drop (k + 1) := by
          have := List.drop_eq_getElem_cons hlt
          rw [this]; congr 1
          have h2 := List.getElem?_eq_getElem hlt
          rw [hx] at h2; exact (Option.some.inj h2).symm
        rw [e]; rfl)
      have hl1 : (k : Int) < (l.length : Int) := by omega
      have g1 : decide (k < l.length) = true := by simpa using hlt
      have hl0 : (0 : Int) ≤ (k : Int) := by omega
      have HRR := Lib.hid hrow
      clear hrow hx HV hxb
      go_wp2_with fail
      refine KF.out.mono ?_
      rintro e w2 ⟨rfl, kk, os, hw2⟩
      have HB2 := Lib.hid (HBB.out.then (hw2 ▸ below_grow wr kk os : Below wr.heap.size wr w2))
      clear hw2
      go_wp2_with fail
      go_roundw
      case rel => exact ⟨k + 1, _, by omega, by simp only [ByteArray.size_append]; change v1.size + (1 + (Lib.itoa x).length) ≤ _; omega, rfl, rfl, HS, HB2⟩
      case measure => simp [intOf]; omega
    · have g1 : decide (k < l.length) = false := by simpa using hlt
      have HF := Lib.hid (show v1 = lineS v l by
        have h2 := HV.out; rw [List.drop_eq_nil_of_le (by omega)] at h2; exact h2)
      go_wp2_with fail
      go_ret
      exact ⟨by rw [← HF.out]; rfl, HBB.out⟩
end Go.Proofs.YtjhlpmigkbaegaaDoor
