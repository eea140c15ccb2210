/- Text of an import walked. -/
import Derived.Test.YtjhlpmigkbaegaaDoorText
namespace Go.Proofs.YtjhlpmigkbaegaaDoor
open Go.RowKit
set_option linter.unusedVariables false
def hexGo (s : ByteArray) (l : List Nat) : ByteArray := l.foldl (fun s n => s ++ (dig (n / 16) ++ dig (n % 16))) s
theorem dig_size (n : Nat) : (dig n).size ≤ 1 := by unfold dig; rw [ByteArray.size_extract]; omega
def RelI (w : World) (l : List Nat) (u11 u112 : Value) (wr : World) : Prop :=
  ∃ (k : Nat) (v : ByteArray), k ≤ l.length ∧ v.size ≤ 2 * k ∧ u11 = .string v ∧ u112 = .int .i64 k ∧ Hid (hexGo v (l.drop k) = hexS l) ∧ Hid (Below w.heap.size w wr)
set_option maxRecDepth 100000 in
set_option maxHeartbeats 4000000 in
theorem text_imp (w : World) (l : List Nat) (a : Option Addr) (c : Nat) (hr : Row w a l.length (l.map u8v)) (hl : l.length ≤ 1048576) (hb : ∀ x ∈ l, x < 256) :
    Calls Tryd.prog 11 #[.iface 69 (.agg #[.slice a l.length c])] w (TPost w (textC (.imp l))) := by
  have hbN := (Below.refl w.heap.size w).alloc (Nat.le_refl _) (.cells #[.slice a l.length c] 69)
  have HR := Lib.hid (hr.below hbN)
  have HB0 := Lib.hid hbN
  have HB := Lib.hid hb
  clear hr hb hbN
  show Calls _ _ _ _ (TPost w ((⟨#[105, 109, 112, 111, 114, 116, 32]⟩ : ByteArray) ++ hexS l))
  go_enter Tryd.func11, Tryd.ntmps11
  go_wp2_with fail
  generalize w.alloc (.cells #[.slice a l.length c] 69) = w0 at *
  go_loopw [11, 112] (fun u11 u112 wr => RelI w0 l u11 u112 wr) (fun _ u112 _ => l.length - (intOf u112).toNat)
  case atStart => exact ⟨0, ⟨#[]⟩, by omega, Nat.le_refl _, rfl, rfl, Lib.hid rfl, Lib.hid (Below.refl _ _)⟩
  case round =>
    obtain ⟨k, v1, hk, hsz, rfl, rfl, HV, HBB⟩ := hrel
    by_cases hlt : k < l.length
    · obtain ⟨x, hx⟩ : ∃ x, l[k]? = some x := ⟨l[k], List.getElem?_eq_getElem hlt⟩
      have hxb := HB.out x (List.mem_of_getElem? hx)
      obtain ⟨b, o, rfl, hc, hlb⟩ := (HR.out.below HBB.out).2 k (u8v x) (by rw [List.getElem?_map, hx]; rfl)
      unfold u8v at hc
      have HS := Lib.hid (show hexGo (v1 ++ (dig (x / 16) ++ dig (x % 16))) (l.drop (k + 1)) = hexS l by
        rw [← HV.out]
        have e : l.drop k = x :: l.drop (k + 1) := by
          rw [List.drop_eq_getElem_cons hlt]; congr 1
          have h2 := List.getElem?_eq_getElem hlt
          rw [hx] at h2; exact (Option.some.inj h2).symm
        rw [e]; rfl)
      have hl1 : (k : Int) < (l.length : Int) := by omega
      have g1 : decide (k < l.length) = true := by simpa using hlt
      have hl0 : (0 : Int) ≤ (k : Int) := by omega
      have hx1 : (0 : Int) ≤ (x : Int) := by omega
      have hx2 : (x : Int) < 256 := by omega
      clear hx HV
      go_wp2_with fail
      go_region
      go_wp2_with fail
      go_roundw
      case rel => exact ⟨k + 1, _, by omega, by have h1 := dig_size (x / 16); have h2 := dig_size (x % 16); simp only [ByteArray.size_append]; change v1.size + ((dig (x / 16)).size + (dig (x % 16)).size) ≤ _; omega, rfl, rfl, HS, Lib.hid (below_drewN HBB.out 1)⟩
      case measure => simp [intOf]; omega
    · have g1 : decide (k < l.length) = false := by simpa using hlt
      have HF := Lib.hid (show v1 = hexS l by
        have h2 := HV.out; rw [List.drop_eq_nil_of_le (by omega)] at h2; exact h2)
      have q : ¬ 9223372036854775807 < 7 + v1.size := by omega
      go_wp2_with fail
      go_ret
      exact ⟨by rw [← HF.out]; rfl, HB0.out.then HBB.out⟩
end Go.Proofs.YtjhlpmigkbaegaaDoor
