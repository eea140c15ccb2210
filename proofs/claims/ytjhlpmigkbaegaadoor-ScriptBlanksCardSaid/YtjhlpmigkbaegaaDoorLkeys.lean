/- ScriptKeys walked. -/
import Derived.Test.YtjhlpmigkbaegaaDoorShown
namespace Go.Proofs.YtjhlpmigkbaegaaDoor
open Go.RowKit
set_option linter.unusedVariables false
theorem cut_size (s : ByteArray) (n : Int) : (s.extract 0 (min (s.size : Int) n).toNat).size ≤ n.toNat := by rw [ByteArray.size_extract]; omega
set_option maxRecDepth 100000 in
set_option maxHeartbeats 1000000 in
theorem lawKeys (s : ByteArray) (w : World) (hT : Tabs w) : Calls Tryd.prog 3 #[.string s] w fun e w' => e = .returned (.bool true) ∧ Below w.heap.size w w' := by
  have KS := Lib.hid (shown_any w hT)
  have HT := Lib.hid hT
  clear hT
  go_enter Tryd.func3, Tryd.ntmps3
  go_wp2_with fail
  refine KS.out.mono ?_
  rintro e w1 ⟨rfl, b1⟩
  have T1 := Lib.hid (HT.out.below b1); have B1 := Lib.hid b1; clear b1
  have hsz := cut_size s 300
  go_wp2_with fail
  generalize s.extract 0 (min (s.size : Int) 300).toNat = t at *
  refine (key_any t w1 (by omega) T1.out).mono ?_
  rintro e w2 ⟨rfl, b2⟩
  have B2 := Lib.hid (B1.out.then b2); clear b2
  have KR := Lib.hid (fun w => rkey_any t w (by omega))
  generalize keyV t = k at *
  generalize errV t = m at *
  go_wp2_with fail
  refine (KR.out _).mono ?_
  rintro e w3 ⟨rfl, rfl⟩
  go_wp2_with fail
  go_ret
  exact ⟨rfl, B2.out⟩
end Go.Proofs.YtjhlpmigkbaegaaDoor
