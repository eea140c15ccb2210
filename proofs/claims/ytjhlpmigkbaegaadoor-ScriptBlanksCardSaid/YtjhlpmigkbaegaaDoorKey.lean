/- Key walked. -/
import Derived.Test.YtjhlpmigkbaegaaDoorDec
namespace Go.Proofs.YtjhlpmigkbaegaaDoor
open Go.RowKit
set_option linter.unusedVariables false

/-- A text's key; its error. -/
def keyV (s : ByteArray) : Nat := match tornAt s 0 with | some _ => 0 | none => keyAt s 0 0
def errV (s : ByteArray) : Int := match tornAt s 0 with | some _ => 13 | none => 0
theorem keyAt_lt (s : ByteArray) (i k : Nat) (h : k < PR) : keyAt s i k < PR := by
  induction i, k using keyAt.induct (s := s) with
  | case1 i k h1 ih => rw [keyAt, if_pos h1]; exact ih (Nat.mod_lt _ PR_pos)
  | case2 i k h1 => rw [keyAt, if_neg h1]; exact h
theorem key_round (k c : Nat) : ((k * 1114112) % PR + (c + 1)) % PR = (k * 1114112 + (c + 1)) % PR := by rw [Nat.mod_add_mod]
theorem PR_lt : PR < 9223372036854775808 := by rw [PR_eq]; omega
set_option maxRecDepth 100000 in
set_option maxHeartbeats 1000000 in
theorem key_any (s : ByteArray) (w : World) (hs : s.size ≤ 1048576) (hT : Tabs w) :
    Calls Tryd.prog 8 #[.string s] w fun e w' => e = .returned (.tuple #[.int .u64 (keyV s), .int .i64 (errV s)]) ∧ Below w.heap.size w w' := by
  have HT := Lib.hid hT; clear hT
  have KT := Lib.hid (torn_any s w hs HT.out)
  cases ht : tornAt s 0 with
  | some i =>
    have e1 : tornI s = (i : Int) := by unfold tornI; rw [ht]
    have e2 : keyV s = 0 := by unfold keyV; rw [ht]
    have e3 : errV s = 13 := by unfold errV; rw [ht]
    rw [e1] at KT
    rw [e2, e3]
    clear e1 e2 e3 ht
    have hi : decide ((0 : Int) ≤ (i : Int)) = true := by simp
    go_enter Tryd.func8, Tryd.ntmps8
    go_wp2_with fail
    refine KT.out.mono ?_
    rintro e w1 ⟨rfl, hb1⟩
    have HB1 := Lib.hid hb1; clear hb1
    go_wp2_with fail
    go_ret2
    exact ⟨rfl, HB1.out⟩
  | none =>
    have e1 : tornI s = -1 := by unfold tornI; rw [ht]
    have e2 : keyV s = keyAt s 0 0 := by unfold keyV; rw [ht]
    have e3 : errV s = 0 := by unfold errV; rw [ht]
    rw [e1] at KT
    rw [e2, e3]
    clear e1 e2 e3 ht
    go_enter Tryd.func8, Tryd.ntmps8
    go_wp2_with fail
    refine KT.out.mono ?_
    rintro e w1 ⟨rfl, hb1⟩
    have HB1 := Lib.hid hb1; clear hb1
    go_wp2_with fail
    have hk0 := World.iter_heap w1 s 0
    have hb0 : Below w1.heap.size w1 (w1.iter s 0) := (Below.refl _ _).alloc (Nat.le_refl _) _
    have HK0 := Lib.hid (And.intro hk0 (HB1.out.then hb0))
    have HLE := Lib.hid (show w.heap.size ≤ w1.heap.size from HB1.out.size)
    clear hk0 hb0
    generalize w1.iter s 0 = w0 at *
    generalize w1.heap.size = b1 at *
    go_loopw [4] (fun u4 wr => ∃ pos k : Nat, pos ≤ s.size ∧ u4 = .int .u64 k ∧ Hid (k < PR) ∧ Hid (wr.heap[b1]? = some (.stringIter s pos)) ∧ Hid (Below w.heap.size w wr) ∧ Hid (keyAt s pos k = keyAt s 0 0)) (fun _ wr => s.size - wr.iterPos b1)
    case atStart => exact ⟨0, 0, by omega, rfl, Lib.hid PR_pos, Lib.hid HK0.out.1, Lib.hid HK0.out.2, Lib.hid rfl⟩
    case round =>
      obtain ⟨pos, k, hp, rfl, HKK, HK, HB, HR⟩ := hrel
      clear HK0
      have HIP := Lib.hid (iterPos_of HK.out)
      by_cases hlt : pos < s.size
      · obtain ⟨w2, hn, hk1, hb1, hz1⟩ := next_at (P := Tryd.prog) wr b1 s pos HK.out hlt
        have HK1 := Lib.hid hk1
        have HBB := Lib.hid (HB.out.trans (hb1 _ HLE.out))
        have hstep : keyAt s (pos + (Utf8.decode s pos).2) ((k * 1114112 + ((Utf8.decode s pos).1 + 1)) % PR) = keyAt s 0 0 := by
          rw [← HR.out]; conv => rhs; rw [keyAt, if_pos hlt]
        have hle := dec_le s pos hlt
        have hd1 := dec_pos s pos
        have hcl := dec_lt s pos
        have HST := Lib.hid hstep
        clear hb1 hz1 hk1 hstep
        obtain ⟨c, n, hcn⟩ : ∃ c n, Utf8.decode s pos = (c, n) := ⟨_, _, rfl⟩
        rw [hcn] at HST HK1 hn hle hd1 hcl
        clear hcn
        simp only at hn hle hd1 hcl
        have HI2 := Lib.hid (iterPos_of HK1.out)
        have hpl := PR_lt
        have hkk := HKK.out
        have KM := Lib.hid (fun w => mul_any k 1114112 w (by omega) (by omega))
        have KA := fun w => add_any ((k * 1114112) % PR) (c + 1) w (by have := Nat.mod_lt (k * 1114112) PR_pos; omega) (by omega)
        rw [key_round] at KA
        have HM := Lib.hid (Nat.mod_lt (k * 1114112 + (c + 1)) PR_pos)
        have hc1 : ((c + 1 : Nat) : Int) = (c : Int) + 1 := by omega
        rw [hc1] at KA
        have KA := Lib.hid KA
        obtain ⟨k2, hk2⟩ : ∃ k2, (k * 1114112 + (c + 1)) % PR = k2 := ⟨_, rfl⟩
        obtain ⟨k1, hk1⟩ : ∃ k1, (k * 1114112) % PR = k1 := ⟨_, rfl⟩
        rw [hk2] at KA HM HST
        rw [hk1] at KA KM
        clear hk1 hk2
        have hw1 : IntKind.u64.wrap (c : Int) = (c : Int) := by rw [IntKind.wrap_u64]; omega
        have hw2 : IntKind.u64.wrap ((c : Int) + 1) = (c : Int) + 1 := by rw [IntKind.wrap_u64]; omega
        clear hpl hkk hc1 hcl
        go_wp2_with fail
        refine (KM.out _).mono ?_
        rintro e w3 ⟨rfl, rfl⟩
        go_wp2_with fail
        refine (KA.out _).mono ?_
        rintro e w3 ⟨rfl, rfl⟩
        go_wp2_with fail
        go_roundw
        case rel => exact ⟨pos + n, k2, hle, rfl, Lib.hid HM.out, HK1, HBB, HST⟩
        case measure => rw [HI2.out, HIP.out]; omega
      · have hn := next_end (P := Tryd.prog) wr b1 s pos HK.out hlt
        have hfin : k = keyAt s 0 0 := by rw [← HR.out, keyAt, if_neg hlt]
        have HN := Lib.hid hfin
        clear hfin
        go_wp2_with fail
        go_ret2
        exact ⟨by rw [← HN.out]; rfl, HB.out⟩
end Go.Proofs.YtjhlpmigkbaegaaDoor
