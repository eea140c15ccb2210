/- A text's characters; torn, Key walked. -/
import Derived.Test.YtjhlpmigkbaegaaDoorField
import Derived.Laws.RangeAny
import Derived.Lib.DecodeN
import Derived.Lib.RuneCountTail
namespace Go.Proofs.YtjhlpmigkbaegaaDoor
open Go.RowKit
set_option linter.unusedVariables false

theorem dec_pos (s : ByteArray) (i : Nat) : 1 ≤ (Utf8.decode s i).2 := by
  simp only [Utf8.decode]
  repeat' split
  all_goals simp
theorem dec_le (s : ByteArray) (i : Nat) (h : i < s.size) : i + (Utf8.decode s i).2 ≤ s.size := by
  rw [Lib.decode_at]
  unfold Lib.decodeN
  repeat' split
  all_goals simp only
  all_goals omega
theorem dec_lt (s : ByteArray) (i : Nat) : (Utf8.decode s i).1 < 1114112 := by
  rw [Lib.decode_at]
  have h0 := (s.get! i).toNat_lt
  unfold Lib.decodeN
  repeat' split
  all_goals simp only
  all_goals omega
/-- The first place from i on at which there is no character. -/
def tornAt (s : ByteArray) (i : Nat) : Option Nat :=
  if i < s.size then (if Utf8.decode s i = (65533, 1) then some i else tornAt s (i + (Utf8.decode s i).2)) else none
termination_by s.size - i
decreasing_by (have := dec_pos s i; omega)
/-- What a text's torn place is told as. -/
def tornI (s : ByteArray) : Int := match tornAt s 0 with | some i => i | none => -1
/-- A key that goes on from place i. -/
def keyAt (s : ByteArray) (i k : Nat) : Nat :=
  if i < s.size then keyAt s (i + (Utf8.decode s i).2) ((k * 1114112 + ((Utf8.decode s i).1 + 1)) % PR) else k
termination_by s.size - i
decreasing_by (have := dec_pos s i; omega)
theorem tornAt_le (s : ByteArray) (i j : Nat) (h : tornAt s i = some j) : j < s.size := by
  induction i using tornAt.induct (s := s) with
  | case1 i h1 h2 => rw [tornAt, if_pos h1, if_pos h2] at h; cases h; exact h1
  | case2 i h1 h2 ih => rw [tornAt, if_pos h1, if_neg h2] at h; exact ih h
  | case3 i h1 => rw [tornAt, if_neg h1] at h; cases h
section
variable {P : Program}
theorem next_at (w : World) (k : Nat) (s : ByteArray) (pos : Nat) (hk : w.heap[k]? = some (.stringIter s pos)) (h : pos < s.size) :
    ∃ w1, (∀ ty, (Instr.next (.pointer (some ⟨k, 0, none⟩)) true ty).run P w = .ok (.tuple #[.bool true, .int .i64 pos, .int .i32 (Utf8.decode s pos).1]) w1) ∧
      w1.heap[k]? = some (.stringIter s (pos + (Utf8.decode s pos).2)) ∧ (∀ B, B ≤ k → Below B w w1) ∧ w1.heap.size = w.heap.size := by
  have hlt : k < w.heap.size := by
    rcases Nat.lt_or_ge k w.heap.size with h | h
    · exact h
    · rw [Array.getElem?_eq_none h] at hk; cases hk
  refine ⟨{ w with heap := w.heap.setIfInBounds k (.stringIter s (pos + (Utf8.decode s pos).2)) }, ?_, ?_, ?_, ?_⟩
  · intro ty
    simp only [Instr.next, getObj, setObj, Sem.run_bind, Sem.run, hk, Result.andThen, h, if_true]
    simp [goInt]
  · simp [hlt]
  · intro B hB
    refine ⟨rfl, rfl, rfl, by simp, fun j hj => ?_⟩
    simp only
    rw [Array.getElem?_setIfInBounds_ne (by omega)]
  · simp
theorem next_end (w : World) (k : Nat) (s : ByteArray) (pos : Nat) (hk : w.heap[k]? = some (.stringIter s pos)) (h : ¬ pos < s.size) (ty : TypeId) :
    (Instr.next (.pointer (some ⟨k, 0, none⟩)) true ty).run P w = .ok (.tuple #[.bool false]) w := by
  simp [Instr.next, getObj, Sem.run, hk, h]
end
theorem iterPos_of {w : World} {k : Nat} {s : ByteArray} {p : Nat} (h : w.heap[k]? = some (.stringIter s p)) : w.iterPos k = p := by simp [World.iterPos, h]
theorem _root_.Go.RowKit.Below.then {w w1 w2 : World} (h : Below w.heap.size w w1) (hb : Below w1.heap.size w1 w2) : Below w.heap.size w w2 := h.trans (hb.mono h.size)
/-- The tables that the program's library reads. -/
structure Tabs (w : World) : Prop where
  u8 : Lib.Utf8Tabs 0 1 w
  pow : Lib.TabIs Tryd.prog w "internal/strconv.uint64pow10" .u64 Lib.pow10Tab
  es : ∃ te pe, w.cell? ⟨6, 0, none⟩ = some (.iface te pe)
  er : ∃ te pe, w.cell? ⟨7, 0, none⟩ = some (.iface te pe)
  low : 8 ≤ w.heap.size
theorem gPow : Tryd.prog.globalNamed "internal/strconv.uint64pow10" = some 2 := by kernel_rfl
theorem Tabs.below {w w' : World} (h : Tabs w) (hb : Below w.heap.size w w') : Tabs w' := by
  have hl := h.low
  have hc : ∀ b o, b < 8 → w'.cell? ⟨b, o, none⟩ = w.cell? ⟨b, o, none⟩ := fun b o hb2 => hb.cell (p := ⟨b, o, none⟩) (by simp only; omega)
  refine ⟨⟨fun c h2 => ?_, fun i h2 => ?_⟩, ?_, ?_, ?_, Nat.le_trans h.low hb.size⟩
  · rw [hc 0 _ (by omega)]; exact h.u8.1 c h2
  · rw [hc 1 _ (by omega), hc 1 _ (by omega)]; exact h.u8.2 i h2
  · have := h.pow
    unfold Lib.TabIs World.var? at *
    rw [gPow] at *
    simp only [Option.bind_some] at *
    rw [hb.block 2 (by omega)]
    exact this
  · rw [hc 6 _ (by omega)]; exact h.es
  · rw [hc 7 _ (by omega)]; exact h.er
theorem lt_of_block' {w : World} {k : Nat} {o : Obj} (h : w.heap[k]? = some o) : k < w.heap.size := (Array.getElem?_eq_some_iff.1 h).1
theorem decodeGo_tail (s : ByteArray) (i : Nat) (h : i < s.size) : Lib.decodeGo (s.extract i s.size) = Utf8.decode s i := by
  unfold Lib.decodeGo
  rw [if_neg (by simp [ByteArray.size_extract]; omega), Lib.tail_decode, Nat.add_zero]
set_option maxRecDepth 100000 in
set_option maxHeartbeats 1000000 in
theorem torn_any (s : ByteArray) (w : World) (hs : s.size ≤ 1048576) (hT : Tabs w) :
    Calls Tryd.prog 19 #[.string s] w fun e w' => e = .returned (.int .i64 (tornI s)) ∧ Below w.heap.size w w' := by
  have HT := Lib.hid hT; clear hT
  go_enter Tryd.func19, Tryd.ntmps19
  go_wp2
  have hk0 := World.iter_heap w s 0
  have hb0 : Below w.heap.size w (w.iter s 0) := (Below.refl _ _).alloc (Nat.le_refl _) _
  have HK0 := Lib.hid (And.intro hk0 hb0)
  clear hk0 hb0
  generalize w.iter s 0 = w0 at *
  go_loopw [3] (fun u3 wr => ∃ pos, pos ≤ s.size ∧ Hid (wr.heap[w.heap.size]? = some (.stringIter s pos)) ∧ Hid (Below w.heap.size w wr) ∧ Hid (tornAt s pos = tornAt s 0)) (fun _ wr => s.size - wr.iterPos w.heap.size)
  case atStart => exact ⟨0, by omega, Lib.hid HK0.out.1, Lib.hid HK0.out.2, Lib.hid rfl⟩
  case round =>
    obtain ⟨pos, hp, HK, HB, HR⟩ := hrel
    clear HK0
    have HIP := Lib.hid (iterPos_of HK.out)
    by_cases hlt : pos < s.size
    · obtain ⟨w1, hn, hk1, hb1, hz1⟩ := next_at (P := Tryd.prog) wr w.heap.size s pos HK.out hlt
      have HK1 := Lib.hid hk1
      have HB1 := Lib.hid (HB.out.trans (hb1 _ (Nat.le_refl _)))
      have hstep : Utf8.decode s pos ≠ (65533, 1) → tornAt s (pos + (Utf8.decode s pos).2) = tornAt s 0 := fun h => by
        rw [← HR.out]; conv => rhs; rw [tornAt, if_pos hlt, if_neg h]
      have hstop : Utf8.decode s pos = (65533, 1) → tornAt s 0 = some pos := fun h => by
        rw [← HR.out, tornAt, if_pos hlt, if_pos h]
      have HST := Lib.hid (And.intro hstep hstop)
      have hle := dec_le s pos hlt
      have hd1 := dec_pos s pos
      have hdt := decodeGo_tail s pos hlt
      have KD := Lib.hid (Tryd.utf8_DecodeRuneInString (s.extract pos s.size) w1 (HT.out.below HB1.out).u8)
      rw [hdt] at KD
      clear hb1 hz1 hk1 hstep hstop hdt
      obtain ⟨c, n, hcn⟩ : ∃ c n, Utf8.decode s pos = (c, n) := ⟨_, _, rfl⟩
      rw [hcn] at HST KD HK1 hn hle hd1
      clear hcn
      simp only at hn hle hd1
      by_cases hc : c = 65533
      · subst hc
        by_cases hn1 : n = 1
        · subst hn1
          have HS3 := Lib.hid (show tornI s = (pos : Int) by unfold tornI; rw [HST.out.2 rfl])
          clear HST
          go_wp2_with fail
          refine KD.out.mono ?_
          rintro e w2 ⟨rfl, hb2⟩
          have HB2 := Lib.hid (HB1.out.then hb2)
          clear hb2
          go_wp2_with fail
          go_ret
          exact ⟨by rw [HS3.out]; rfl, HB2.out⟩
        · have hne : ((n : Int) == 1) = false := by simp; omega
          have HS2 := Lib.hid (HST.out.1 (fun h => hn1 (by cases h; rfl)))
          clear HST hn1
          go_wp2_with fail
          refine KD.out.mono ?_
          rintro e w2 ⟨rfl, hb2⟩
          have HB2 := Lib.hid (HB1.out.then hb2)
          have HK2 := Lib.hid ((hb2.block _ (lt_of_block' HK1.out)).trans HK1.out)
          have HI2 := Lib.hid (iterPos_of HK2.out)
          clear hb2
          go_wp2_with fail
          go_roundw
          case rel => exact ⟨pos + n, hle, HK2, HB2, HS2⟩
          case measure => rw [HI2.out, HIP.out]; omega
      · have hne : ((c : Int) != 65533) = true := by simp; omega
        have HS2 := Lib.hid (HST.out.1 (fun h => hc (by cases h; rfl)))
        have HI2 := Lib.hid (iterPos_of HK1.out)
        clear HST hc KD
        go_wp2_with fail
        go_roundw
        case rel => exact ⟨pos + n, hle, HK1, HB1, HS2⟩
        case measure => rw [HI2.out, HIP.out]; omega
    · have hn := next_end (P := Tryd.prog) wr w.heap.size s pos HK.out hlt
      have hnone : tornI s = -1 := by unfold tornI; rw [← HR.out, tornAt, if_neg hlt]
      have HN := Lib.hid hnone
      clear hnone
      go_wp2_with fail
      go_ret
      exact ⟨by rw [HN.out]; rfl, HB.out⟩
end Go.Proofs.YtjhlpmigkbaegaaDoor
