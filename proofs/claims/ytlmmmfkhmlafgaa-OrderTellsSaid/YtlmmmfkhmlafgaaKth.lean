/- The walk of 'Kth'. -/
import Derived.Test.YtlmmmfkhmlafgaaPart
namespace Go.Proofs.Ytlmmmfkhmlafgaa
open Go.RowKit
set_option linter.unusedVariables false

/-- The length of the slice in a block of one cell. -/
def lenAt (w : World) (b : Nat) : Nat := match w.cell? ⟨b, 0, none⟩ with
  | some (.slice _ n _) => n
  | _ => 0
theorem lenAt_of {w : World} {b : Nat} {a : Option Addr} {n c : Nat} {t : TypeId} (h : w.heap[b]? = some (.cells #[.slice a n c] t (0, 0))) : lenAt w b = n := by
  unfold lenAt; rw [cell_of_one h]
theorem Row.stored {w : World} {a : Option Addr} {n : Nat} {l : List Int} {B : Nat} {a' : Option Addr} {n' c' : Nat} {t : TypeId} (h : Row w a n (l.map i64v))
    (hB : w.heap[B]? = some (.cells #[.slice a' n' c'] t (0, 0))) (v : Value) : Row (w.setCell ⟨B, 0, none⟩ v) a n (l.map i64v) := by
  refine ⟨h.1, fun i x hx => ?_⟩
  obtain ⟨b, o, e, hc, hlt⟩ := h.2 i x hx
  refine ⟨b, o, e, ?_, by simpa [World.setCell] using hlt⟩
  by_cases hb : b = B
  · subst hb
    rw [cell_of_row _ _ _ _ _ _ hB] at hc
    obtain ⟨y, _, rfl⟩ := List.mem_map.1 (List.mem_of_getElem? hx)
    match h2 : o + i, hc with
    | 0, hc => simp [i64v] at hc
    | (j + 1), hc => simp at hc
  · have : (w.setCell ⟨B, 0, none⟩ v).cell? ⟨b, o + i, none⟩ = w.cell? ⟨b, o + i, none⟩ := World.cell?_of_block (heap_setCell_other _ _ _ _ hb)
    rw [this]; exact hc

/-- Behind the round: the struct's new content, then two new blocks. -/
theorem after_round {w w1 : World} {B : Nat} {a0 : Option Addr} {m c' : Nat} {a' : Option Addr} {n' c1 : Nat} {l : List Int} {X Y : Obj}
    (hB : w1.heap[B]? = some (.cells #[.slice a0 m c'] 34 (0, 0))) (hr : Row w1 a' n' (l.map i64v)) (hb : Below w.heap.size w w1) (hle : w.heap.size ≤ B) :
    (((w1.setCell ⟨B, 0, none⟩ (.slice a' n' c1)).alloc X).alloc Y).heap[B]? = some (.cells #[.slice a' n' c1] 34 (0, 0)) ∧
    Row (((w1.setCell ⟨B, 0, none⟩ (.slice a' n' c1)).alloc X).alloc Y) a' n' (l.map i64v) ∧
    Below w.heap.size w (((w1.setCell ⟨B, 0, none⟩ (.slice a' n' c1)).alloc X).alloc Y) := by
  have h1 := one_setCell (u := .slice a' n' c1) hB
  have hlt := lt_of_block h1
  have hw : Below (w1.setCell ⟨B, 0, none⟩ (.slice a' n' c1)).heap.size (w1.setCell ⟨B, 0, none⟩ (.slice a' n' c1)) (((w1.setCell ⟨B, 0, none⟩ (.slice a' n' c1)).alloc X).alloc Y) :=
    ((Below.refl _ _).alloc (Nat.le_refl _) _).alloc (by rw [World.size_alloc]; omega) _
  have hb2 := hb.setCell (p := ⟨B, 0, none⟩) hle (.slice a' n' c1)
  exact ⟨(hw.block _ hlt).trans h1, (hr.stored hB _).below hw, hb2.trans (hw.mono hb2.size)⟩

set_option maxRecDepth 100000 in
set_option maxHeartbeats 1000000 in
theorem kth_in (a : Option Addr) (n c : Nat) (k : Nat) (l : List Int) (w : World) (hl : Row w a n (l.map i64v)) (hn : n ≤ 1000) (hk : k < n) :
    Calls Try.prog 10 #[.slice a n c, .int .i64 (k : Int)] w fun e w' => e = .returned (.tuple #[.int .i64 (Ord.kth l k), .bool true]) ∧ Below w.heap.size w w' := by
  have hlen : l.length = n := by have := hl.1; simpa using this
  have hst : (w.alloc (.cells #[.slice a n c] 34)).heap[w.heap.size]? = some (.cells #[.slice a l.length c] 34 (0, 0)) := by rw [hlen]; exact heap_alloc_new w _
  have hrow : Row (w.alloc (.cells #[.slice a n c] 34)) a l.length (l.map i64v) := by rw [hlen]; exact hl.below ((Below.refl _ _).alloc (Nat.le_refl _) _)
  have HS := Lib.hid hst
  have HR := Lib.hid hrow
  have HN := Lib.hid hlen
  have hbel : Below w.heap.size w (w.alloc (.cells #[.slice a n c] 34)) := (Below.refl _ _).alloc (Nat.le_refl _) _
  clear hl hlen hst hrow
  have hk0 : (0 : Int) ≤ (k : Int) := by omega
  have hb1 : decide ((k : Int) < 0) = false := by simp
  have hb2 : decide (n ≤ k) = false := by simp; omega
  go_enter Try.func10, Try.ntmps10
  go_wp2
  go_step3
  go_wp2
  go_step3
  go_wp2
  generalize w.alloc (.cells #[.slice a n c] 34) = w0 at *
  go_loopw [1] (fun q wr => ∃ (j : Nat) (cur : List Int) (a' : Option Addr) (c' : Nat), q = .int .i64 j ∧ j < cur.length ∧ cur.length ≤ n ∧ (∀ x, Ord.Is cur j x → Ord.Is l k x) ∧ wr.heap[w.heap.size]? = some (.cells #[.slice a' cur.length c'] 34 (0, 0)) ∧ Row wr a' cur.length (cur.map i64v) ∧ Below w.heap.size w wr) (fun _ wr => lenAt wr w.heap.size)
  case atStart => exact ⟨k, l, a, c, rfl, by rw [HN.out]; exact hk, by rw [HN.out]; exact Nat.le_refl _, fun _ h => h, HS.out, HR.out, hbel⟩
  case round =>
    obtain ⟨j, cur, a', c', rfl, hj, hcn, himp, hblk, hrow, hbr⟩ := hrel
    clear HS HR hbel
    have hla := lenAt_of hblk
    have HLA := Lib.hid hla; clear hla
    have cB := cell_of_one hblk
    have fB := free_of_one hblk
    have HB := Lib.hid hblk; clear hblk
    have HR := Lib.hid hrow; clear hrow
    have HI := Lib.hid himp; clear himp
    obtain ⟨x, hx⟩ : ∃ x, cur[cur.length / 2]? = some x := ⟨cur[cur.length / 2]'(by omega), by rw [List.getElem?_eq_getElem]⟩
    obtain ⟨b, o, rfl, hc, hbl⟩ := HR.out.2 (cur.length / 2) (i64v x) (by simp [hx])
    have hcx : wr.cell? ⟨b, o + cur.length / 2, none⟩ = some (.int .i64 x) := hc
    have hxm : x ∈ cur := List.mem_of_getElem? hx
    have hsame := Ord.same_pos hxm
    have hlens := Ord.lengths cur x
    have HLEN := Lib.hid hlens
    have hl1 : (Ord.less cur x).length ≤ 1000 := by omega
    have hl2 : (Ord.more cur x).length ≤ 1000 := by omega
    have hl3 : Ord.same cur x ≤ 1000 := by omega
    clear hc hx hlens
    generalize hm : cur.length = m at *
    have HM := Lib.hid hm; clear hm
    have hBw : w.heap.size < wr.heap.size := by
      have := HB.out
      exact lt_of_block this
    have hlens := HLEN.out
    have hm' := HM.out
    rcases (show j < (Ord.less cur x).length ∨ (¬ j < (Ord.less cur x).length ∧ j < (Ord.less cur x).length + Ord.same cur x) ∨ ¬ j < (Ord.less cur x).length + Ord.same cur x from by omega) with h | ⟨h1, h2⟩ | h
    · clear hlens hm'
      go_wp2_with (go_at_call 16; refine (part_any _ m c' x cur _ HR.out (by omega)).mono ?_; rintro e w1 ⟨a1, c1, a2, c2, rfl, r1, r2, hb1'⟩; have dB : w1.cell? ⟨w.heap.size, 0, none⟩ = some (.slice (some ⟨b, o, none⟩) m c') := (hb1'.cell hBw).trans cB; have eB : w1.frozen? ⟨w.heap.size, 0, none⟩ = false := (hb1'.frozen hBw).trans fB; have hlt1 : w.heap.size < w1.heap.size := Nat.lt_of_lt_of_le hBw hb1'.size; have HB1 := Lib.hid ((hb1'.block _ hBw).trans HB.out); have HR1 := Lib.hid r1; have HR2 := Lib.hid r2; clear r1 r2)
      go_roundw
      case rel =>
        obtain ⟨q1, q2, q3⟩ := after_round (c1 := c1) (X := .cells #[.slice a1 (Ord.less cur x).length c1] 34) (Y := .cells #[.slice a2 (Ord.more cur x).length c2] 34) HB1.out HR1.out (hbr.trans (hb1'.mono hbr.size)) (Nat.le_refl _)
        exact ⟨j, Ord.less cur x, a1, c1, rfl, by omega, by have := HLEN.out; have := HM.out; omega, fun y hy => HI.out y hy.of_less, q1, q2, q3⟩
      case measure =>
        obtain ⟨q1, q2, q3⟩ := after_round (c1 := c1) (X := .cells #[.slice a1 (Ord.less cur x).length c1] 34) (Y := .cells #[.slice a2 (Ord.more cur x).length c2] 34) HB1.out HR1.out (hbr.trans (hb1'.mono hbr.size)) (Nat.le_refl _)
        have e1 := lenAt_of q1
        have e2 := HLA.out
        have := HLEN.out
        have := HM.out
        show lenAt _ _ < lenAt _ _
        rw [e1, e2]; omega
    · clear hlens hm'
      have hge : (Ord.less cur x).length ≤ j := by omega
      have hx : Ord.kth l k = x := Ord.kth_eq (HI.out x (Ord.Is.of_same h1 h2))
      have HX := Lib.hid hx; clear hx h1
      go_wp2_with (go_at_call 16; refine (part_any _ m c' x cur _ HR.out (by omega)).mono ?_; rintro e w1 ⟨a1, c1, a2, c2, rfl, r1, r2, hb1'⟩; have dB : w1.cell? ⟨w.heap.size, 0, none⟩ = some (.slice (some ⟨b, o, none⟩) m c') := (hb1'.cell hBw).trans cB; have eB : w1.frozen? ⟨w.heap.size, 0, none⟩ = false := (hb1'.frozen hBw).trans fB; have hlt1 : w.heap.size < w1.heap.size := Nat.lt_of_lt_of_le hBw hb1'.size; have HB1 := Lib.hid ((hb1'.block _ hBw).trans HB.out); have HR1 := Lib.hid r1; have HR2 := Lib.hid r2; clear r1 r2)
      rw [Exit.noGoto_ret]
      go_ret2
      exact ⟨by rw [HX.out]; rfl, (hbr.trans (hb1'.mono hbr.size)).trans ((((Below.refl _ _).alloc (Nat.le_refl _) _).alloc (by simp) _).mono (by omega))⟩
    · have hge : (Ord.less cur x).length ≤ j := by omega
      have hge2 : (Ord.less cur x).length + Ord.same cur x ≤ j := by omega
      have hj2 : j - ((Ord.less cur x).length + Ord.same cur x) < (Ord.more cur x).length := by omega
      clear hlens hm'
      go_wp2_with (go_at_call 16; refine (part_any _ m c' x cur _ HR.out (by omega)).mono ?_; rintro e w1 ⟨a1, c1, a2, c2, rfl, r1, r2, hb1'⟩; have dB : w1.cell? ⟨w.heap.size, 0, none⟩ = some (.slice (some ⟨b, o, none⟩) m c') := (hb1'.cell hBw).trans cB; have eB : w1.frozen? ⟨w.heap.size, 0, none⟩ = false := (hb1'.frozen hBw).trans fB; have hlt1 : w.heap.size < w1.heap.size := Nat.lt_of_lt_of_le hBw hb1'.size; have HB1 := Lib.hid ((hb1'.block _ hBw).trans HB.out); have HR1 := Lib.hid r1; have HR2 := Lib.hid r2; clear r1 r2)
      go_roundw
      case rel =>
        obtain ⟨q1, q2, q3⟩ := after_round (c1 := c2) (X := .cells #[.slice a1 (Ord.less cur x).length c1] 34) (Y := .cells #[.slice a2 (Ord.more cur x).length c2] 34) HB1.out HR2.out (hbr.trans (hb1'.mono hbr.size)) (Nat.le_refl _)
        exact ⟨j - ((Ord.less cur x).length + Ord.same cur x), Ord.more cur x, a2, c2, (by go_num), by omega, by have := HLEN.out; have := HM.out; omega, fun y hy => HI.out y (Ord.Is.of_more (by omega) hy), q1, q2, q3⟩
      case measure =>
        obtain ⟨q1, q2, q3⟩ := after_round (c1 := c2) (X := .cells #[.slice a1 (Ord.less cur x).length c1] 34) (Y := .cells #[.slice a2 (Ord.more cur x).length c2] 34) HB1.out HR2.out (hbr.trans (hb1'.mono hbr.size)) (Nat.le_refl _)
        have e1 := lenAt_of q1
        have e2 := HLA.out
        have := HLEN.out
        have := HM.out
        show lenAt _ _ < lenAt _ _
        rw [e1, e2]; omega
end Go.Proofs.Ytlmmmfkhmlafgaa
