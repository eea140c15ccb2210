import Derived.Test.YtgbjaglkmjipmaaClos
namespace Go.Proofs.Ytgbjaglkmjipmaa
open Go.RowKit
set_option linter.unusedVariables false

/-- A slice of bytes reads as a list: nil, or a row of cells. -/
def Bytes (w : World) (a : Option Addr) (len : Nat) (l : List (BitVec 8)) : Prop :=
  l.length = len ∧ len ≤ 140737488351232 ∧ ∀ i x, l[i]? = some x → ∃ b o, a = some ⟨b, o, none⟩ ∧ w.cell? ⟨b, o + i, none⟩ = some (.int .u8 (x.toNat : Int)) ∧ b < w.heap.size
theorem Bytes.below {w w' : World} {a len l} (h : Bytes w a len l) (hb : Below w.heap.size w w') : Bytes w' a len l := by
  refine ⟨h.1, h.2.1, fun i x hx => ?_⟩
  obtain ⟨b, o, e, c, lt⟩ := h.2.2 i x hx
  exact ⟨b, o, e, by rw [hb.cell lt]; exact c, Nat.lt_of_lt_of_le lt hb.size⟩

def u8v (x : BitVec 8) : Value := .int .u8 (x.toNat : Int)
theorem Bytes.of {w : World} {a len} {l : List (BitVec 8)} (h : Row w a len (l.map u8v)) (hm : len ≤ 140737488351232) : Bytes w a len l :=
  ⟨by have := h.1; simpa using this, hm, fun i x hx => h.2 i (u8v x) (by simp [hx])⟩
theorem Bytes.take {w : World} {a len} {l : List (BitVec 8)} (h : Bytes w a len l) (n : Nat) (hn : n ≤ len) : Bytes w a n (l.take n) := by
  refine ⟨by rw [List.length_take, h.1]; omega, by have := h.2.1; omega, fun i x hx => h.2.2 i x ?_⟩
  rw [List.getElem?_take] at hx
  split at hx <;> simp_all
theorem Bytes.drop {w : World} {b o len} {l : List (BitVec 8)} (h : Bytes w (some ⟨b, o, none⟩) len l) (n : Nat) (hn : n ≤ len) : Bytes w (some ⟨b, o + n, none⟩) (len - n) (l.drop n) := by
  refine ⟨by rw [List.length_drop, h.1], by have := h.2.1; omega, fun i x hx => ?_⟩
  rw [List.getElem?_drop] at hx
  obtain ⟨b', o', e, hc, hlt⟩ := h.2.2 _ x hx
  simp only [Option.some.injEq, Addr.mk.injEq, and_true] at e
  obtain ⟨rfl, rfl⟩ := e
  exact ⟨b, o + n, rfl, by rw [Nat.add_assoc]; exact hc, hlt⟩
theorem not32_num (r : BitVec 32) : bits BinOp.xor IntKind.u32 IntKind.u32.max (r.toNat : Int) = ((~~~ r).toNat : Int) := by
  have h := xor32_num (BitVec.allOnes 32) r
  have e : BitVec.allOnes 32 ^^^ r = ~~~ r := by rw [BitVec.allOnes_xor]
  rw [e] at h
  exact h

set_option maxRecDepth 100000 in
set_option maxHeartbeats 1000000 in
theorem extend_any (s : BitVec 32) (a : Option Addr) (len cap : Nat) (l : List (BitVec 8)) (w : World) (hl : Bytes w a len l) :
    Calls Try.prog 11 #[.int .u32 (s.toNat : Int), .slice a len cap] w fun e w' => e = .returned (.int .u32 ((Crc.extend s l).toNat : Int)) ∧ Below w.heap.size w w' := by
  have hs := s.isLt
  have hz := zero32
  have kn := not32_num s
  have hx0 : Crc.ext (~~~ s) (l.take 0) = ~~~ s := rfl
  have HX := Lib.hid hx0; clear hx0
  have hfin : Crc.extend s l = ~~~ Crc.ext (~~~ s) l := rfl
  have HF := Lib.hid hfin; clear hfin
  generalize ~~~ s = ns at *
  go_enter Try.func11, Try.ntmps11
  go_wp2_with (first | (go_at_call 14; refine (steps_any _).mono ?_; rintro e w1 ⟨rfl, hb1⟩) | (refine wpList_store_row rfl 32 (.tmp 5) (.tmp 10) rfl w1.heap.size (tabArr 256) rfl rfl 32 (tabArr 0) (heap_alloc_new w1 _) (by rw [tabArr_size]; exact info32) (by rw [tabArr_size, tabArr_size]) (tabArr_one 256) ?_; rw [World.setRow_alloc_new]))
  clear hz
  have hbe : Below w.heap.size w ((w1.alloc (.cells (tabArr 256) 32)).alloc (.cells #[.int .u32 (ns.toNat : Int)] 22)) :=
    (hb1.alloc hb1.size _).alloc (by have := hb1.size; simp; omega) _
  have hA := heap_alloc2_old w1 (.cells (tabArr 256) 32) (.cells #[.int .u32 (ns.toNat : Int)] 22)
  have hB := heap_alloc2_new w1 (.cells (tabArr 256) 32) (.cells #[.int .u32 (ns.toNat : Int)] 22)
  have hsz := hb1.size
  clear hb1
  generalize (w1.alloc (.cells (tabArr 256) 32)).alloc (.cells #[.int .u32 (ns.toNat : Int)] 22) = w2 at *
  generalize w1.heap.size = B at *
  obtain ⟨hlen, hmx, hcell⟩ := hl
  have HL := Lib.hid hlen; clear hlen
  have HC := Lib.hid hcell; clear hcell
  have HA := Lib.hid hA; clear hA
  have HB := Lib.hid hB; clear hB
  clear kn hs
  go_loopw [16] (fun i wr => ∃ k : Nat, k ≤ len ∧ i = .int .i64 k ∧ wr.heap[B + 1]? = some (.cells #[u32v (Crc.ext ns (l.take k))] 22 (0, 0)) ∧ wr.heap[B]? = some (.cells (tabArr 256) 32 (0, 0)) ∧ Below w.heap.size w wr) (fun i _ => len - (intOf i).toNat)
  case atStart => exact ⟨0, by omega, rfl, by rw [HX.out]; exact HB.out, HA.out, hbe⟩
  case round =>
    obtain ⟨k, hk, rfl, hB', hA', hb'⟩ := hrel
    clear HA HB hbe
    have HA := Lib.hid hA'
    have HB := Lib.hid hB'
    clear hA' hB'
    by_cases hlt : k < len
    · obtain ⟨x, hx⟩ : ∃ x, l[k]? = some x := ⟨l[k]'(by rw [HL.out]; exact hlt), by rw [List.getElem?_eq_getElem]⟩
      obtain ⟨b, o, rfl, hc, hbl⟩ := HC.out k x hx
      have hc' : wr.cell? ⟨b, o + k, none⟩ = some (.int .u8 (x.toNat : Int)) := by rw [hb'.cell hbl]; exact hc
      have hstep : Crc.ext ns (l.take (k + 1)) = Crc.step (Crc.ext ns (l.take k)) x := by
        rw [List.take_add_one, hx]; simp [Crc.ext]
      have HS := Lib.hid hstep
      have HX := Lib.hid hx
      clear hstep hx hc
      generalize Crc.ext ns (l.take k) = r at *
      have hxl := x.isLt
      go_wp2_with (go_at_call 15; refine (clos_any x r (B + 1) B _ HB.out HA.out).mono ?_; rintro e w3 ⟨rfl, hB3, ho3⟩; have HB3 := Lib.hid hB3; clear hB3; have HO := Lib.hid ho3.block)
      go_roundw
      case rel => exact ⟨k + 1, by omega, by go_num, by rw [HS.out]; exact HB3.out, by rw [HO.out B (by omega)]; exact HA.out, hb'.trans (ho3.below (by omega))⟩
      case measure => simp [intOf]; omega
    · obtain rfl : k = len := by omega
      have hr : Crc.ext ns (l.take k) = Crc.ext ns l := by rw [List.take_of_length_le (by rw [HL.out]; exact Nat.le_refl _)]
      have HR := Lib.hid hr; clear hr
      generalize Crc.ext ns (l.take k) = r at *
      have hc : wr.cell? ⟨B + 1, 0, none⟩ = some (.int .u32 (r.toNat : Int)) := cell_of_one HB.out
      have kn := not32_num r
      have hf2 := HF.out
      rw [← HR.out] at hf2
      have HF2 := Lib.hid hf2; clear hf2 HF
      generalize ~~~ r = q at *
      go_wp2
      go_ret
      refine ⟨?_, hb'⟩
      rw [HF2.out]; rfl
end Go.Proofs.Ytgbjaglkmjipmaa
