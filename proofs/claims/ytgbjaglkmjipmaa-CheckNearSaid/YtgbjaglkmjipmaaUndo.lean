import Derived.Test.YtgbjaglkmjipmaaExt
import Derived.Deep.QuietTactic
import Derived.BigQuiet
namespace Go.Proofs.Ytgbjaglkmjipmaa
open Go.RowKit
set_option linter.unusedVariables false

theorem info35 : (Try.prog.info? 35).map (·.size) = some 256 := by kernel_rfl
theorem info22 : (Try.prog.info? 22).map (·.size) = some 1 := by kernel_rfl
def zeros35 : Array Value := Array.replicate 256 (.int .u8 0)
theorem zero35 (w : World) : (zeroValue 35).run Try.prog w = .ok (.agg zeros35) w := by kernel_rfl
theorem zeros35_size : zeros35.size = 256 := by simp [zeros35]
attribute [irreducible] zeros35

theorem tab_cell_val (k : Nat) (hk : k < 256) : tabCell 256 k = .int .u32 ((Crc.tab (BitVec.ofNat 8 k)).toNat : Int) := by
  unfold tabCell u32v; simp [hk]
theorem index32 (k : Nat) (hk : k < 256) (w : World) : (Instr.index 32 (.agg (tabArr 256)) (.int .i64 (k : Int))).run Try.prog w = .ok (.int .u32 ((Crc.tab (BitVec.ofNat 8 k)).toNat : Int)) w :=
  run_index_arr 32 22 256 _ _ _ _ _ w Try.underlying32 Try.underlying22 rfl info22 (by omega) (by omega) (by rw [Int.toNat_natCast, tabArr_get _ _ hk, tab_cell_val _ hk])

/-- The table that leads back, after k entries. -/
def Backs (arr : Array Value) (k : Nat) : Prop := arr.size = 256 ∧ ∀ m, m < k → m < 256 → arr[(Crc.top (Crc.tab (BitVec.ofNat 8 m))).toNat]? = some (.int .u8 (m : Int))
theorem Backs.zero : Backs zeros35 0 := ⟨zeros35_size, fun m h => by omega⟩
theorem top_inj {m k : Nat} (hm : m < 256) (hk : k < 256) (h : (Crc.top (Crc.tab (BitVec.ofNat 8 m))).toNat = (Crc.top (Crc.tab (BitVec.ofNat 8 k))).toNat) : m = k := by
  have h1 := BitVec.eq_of_toNat_eq h
  have h2 := congrArg Crc.frm h1
  rw [Crc.frm_tab, Crc.frm_tab] at h2
  have h3 := congrArg BitVec.toNat h2
  simp at h3
  omega
theorem Backs.step {arr : Array Value} {k : Nat} (h : Backs arr k) (hk : k < 256) : Backs (arr.setIfInBounds (Crc.top (Crc.tab (BitVec.ofNat 8 k))).toNat (.int .u8 (k : Int))) (k + 1) := by
  refine ⟨by simp [h.1], fun m hm hm2 => ?_⟩
  have hlt := (Crc.top (Crc.tab (BitVec.ofNat 8 k))).isLt
  rw [Array.getElem?_setIfInBounds]
  by_cases e : m = k
  · subst e; simp [h.1]; omega
  · rw [if_neg (fun e' => e (top_inj hm2 hk e'.symm))]
    exact h.2 m (by omega) hm2
theorem Backs.at_ {arr : Array Value} (h : Backs arr 256) (k : BitVec 8) : arr[k.toNat]? = some (.int .u8 ((Crc.frm k).toNat : Int)) := by
  have h1 := h.2 (Crc.frm k).toNat (Crc.frm k).isLt (Crc.frm k).isLt
  have e : BitVec.ofNat 8 (Crc.frm k).toNat = Crc.frm k := by simp
  rw [e] at h1
  have ht : Crc.top (Crc.tab (Crc.frm k)) = k := by
    have h : ∀ k : BitVec 8, Crc.top (Crc.tab (Crc.frm k)) = k := by decide +kernel
    exact h k
  rwa [ht] at h1
theorem top_num (r : BitVec 32) : ((r.toNat : Int) / (16777216 : Int)) = ((Crc.top r).toNat : Int) := by
  have hr := r.isLt
  unfold Crc.top
  rw [BitVec.toNat_setWidth, BitVec.toNat_ushiftRight, Nat.shiftRight_eq_div_pow]
  have : r.toNat / 2 ^ 24 < 256 := by omega
  omega

theorem shl8_num (q : BitVec 32) : ((q.toNat : Int) * (256 : Int) % (4294967296 : Int)) = ((q <<< 8).toNat : Int) := by
  rw [BitVec.toNat_shiftLeft, Nat.shiftLeft_eq]; omega
theorem or32_num (a b : BitVec 32) : bits BinOp.or IntKind.u32 (a.toNat : Int) (b.toNat : Int) = ((a ||| b).toNat : Int) := by
  rw [u32_or_nat _ _ a.isLt b.isLt, BitVec.toNat_or]
theorem xor8_num (a b : BitVec 8) : bits BinOp.xor IntKind.u8 (a.toNat : Int) (b.toNat : Int) = (((a ^^^ b).setWidth 32).toNat : Int) := by
  rw [u8_xor_nat _ _ a.isLt b.isLt, BitVec.toNat_setWidth, BitVec.toNat_xor]
  have := Nat.xor_lt_two_pow a.isLt b.isLt
  congr 1
  exact (Nat.mod_eq_of_lt (by omega)).symm

set_option maxRecDepth 100000 in
set_option maxHeartbeats 1000000 in
theorem undo_any (s : BitVec 32) (a : Option Addr) (len cap : Nat) (l : List (BitVec 8)) (w : World) (hl : Bytes w a len l) :
    Calls Try.prog 12 #[.int .u32 (s.toNat : Int), .slice a len cap] w fun e w' => e = .returned (.int .u32 ((Crc.undo s l).toNat : Int)) ∧ Below w.heap.size w w' := by
  have hs := s.isLt
  have hz := zero32
  have hz2 := zero35
  have kn := not32_num s
  have hfin : Crc.undo s l = ~~~ Crc.back (~~~ s) l := rfl
  have HF := Lib.hid hfin; clear hfin
  generalize ~~~ s = ns at *
  go_enter Try.func12, Try.ntmps12
  go_wp2_with (first | (go_at_call 14; refine (steps_any _).mono ?_; rintro e w1 ⟨rfl, hb1⟩) | (refine wpList_store_row rfl 32 (.tmp 5) (.tmp 12) rfl w1.heap.size (tabArr 256) rfl rfl 32 (tabArr 0) (heap_alloc_new w1 _) (by rw [tabArr_size]; exact info32) (by rw [tabArr_size, tabArr_size]) (tabArr_one 256) ?_; rw [World.setRow_alloc_new]) | (refine wpList_load_row rfl 32 (.tmp 5) rfl w1.heap.size rfl 32 (tabArr 256) _ _ (heap_alloc2_old _ _ _) Try.underlying32 rfl (by rw [tabArr_size]; exact info32) ?_))
  have HN := Lib.hid kn
  clear hz hz2 kn hs
  have hsz := hb1.size
  have hA := heap_alloc2_old w1 (.cells (tabArr 256) 32) (.cells zeros35 35)
  have hB := heap_alloc2_new w1 (.cells (tabArr 256) 32) (.cells zeros35 35)
  have hbe : Below w.heap.size w ((w1.alloc (.cells (tabArr 256) 32)).alloc (.cells zeros35 35)) :=
    (hb1.alloc hb1.size _).alloc (by simp; omega) _
  clear hb1
  generalize (w1.alloc (.cells (tabArr 256) 32)).alloc (.cells zeros35 35) = w2 at *
  generalize w1.heap.size = B at *
  have HA := Lib.hid hA; clear hA
  have HB := Lib.hid hB; clear hB
  obtain ⟨hlen, hmx, hcell⟩ := hl
  have HL := Lib.hid hlen; clear hlen
  have HC := Lib.hid hcell; clear hcell
  go_loopw [14] (fun i wr => ∃ k : Nat, k ≤ 256 ∧ i = .int .i64 k ∧ (∃ arr, Backs arr k ∧ wr.heap[B + 1]? = some (.cells arr 35 (0, 0))) ∧ wr.heap[B]? = some (.cells (tabArr 256) 32 (0, 0)) ∧ Below w.heap.size w wr) (fun i _ => 256 - (intOf i).toNat)
  case atStart => exact ⟨0, by omega, rfl, ⟨_, Backs.zero, HB.out⟩, HA.out, hbe⟩
  case round =>
    obtain ⟨k, hk, rfl, ⟨arr, hbk, hB'⟩, hA', hb'⟩ := hrel
    clear HA HB hbe
    have HA := Lib.hid hA'; clear hA'
    have HB := Lib.hid hB'; clear hB'
    have HK := Lib.hid hbk; clear hbk
    by_cases hlt : k < 256
    · have ix := index32 k hlt
      have hstep := HK.out.step hlt
      have HS := Lib.hid hstep; clear hstep
      generalize Crc.tab (BitVec.ofNat 8 k) = t at *
      have ht := t.isLt
      have kt := top_num t
      generalize Crc.top t = p at *
      have hp := p.isLt
      have hc : ∃ v, wr.cell? ⟨B + 1, p.toNat, none⟩ = some v := ⟨_, by rw [cell_of_row _ _ _ _ _ _ HB.out]; exact Array.getElem?_eq_getElem (by rw [HK.out.1]; exact hp)⟩
      obtain ⟨v, hc⟩ := hc
      have hf : wr.frozen? ⟨B + 1, p.toNat, none⟩ = false := frozen_of_row _ _ _ _ _ HB.out
      go_wp2
      go_roundw
      case rel => exact ⟨k + 1, by omega, by go_num, ⟨_, HS.out, by rw [heap_setCell_same _ _ _ _ _ _ HB.out]⟩, by rw [heap_setCell_other _ _ _ _ (by simp)]; exact HA.out, hb'.setCell (by show w.heap.size ≤ B + 1; omega) _⟩
      case measure => simp [intOf]; omega
    · obtain rfl : k = 256 := by omega
      have kn := HN.out
      go_wp2
      clear kn
      generalize wr = w3 at *
      go_loopw [9, 10] (fun r i wr' => ∃ k : Nat, k ≤ len ∧ i = .int .i64 ((k : Int) - 1) ∧ r = u32v (Crc.back ns (l.drop k)) ∧ wr'.heap = w3.heap ∧ Below w.heap.size w wr') (fun _ i _ => ((intOf i) + 1).toNat)
      case atStart => exact ⟨len, by omega, by go_num, by rw [List.drop_eq_nil_of_le (by rw [HL.out]; exact Nat.le_refl _)]; rfl, rfl, hb'⟩
      case round =>
        obtain ⟨k, hk, rfl, rfl, hheap, hb2⟩ := hrel
        have HH := Lib.hid hheap; clear hheap
        by_cases hpos : 0 < k
        · obtain ⟨j, rfl⟩ : ∃ j, k = j + 1 := ⟨k - 1, by omega⟩
          obtain ⟨x, hx⟩ : ∃ x, l[j]? = some x := ⟨l[j]'(by rw [HL.out]; exact hk), by rw [List.getElem?_eq_getElem]⟩
          obtain ⟨b, o, rfl, hc, hbl⟩ := HC.out j x hx
          have hstep : Crc.back ns (l.drop j) = Crc.und (Crc.back ns (l.drop (j + 1))) x := by
            have hj : j < l.length := by rw [HL.out]; omega
            rw [List.drop_eq_getElem_cons hj]
            rw [List.getElem?_eq_getElem hj] at hx
            simp only [Option.some.injEq] at hx
            rw [hx]; rfl
          have hund : ∀ r : BitVec 32, Crc.und r x = ((r ^^^ Crc.tab (Crc.frm (Crc.top r))) <<< 8) ||| (Crc.frm (Crc.top r) ^^^ x).setWidth 32 := fun _ => rfl
          rw [hund] at hstep
          clear hund
          have hc' : wr.cell? ⟨b, o + j, none⟩ = some (.int .u8 (x.toNat : Int)) := by rw [hb2.cell hbl]; exact hc
          clear hx hc
          generalize Crc.back ns (l.drop (j + 1)) = r at *
          have HS := Lib.hid hstep; clear hstep
          have hA2 : wr.heap[B]? = some (.cells (tabArr 256) 32 (0, 0)) := by rw [HH.out]; exact HA.out
          have hB2 : wr.heap[B + 1]? = some (.cells arr 35 (0, 0)) := by rw [HH.out]; exact HB.out
          have hr := r.isLt
          have hxl := x.isLt
          have kt := top_num r
          generalize Crc.top r = p at *
          have hp := p.isLt
          have c1 : wr.cell? ⟨B + 1, p.toNat, none⟩ = some (.int .u8 ((Crc.frm p).toNat : Int)) := by rw [cell_of_row _ _ _ _ _ _ hB2]; exact HK.out.at_ p
          generalize Crc.frm p = n at *
          have hn := n.isLt
          have c2 := tab_cell hA2 n
          clear hA2 hB2
          generalize Crc.tab n = t at *
          have ht := t.isLt
          have k1 := xor32_num r t
          have k2 := shl8_num (r ^^^ t)
          have k3 := xor8_num n x
          have k4 := or32_num ((r ^^^ t) <<< 8) ((n ^^^ x).setWidth 32)
          generalize r ^^^ t = q at *
          generalize q <<< 8 = q8 at *
          generalize (n ^^^ x).setWidth 32 = z at *
          generalize q8 ||| z = fin at *
          have hj0 : (0 : Int) ≤ (j : Int) := by omega
          unfold u32v
          go_wp2_with fail
          go_quiet (fail)
          go_wp2
          go_roundw
          case rel =>
            refine ⟨j, by omega, by go_num, ?_, HH.out, ⟨hb2.os, hb2.tape, hb2.output, hb2.size, hb2.block⟩⟩
            rw [HS.out]
          case measure => first | (simp [intOf]; omega) | simp [intOf]
        · obtain rfl : k = 0 := by omega
          have hl0 : Crc.back ns (l.drop 0) = Crc.back ns l := rfl
          have hf2 := HF.out
          rw [hl0]
          generalize Crc.back ns l = r at *
          have kn := not32_num r
          have HF2 := Lib.hid hf2; clear hf2 HF hl0
          generalize ~~~ r = q at *
          unfold u32v
          have hneg : ¬ (0 : Int) ≤ -1 := by omega
          go_wp2
          go_ret
          exact ⟨by rw [HF2.out]; rfl, hb2⟩
end Go.Proofs.Ytgbjaglkmjipmaa
