import Derived.Test.YtgbjaglkmjipmaaLaws1
import Derived.Deep.RegionLaw
import Derived.Lib.QuietBelow
namespace Go.Proofs.Ytgbjaglkmjipmaa
open Go.RowKit
set_option linter.unusedVariables false

theorem run_min4 (P : Program) (ts : Array TypeId) (t : TypeId) (a b c : Nat) (w : World) :
    (Builtin.min_ ts t #[.int .i64 (a : Int), .int .i64 (b : Int), .int .i64 (c : Int), .int .i64 500]).run P w = .ok (.int .i64 ((min (min (min a b) c) 500 : Nat) : Int)) w := by
  have e : (min (min (min a b) c) 500 : Nat) = if 500 < (if c < (if b < a then b else a) then c else (if b < a then b else a)) then 500 else (if c < (if b < a then b else a) then c else (if b < a then b else a)) := by
    simp only [Nat.min_def]
    repeat' split
    all_goals omega
  rw [e]
  simp only [Builtin.min_, List.foldlM, Builtin.min2]
  simp only [Sem.run_pure, pure_bind]
  congr 2
  repeat' split
  all_goals omega
/-- A slice of bytes of whatever length. -/
structure AnyBytes (w : World) (a : Option Addr) (len : Nat) (l : List (BitVec 8)) : Prop where
  row : Row w a len (l.map u8v)
theorem Bytes.ofAny {w : World} {a len} {l : List (BitVec 8)} (h : Row w a len (l.map u8v)) : AnyBytes w a len l := ⟨h⟩
theorem AnyBytes.take {w : World} {a len} {l : List (BitVec 8)} (h : AnyBytes w a len l) (n : Nat) (hn : n ≤ len) (hm : n ≤ 140737488351232) : Bytes w a n (l.take n) := by
  have := h.row.take n hn
  rw [← List.map_take] at this
  exact Bytes.of this hm
/-- The three rows xored, byte by byte. -/
def xor3 (A B C : List (BitVec 8)) : List (BitVec 8) := List.zipWith (· ^^^ ·) (List.zipWith (· ^^^ ·) A B) C
theorem xor3_take (A B C : List (BitVec 8)) (k : Nat) (x y z : BitVec 8) (hx : A[k]? = some x) (hy : B[k]? = some y) (hz : C[k]? = some z) :
    (xor3 A B C).take (k + 1) = (xor3 A B C).take k ++ [x ^^^ y ^^^ z] := by
  rw [List.take_add_one]
  congr 1
  unfold xor3
  rw [List.getElem?_zipWith, List.getElem?_zipWith, hx, hy, hz]
  rfl
set_option maxRecDepth 100000 in
set_option maxHeartbeats 1000000 in
theorem xors_walk (a b c : Option Addr) (la lb lc ca cb cc : Nat) (A B C : List (BitVec 8)) (w : World) (hA : Row w a la (A.map u8v)) (hB : Row w b lb (B.map u8v)) (hC : Row w c lc (C.map u8v))
    (h1 : la ≤ ca) (h2 : lb ≤ cb) (h3 : lc ≤ cc) (m1 : ca ≤ 9223372036854775807) (m2 : cb ≤ 9223372036854775807) (m3 : cc ≤ 9223372036854775807) :
    Calls Try.prog 7 #[.slice a la ca, .slice b lb cb, .slice c lc cc] w fun e w' => e = .returned (.bool true) ∧ Below w.heap.size w w' := by
  have hmin := run_min4 Try.prog #[3, 3, 3, 3] 3 la lb lc
  obtain ⟨n, hn⟩ : ∃ n : Nat, n = min (min (min la lb) lc) 500 := ⟨_, rfl⟩
  rw [← hn] at hmin
  have hna : n ≤ la := by omega
  have hnb : n ≤ lb := by omega
  have hnc : n ≤ lc := by omega
  have hn5 : n ≤ 500 := by omega
  clear hn
  obtain ⟨i0, hi, hz0, hz1, hz2⟩ := info_parts info5
  have HA := Lib.hid hA
  have HB := Lib.hid hB
  have HC := Lib.hid hC
  clear hA hB hC
  go_enter Try.func7, Try.ntmps7
  go_wp2_with (first | (go_at_call 8; refine (shown_any _).mono ?_; rintro e w1 ⟨rfl, hb1⟩))
  have hs1 := hb1.size
  go_loopw [9, 10] (fun v i wr => ∃ k : Nat, k ≤ n ∧ i = .int .i64 k ∧ wr.ownsRow w.heap.size 5 1 v k (((xor3 A B C).take k).map u8v) ∧ Below w.heap.size w wr) (fun _ i _ => n - (intOf i).toNat)
  case atStart => exact ⟨0, by omega, rfl, World.ownsRow_nil _ _ _ _, hb1⟩
  case round =>
    obtain ⟨k, hk, rfl, hown, hbr⟩ := hrel
    have HO := Lib.hid hown; clear hown
    by_cases hlt : k < n
    · obtain ⟨x, hx⟩ : ∃ x, A[k]? = some x := ⟨A[k]'(by have := HA.out.1; simp at this; omega), by rw [List.getElem?_eq_getElem]⟩
      obtain ⟨y, hy⟩ : ∃ x, B[k]? = some x := ⟨B[k]'(by have := HB.out.1; simp at this; omega), by rw [List.getElem?_eq_getElem]⟩
      obtain ⟨z, hz⟩ : ∃ x, C[k]? = some x := ⟨C[k]'(by have := HC.out.1; simp at this; omega), by rw [List.getElem?_eq_getElem]⟩
      obtain ⟨ba, oa, rfl, ha, hla⟩ := HA.out.2 k (u8v x) (by simp [hx])
      obtain ⟨bb, ob, rfl, hb, hlb⟩ := HB.out.2 k (u8v y) (by simp [hy])
      obtain ⟨bc, oc, rfl, hc, hlc⟩ := HC.out.2 k (u8v z) (by simp [hz])
      have hstep := xor3_take A B C k x y z hx hy hz
      have HS := Lib.hid hstep
      have ca1 : wr.cell? ⟨ba, oa + k, none⟩ = some (.int .u8 (x.toNat : Int)) := by rw [hbr.cell hla]; exact ha
      have cb1 : wr.cell? ⟨bb, ob + k, none⟩ = some (.int .u8 (y.toNat : Int)) := by rw [hbr.cell hlb]; exact hb
      have cc1 : wr.cell? ⟨bc, oc + k, none⟩ = some (.int .u8 (z.toNat : Int)) := by rw [hbr.cell hlc]; exact hc
      clear hx hy hz ha hb hc hstep
      have hxl := x.isLt
      have hyl := y.isLt
      have hzl := z.isLt
      have k1 : bits BinOp.xor IntKind.u8 (x.toNat : Int) (y.toNat : Int) = ((x ^^^ y).toNat : Int) := by rw [u8_xor_nat _ _ x.isLt y.isLt, BitVec.toNat_xor]
      have k2 : bits BinOp.xor IntKind.u8 ((x ^^^ y).toNat : Int) (z.toNat : Int) = ((x ^^^ y ^^^ z).toNat : Int) := by rw [u8_xor_nat _ _ (x ^^^ y).isLt z.isLt, BitVec.toNat_xor (x ^^^ y)]
      generalize x ^^^ y ^^^ z = t at *
      generalize x ^^^ y = r at *
      go_wp2_with fail
      have hkn : (k + 1) * 1 ≤ 140737488355328 := by omega
      have hkm : k + 1 ≤ maxLen := by unfold maxLen; omega
      have hsr := hbr.size
      have hka : k < la := by omega
      have hkb : k < lb := by omega
      have hkc : k < lc := by omega
      have hcell : (wr.alloc (.cells #[.int .u8 (t.toNat : Int)] 5)).drew.cell? ⟨wr.heap.size, 0, none⟩ = some (u8v t) :=
        (cell_of_row _ _ _ _ _ _ (heap_alloc_new wr (.cells #[.int .u8 (t.toNat : Int)] 5))).trans rfl
      have hbig : w.heap.size ≤ (wr.alloc (.cells #[.int .u8 (t.toNat : Int)] 5)).drew.heap.size := by
        show w.heap.size ≤ (wr.alloc (.cells #[.int .u8 (t.toNat : Int)] 5)).heap.size
        rw [World.size_alloc]; omega
      have HCELL := Lib.hid hcell; clear hcell
      have hbelow : Below w.heap.size w (wr.alloc (.cells #[.int .u8 (t.toNat : Int)] 5)).drew := (hbr.alloc hbr.size _).drew
      go_region_law (first | (refine step_append_own rfl (.tmp 24) (.tmp 39) 23 rfl w.heap.size 5 i0 (.int .u8 0) 1 Try.underlying23 hi hz0 hz1 hz2 rfl _ k _ rfl ((HO.out.alloc _).drew) wr.heap.size 1 (u8v t) rfl HCELL.out rfl hkm hkn hbig ?_; intro v2 w2 hown2 hb2))
      all_goals go_wp2
      all_goals go_roundw
      all_goals first
        | (simp [intOf]; omega)
        | exact ⟨k + 1, by omega, by go_num, by rw [HS.out, List.map_append]; exact hown2, hbelow.trans hb2⟩
    · obtain rfl : k = n := by omega
      have hla : A.length = la := by have := HA.out.1; simpa using this
      have hlb : B.length = lb := by have := HB.out.1; simpa using this
      have hlc : C.length = lc := by have := HC.out.1; simpa using this
      have hdx : (xor3 A B C).take k = xor3 (A.take k) (B.take k) (C.take k) := by
        unfold xor3; rw [List.take_zipWith, List.take_zipWith]
      obtain ⟨a9, c9, hu9, hrow9⟩ := Row.own HO.out
      subst hu9
      have hBD : Bytes wr a9 k ((xor3 A B C).take k) := Bytes.of hrow9 (by omega)
      rw [hdx] at hBD
      have hA1 : Bytes wr a k (A.take k) := ((Bytes.ofAny HA.out).take k (by omega) (by omega)).below hbr
      have hB1 : Bytes wr b k (B.take k) := ((Bytes.ofAny HB.out).take k (by omega) (by omega)).below hbr
      have hC1 : Bytes wr c k (C.take k) := ((Bytes.ofAny HC.out).take k (by omega) (by omega)).below hbr
      have hsum : Crc.extend 0#32 (xor3 (A.take k) (B.take k) (C.take k)) = Crc.extend 0#32 (A.take k) ^^^ Crc.extend 0#32 (B.take k) ^^^ Crc.extend 0#32 (C.take k) :=
        Crc.extend_xors _ _ _ (by rw [List.length_take, List.length_take]; omega) (by rw [List.length_take, List.length_take]; omega)
      have C0 : ∀ d os, Calls Try.prog 9 #[.slice a9 k c9] (Sort.grow (redrawn wr d) os) fun e w'' => e = .returned (.int .u32 ((Crc.extend 0#32 (xor3 (A.take k) (B.take k) (C.take k))).toNat : Int)) ∧ ∃ p : Regrown, w'' = Sort.grow (redrawn wr p.d) p.os :=
        fun d os => Calls.regrown_of (sum_any _ _ _ _ _ (hBD.below (below_regrown wr d os)))
      have C1 : ∀ d os, Calls Try.prog 9 #[.slice a k ca] (Sort.grow (redrawn wr d) os) fun e w'' => e = .returned (.int .u32 ((Crc.extend 0#32 (A.take k)).toNat : Int)) ∧ ∃ p : Regrown, w'' = Sort.grow (redrawn wr p.d) p.os :=
        fun d os => Calls.regrown_of (sum_any _ _ _ _ _ (hA1.below (below_regrown wr d os)))
      have C2 : ∀ d os, Calls Try.prog 9 #[.slice b k cb] (Sort.grow (redrawn wr d) os) fun e w'' => e = .returned (.int .u32 ((Crc.extend 0#32 (B.take k)).toNat : Int)) ∧ ∃ p : Regrown, w'' = Sort.grow (redrawn wr p.d) p.os :=
        fun d os => Calls.regrown_of (sum_any _ _ _ _ _ (hB1.below (below_regrown wr d os)))
      have C3 : ∀ d os, Calls Try.prog 9 #[.slice c k cc] (Sort.grow (redrawn wr d) os) fun e w'' => e = .returned (.int .u32 ((Crc.extend 0#32 (C.take k)).toNat : Int)) ∧ ∃ p : Regrown, w'' = Sort.grow (redrawn wr p.d) p.os :=
        fun d os => Calls.regrown_of (sum_any _ _ _ _ _ (hC1.below (below_regrown wr d os)))
      rw [hsum] at C0
      clear hla hlb hlc hdx hsum hBD hA1 hB1 hC1 hrow9
      generalize Crc.extend 0#32 (A.take k) = sa at *
      generalize Crc.extend 0#32 (B.take k) = sb at *
      generalize Crc.extend 0#32 (C.take k) = sc at *
      have k1 := xor32_num sa sb
      have k2 := xor32_num (sa ^^^ sb) sc
      generalize sa ^^^ sb ^^^ sc = t at *
      generalize sa ^^^ sb = r at *
      have D0 := Lib.hid C0
      have D1 := Lib.hid C1
      have D2 := Lib.hid C2
      have D3 := Lib.hid C3
      clear C0 C1 C2 C3
      have hka : k ≤ ca := by omega
      have hkb : k ≤ cb := by omega
      have hkc : k ≤ cc := by omega
      go_wp2_with fail
      refine wp_region_quiet_below (by kernel_rfl) (by kernel_rfl) ?_
      repeat (go_big_quiet_step (first | with_reducible exact D0.out _ _ | with_reducible exact D1.out _ _ | with_reducible exact D2.out _ _ | with_reducible exact D3.out _ _))
      refine wpQuiet_nil ?_
      intro _ hw'
      obtain ⟨⟨dq, osq⟩, hw''⟩ := hw'
      subst hw''
      go_wp2
      all_goals (go_ret; exact ⟨rfl, hbr.trans ((below_regrown wr dq osq).mono hbr.size)⟩)
end Go.Proofs.Ytgbjaglkmjipmaa
