/- Cover walked. -/
import Derived.Test.YtdbkbcihbajjdaaClos
namespace Go.Proofs.Ytdbkbcihbajjdaa
open Go.RowKit
set_option linter.unusedVariables false

/-- Is there such a span? -/
def okC (n : Int) (lo hi : Nat) : Bool := decide (1 ≤ n) && decide (n ≤ 59) && decide (lo ≤ hi) && decide (hi < 2 ^ n.toNat)
/-- Its pieces. -/
def covL (n : Int) (lo hi : Nat) : List (Nat × Nat) := if okC n lo hi then cv 0 lo hi else []
/-- What Cover answers. -/
def Cov (n : Int) (lo hi : Nat) (w : World) (e : Ending) (w' : World) : Prop :=
  ∃ a c, e = .returned (.tuple #[.slice a (covL n lo hi).length c, .bool (okC n lo hi)]) ∧ PRow w' a (covL n lo hi).length (covL n lo hi) ∧ Below w.heap.size w w'
theorem cov_bad {n : Int} {lo hi : Nat} (h : okC n lo hi = false) {w w' : World} (hb : Below w.heap.size w w') (a : Option Addr) (c : Nat) : Cov n lo hi w (.returned (.tuple #[.slice a 0 c, .bool false])) w' := by
  have : covL n lo hi = [] := by unfold covL; rw [h]; rfl
  refine ⟨a, c, ?_, ?_, hb⟩
  · rw [this, h]; rfl
  · rw [this]; exact ⟨rfl, .inl rfl⟩
theorem cov_good {n : Int} {lo hi : Nat} (h : okC n lo hi = true) {w w' : World} {B m : Nat} {v : Value} (hB : w.heap.size = B) (ho : w'.ownsRow B 30 2 v m (pcells (cv 0 lo hi))) (hb : Below w.heap.size w w') :
    ∃ a c, v = .slice a m c ∧ Cov n lo hi w (.returned (.tuple #[.slice a m c, .bool true])) w' := by
  have e : covL n lo hi = cv 0 lo hi := by unfold covL; rw [h]; rfl
  obtain ⟨a, c, rfl, hr, _⟩ := PRow.own ho
  refine ⟨a, c, rfl, a, c, ?_, ?_, hb⟩
  · rw [e, h, hr.1]
  · rw [e, hr.1]; exact hr
theorem and_one (x : Nat) (h : x < 18446744073709551616) : bits BinOp.and IntKind.u64 (x : Int) 1 = ((x % 2 : Nat) : Int) := by
  show IntKind.u64.wrap ((BitVec.ofInt 64 (x : Int) &&& BitVec.ofInt 64 1).toNat : Int) = _
  have e : (BitVec.ofInt 64 1).toNat = 2 ^ 1 - 1 := by decide
  rw [BitVec.toNat_and, e, Nat.and_two_pow_sub_one_eq_mod, BitVec.toNat_ofInt, IntKind.wrap_u64]
  omega
theorem cv_ee {L x y : Nat} (h : x < y) (h1 : x % 2 = 0) (h2 : y % 2 = 0) : cv L x y = cv (L + 1) (x / 2) ((y - 1) / 2) ++ [(L, y)] := by
  have h3 : x ≤ y - 1 := by omega
  rw [cv]; simp [h, h1, h2, h3]
theorem cv_eo {L x y : Nat} (h : x < y) (h1 : x % 2 = 0) (h2 : y % 2 = 1) : cv L x y = cv (L + 1) (x / 2) (y / 2) := by
  have h3 : x ≤ y := by omega
  rw [cv]; simp [h, h1, h2, h3]
theorem cv_oo {L x y : Nat} (h : x < y) (h1 : x % 2 = 1) (h2 : y % 2 = 1) : cv L x y = (L, x) :: cv (L + 1) ((x + 1) / 2) (y / 2) := by
  have h3 : x + 1 ≤ y := by omega
  rw [cv]; simp [h, h1, h2, h3]
theorem cv_oe {L x y : Nat} (h : x < y) (h1 : x % 2 = 1) (h2 : y % 2 = 0) (h3 : x + 1 ≤ y - 1) : cv L x y = (L, x) :: (cv (L + 1) ((x + 1) / 2) ((y - 1) / 2) ++ [(L, y)]) := by
  rw [cv]; simp [h, h1, h2, h3]
theorem cv_on {L x y : Nat} (h : x < y) (h1 : x % 2 = 1) (h2 : y % 2 = 0) (h3 : ¬ x + 1 ≤ y - 1) : cv L x y = [(L, x), (L, y)] := by
  rw [cv]; simp [h, h1, h2, h3]
theorem cv_eq (L k : Nat) : cv L k k = [(L, k)] := by rw [cv, if_neg (by omega)]
set_option maxRecDepth 100000 in
set_option maxHeartbeats 400000 in
theorem cover_bad (n : Int) (lo hi : Nat) (w : World) (hlo : lo < 18446744073709551616) (hhi : hi < 18446744073709551616) (hbad : okC n lo hi = false) :
    Calls Try.prog 10 #[.int .i64 n, .int .u64 lo, .int .u64 hi] w (Cov n lo hi w) := by
  have HB := Lib.hid ((Below.refl w.heap.size w).alloc (Nat.le_refl _) (.cells #[.slice none 0 0] 24))
  have HF := Lib.hid hbad
  by_cases h1 : 1 ≤ n
  · by_cases h2 : n ≤ 59
    · obtain ⟨k, rfl⟩ := Int.eq_ofNat_of_zero_le (show 0 ≤ n by omega)
      have hk : k ≤ 59 := by omega
      have hw := wrap_pow hk
      by_cases h3 : lo ≤ hi
      · have h4 : ¬ hi < 2 ^ k := by
          intro h4
          unfold okC at hbad
          simp [h2, h3] at hbad
          have := hbad (by omega)
          omega
        generalize 2 ^ k = P at *
        clear hbad
        go_enter_defers Try.func10, Try.ntmps10
        go_wp2
        exact ⟨.tuple #[.slice none 0 0, .bool false], by simp [results, Try.results10, go_sem], cov_bad HF.out HB.out none 0⟩
      · have g : decide (hi < lo) = true := by simpa using h3
        clear hbad
        go_enter_defers Try.func10, Try.ntmps10
        go_wp2
        exact ⟨.tuple #[.slice none 0 0, .bool false], by simp [results, Try.results10, go_sem], cov_bad HF.out HB.out none 0⟩
    · have g : decide (59 < n) = true := by simpa using h2
      have g0 : decide (n < 1) = false := by simpa using h1
      clear hbad
      go_enter_defers Try.func10, Try.ntmps10
      go_wp2
      exact ⟨.tuple #[.slice none 0 0, .bool false], by simp [results, Try.results10, go_sem], cov_bad HF.out HB.out none 0⟩
  · have g : decide (n < 1) = true := by simpa using h1
    clear hbad
    go_enter_defers Try.func10, Try.ntmps10
    go_wp2
    exact ⟨.tuple #[.slice none 0 0, .bool false], by simp [results, Try.results10, go_sem], cov_bad HF.out HB.out none 0⟩
/-- What a round of Cover meets. -/
def Rel (n : Nat) (lo hi : Nat) (w : World) (a1 a2 a9 : Value) (wr : World) : Prop :=
  ∃ (L x y : Nat) (v4 v5 : Value) (n4 n5 : Nat) (xs ys : List (Nat × Nat)), a1 = .int .u64 x ∧ a2 = .int .u64 y ∧ a9 = .int .i64 L ∧ x ≤ y ∧ L ≤ 59 ∧ y < 2 ^ (59 - L) ∧ n4 ≤ L ∧ n5 ≤ L ∧
    St w.heap.size w.heap.size (w.heap.size + 1) w wr v4 v5 n4 n5 xs ys ∧ xs ++ cv L x y ++ ys.reverse = cv 0 lo hi
theorem le_alloc {B : Nat} {W : World} (h : B ≤ W.heap.size) (o : Obj) : B ≤ (W.alloc o).heap.size := by simp; omega
theorem St.le {B b4 b5 w wr v4 v5 n4 n5 xs ys} (h : St B b4 b5 w wr v4 v5 n4 n5 xs ys) : B ≤ wr.heap.size := Nat.le_trans h.big h.bel.size
theorem news_p (W : World) {s : Nat} (hs : W.heap.size = s) (L x : Nat) : ∀ j u, (pcells [(L, x)])[j]? = some u → (W.alloc (.cells #[.int .i64 L, .int .u64 x] 30)).cell? ((⟨s, 0, none⟩ : Addr).add j) = some u := by
  subst hs
  intro j u hj
  match j, hj with
  | 0, hj =>
    simp [pcells] at hj; subst hj
    exact (cell_of_row _ _ _ _ _ _ (heap_alloc_new W (.cells #[.int .i64 L, .int .u64 x] 30))).trans rfl
  | 1, hj =>
    simp [pcells] at hj; subst hj
    exact (cell_of_row _ _ _ _ _ _ (heap_alloc_new W (.cells #[.int .i64 L, .int .u64 x] 30))).trans rfl
set_option maxRecDepth 100000 in
set_option maxHeartbeats 1000000 in
theorem cover_good (n : Int) (lo hi : Nat) (w : World) (hlo : lo < 18446744073709551616) (hhi : hi < 18446744073709551616) (hok : okC n lo hi = true) :
    Calls Try.prog 10 #[.int .i64 n, .int .u64 lo, .int .u64 hi] w (Cov n lo hi w) := by
  have hmf : ∀ (fn : Fn) (first cap : Array Value) (w : World), (Instr.makeFunc fn first cap).run Try.prog w = .ok (.func fn first cap) w := fun _ _ _ _ => rfl
  obtain ⟨i0, hi0, hz0, hz1, hz2⟩ := info_parts info30
  have HF := Lib.hid hok
  unfold okC at hok
  simp only [Bool.and_eq_true, decide_eq_true_eq] at hok
  obtain ⟨⟨⟨h1, h2⟩, h3⟩, h4⟩ := hok
  obtain ⟨k, rfl⟩ := Int.eq_ofNat_of_zero_le (show 0 ≤ n by omega)
  rw [Int.toNat_natCast] at h4
  have hk : k ≤ 59 := by omega
  have hw := wrap_pow hk
  have H59 := Lib.hid (show hi < 2 ^ (59 - 0) from Nat.lt_of_lt_of_le h4 (Nat.pow_le_pow_right (by omega) hk))
  have hst : St w.heap.size w.heap.size (w.heap.size + 1) w ((w.alloc (.cells #[.slice none 0 0] 24)).alloc (.cells #[.slice none 0 0] 24)) (.slice none 0 0) (.slice none 0 0) 0 0 [] [] := by
    refine ⟨by omega, by omega, by omega, ?_, ?_, World.ownsRow_nil _ _ _ _, World.ownsRow_nil _ _ _ _, .inl rfl, ?_, Nat.le_refl _⟩
    · rw [Below.heap_alloc _ _ _ (by simp)]
      exact heap_alloc_new w _
    · have := heap_alloc_new (w.alloc (.cells #[.slice none 0 0] 24)) (.cells #[.slice none 0 0] 24)
      simpa using this
    · exact ((Below.refl _ _).alloc (Nat.le_refl _) _).alloc (by simp) _
  have HS := Lib.hid hst; clear hst
  have g0 : decide ((k : Int) < 1) = false := by simp; omega
  have g1 : decide (59 < (k : Int)) = false := by simp; omega
  generalize 2 ^ k = P at *
  go_enter_defers Try.func10, Try.ntmps10
  go_wp2
  generalize (w.alloc (.cells #[.slice none 0 0] 24)).alloc (.cells #[.slice none 0 0] 24) = w0 at *
  go_loopw [1, 2, 9] (fun a1 a2 a9 wr => Rel k lo hi w a1 a2 a9 wr) (fun a1 a2 _ _ => (intOf a2 - intOf a1).toNat)
  case atStart => exact ⟨0, lo, hi, _, _, 0, 0, [], [], rfl, rfl, rfl, h3, by omega, H59.out, by omega, by omega, HS.out, by simp⟩
  case round =>
    obtain ⟨L, x, y, v4, v5, n4, n5, xs, ys, rfl, rfl, rfl, hxy, hL, hy, hn4, hn5, hst, hcv⟩ := hrel
    have hl4 := hst.len4
    obtain ⟨a4, k4, rfl, _⟩ := PRow.own hst.o4
    obtain ⟨a5, k5, rfl, _⟩ := PRow.own hst.o5
    have c4 := cell_of_one hst.h4
    have c5 := cell_of_one hst.h5
    have f4 := free_of_one hst.h4
    have f5 := free_of_one hst.h5
    clear HS
    have HS := Lib.hid hst; clear hst
    have HC := Lib.hid hcv; clear hcv
    have hm4 : n4 + 1 ≤ maxLen := by unfold maxLen; omega
    have hm5 : n5 + 1 ≤ maxLen := by unfold maxLen; omega
    have hn4' : (n4 + 1) * 16 ≤ 140737488355328 := by omega
    have hn5' : (n5 + 1) * 16 ≤ 140737488355328 := by omega
    have hx64 : x < 18446744073709551616 := by
      have := pow_le59 (show 59 - L ≤ 59 by omega)
      omega
    have hy64 : y < 576460752303423489 := by
      have := pow_le59 (show 59 - L ≤ 59 by omega)
      omega
    by_cases hlt : x < y
    · have hL58 : L ≤ 58 := by
        rcases Nat.lt_or_ge 58 L with h | h
        · have : 59 - L = 0 := by omega
          rw [this] at hy
          simp at hy
          omega
        · exact h
      have hy2 : y / 2 < 2 ^ (59 - (L + 1)) := by
        have : 59 - L = 59 - (L + 1) + 1 := by omega
        rw [this, Nat.pow_succ] at hy
        omega
      have HY2 := Lib.hid hy2
      have hands := and_one x hx64
      have handt := and_one y (by omega)
      have hcv := HC.out
      have hshx : IntKind.u64.wrap ((x : Int) / 2) = ((x / 2 : Nat) : Int) := by rw [IntKind.wrap_u64]; omega
      clear hy hy2 hxy
      rcases Nat.mod_two_eq_zero_or_one x with ho | ho
      · rcases Nat.mod_two_eq_zero_or_one y with he | he
        · rw [ho] at hands
          rw [he] at handt
          rw [cv_ee hlt ho he] at hcv
          have HC2 := Lib.hid hcv; clear hcv
          go_wp2_with (at_builtin; refine wpList_append_own_at _ rfl (.tmp 54) (.tmp 58) 24 rfl w.heap.size 30 i0 _ 2 16 Try.underlying24 hi0 hz0 hz1 hz2 rfl (by decide) _ _ _ rfl (HS.out.o5.alloc _) ⟨wr.heap.size, 0, none⟩ 1 1 (pcells [(L, y)]) rfl rfl (news_p _ (by simp) L y) (one_cells _) hm5 hn5' (le_alloc HS.out.le _) ?_; intro v1' w1 hown' hg' _ hat'; rw [← pcells_append] at hown'; obtain ⟨a1, c1, hv', _⟩ := PRow.own hown'; subst hv'; have hh := HS.out.held (.inr rfl) hg'; obtain ⟨d4, g4, d5, g5⟩ := hh; have HST1 := Lib.hid (HS.out.step5 hown' hg' hat'); clear hown' hg' hat')
          refine ⟨⟨L + 1, x / 2, (y - 1) / 2, _, _, n4, n5 + 1, xs, ys ++ [(L, y)], congrArg (Value.int .u64) (by omega), congrArg (Value.int .u64) (by omega), congrArg (Value.int .i64) (by omega), by omega, by omega, by have := HY2.out; omega, by omega, by omega, HST1.out, ?_⟩, by simp [intOf]; omega⟩
          rw [← HC2.out]; simp
        · rw [ho] at hands
          rw [he] at handt
          rw [cv_eo hlt ho he] at hcv
          have HC2 := Lib.hid hcv; clear hcv
          go_wp2
          refine ⟨⟨L + 1, x / 2, y / 2, _, _, n4, n5, xs, ys, congrArg (Value.int .u64) (by omega), congrArg (Value.int .u64) (by omega), congrArg (Value.int .i64) (by omega), by omega, by omega, by have := HY2.out; omega, by omega, by omega, HS.out, ?_⟩, by simp [intOf]; omega⟩
          rw [← HC2.out]
      · rcases Nat.mod_two_eq_zero_or_one y with he | he
        · rw [ho] at hands
          rw [he] at handt
          by_cases hle : x + 1 ≤ y - 1
          · rw [cv_oe hlt ho he hle] at hcv
            have HC2 := Lib.hid hcv; clear hcv
            go_wp2_with (first | (at_builtin; refine wpList_append_own_at _ rfl (.tmp 43) (.tmp 47) 24 rfl w.heap.size 30 i0 _ 2 16 Try.underlying24 hi0 hz0 hz1 hz2 rfl (by decide) _ _ _ rfl (HS.out.o4.alloc _) ⟨wr.heap.size, 0, none⟩ 1 1 (pcells [(L, x)]) rfl rfl (news_p _ (by simp) L x) (one_cells _) hm4 hn4' (le_alloc HS.out.le _) ?_; intro v1' w1 hown' hg' _ hat'; rw [← pcells_append] at hown'; obtain ⟨a1, c1, hv', _⟩ := PRow.own hown'; subst hv'; have hh := HS.out.held (.inl rfl) hg'; obtain ⟨d4, g4, d5, g5⟩ := hh; have HST1 := Lib.hid (HS.out.step4 hown' hg' hat'); clear hown' hg' hat') | (at_builtin; refine wpList_append_own_at _ rfl (.tmp 54) (.tmp 58) 24 rfl w.heap.size 30 i0 _ 2 16 Try.underlying24 hi0 hz0 hz1 hz2 rfl (by decide) _ _ _ rfl (HST1.out.o5.alloc _) ⟨w1.heap.size, 0, none⟩ 1 1 (pcells [(L, y)]) rfl rfl (news_p _ (by simp) L y) (one_cells _) hm5 hn5' (le_alloc HST1.out.le _) ?_; intro v2' w2 hown' hg' _ hat'; rw [← pcells_append] at hown'; obtain ⟨a2, c2, hv', _⟩ := PRow.own hown'; subst hv'; have hh := HST1.out.held (.inr rfl) hg'; obtain ⟨d4, g4, d5, g5⟩ := hh; have HST2 := Lib.hid (HST1.out.step5 hown' hg' hat'); clear hown' hg' hat'))
            refine ⟨⟨L + 1, (x + 1) / 2, (y - 1) / 2, _, _, n4 + 1, n5 + 1, xs ++ [(L, x)], ys ++ [(L, y)], congrArg (Value.int .u64) (by omega), congrArg (Value.int .u64) (by omega), congrArg (Value.int .i64) (by omega), by omega, by omega, by have := HY2.out; omega, by omega, by omega, HST2.out, ?_⟩, by simp [intOf]; omega⟩
            rw [← HC2.out]; simp
          · rw [cv_on hlt ho he hle] at hcv
            have HC2 := Lib.hid (show (xs ++ [(L, x)]) ++ (ys ++ [(L, y)]).reverse = cv 0 lo hi by rw [← hcv]; simp); clear hcv
            go_wp2_with (first | (at_builtin; refine wpList_append_own_at _ rfl (.tmp 43) (.tmp 47) 24 rfl w.heap.size 30 i0 _ 2 16 Try.underlying24 hi0 hz0 hz1 hz2 rfl (by decide) _ _ _ rfl (HS.out.o4.alloc _) ⟨wr.heap.size, 0, none⟩ 1 1 (pcells [(L, x)]) rfl rfl (news_p _ (by simp) L x) (one_cells _) hm4 hn4' (le_alloc HS.out.le _) ?_; intro v1' w1 hown' hg' _ hat'; rw [← pcells_append] at hown'; obtain ⟨a1, c1, hv', _⟩ := PRow.own hown'; subst hv'; have hh := HS.out.held (.inl rfl) hg'; obtain ⟨d4, g4, d5, g5⟩ := hh; have HST1 := Lib.hid (HS.out.step4 hown' hg' hat'); clear hown' hg' hat') | (at_builtin; refine wpList_append_own_at _ rfl (.tmp 54) (.tmp 58) 24 rfl w.heap.size 30 i0 _ 2 16 Try.underlying24 hi0 hz0 hz1 hz2 rfl (by decide) _ _ _ rfl (HST1.out.o5.alloc _) ⟨w1.heap.size, 0, none⟩ 1 1 (pcells [(L, y)]) rfl rfl (news_p _ (by simp) L y) (one_cells _) hm5 hn5' (le_alloc HST1.out.le _) ?_; intro v2' w2 hown' hg' _ hat'; rw [← pcells_append] at hown'; obtain ⟨a2, c2, hv', _⟩ := PRow.own hown'; subst hv'; have hh := HST1.out.held (.inr rfl) hg'; obtain ⟨d4, g4, d5, g5⟩ := hh; have HST2 := Lib.hid (HST1.out.step5 hown' hg' hat'); clear hown' hg' hat'))
            rw [setCell_one_self HST2.out.h4]
            refine leaves_cons (f := 17) (args := #[.pointer (some ⟨w.heap.size + 1, 0, none⟩), .pointer (some ⟨w.heap.size, 0, none⟩)]) (by simp) (by simp [go_sem]) ?_
            refine (clos_any HST2.out (by omega) (by omega)).mono ?_
            rintro e u' w' ⟨rfl, rfl, v', hh4, ho, hb⟩
            rw [HC2.out] at ho
            obtain ⟨av, cc, rfl, hcov⟩ := cov_good HF.out rfl ho hb
            have cf := cell_of_one hh4
            exact ⟨_, by simp [results, Try.results10, go_sem, cf], hcov⟩
        · rw [ho] at hands
          rw [he] at handt
          rw [cv_oo hlt ho he] at hcv
          have HC2 := Lib.hid hcv; clear hcv
          go_wp2_with (at_builtin; refine wpList_append_own_at _ rfl (.tmp 43) (.tmp 47) 24 rfl w.heap.size 30 i0 _ 2 16 Try.underlying24 hi0 hz0 hz1 hz2 rfl (by decide) _ _ _ rfl (HS.out.o4.alloc _) ⟨wr.heap.size, 0, none⟩ 1 1 (pcells [(L, x)]) rfl rfl (news_p _ (by simp) L x) (one_cells _) hm4 hn4' (le_alloc HS.out.le _) ?_; intro v1' w1 hown' hg' _ hat'; rw [← pcells_append] at hown'; obtain ⟨a1, c1, hv', _⟩ := PRow.own hown'; subst hv'; have hh := HS.out.held (.inl rfl) hg'; obtain ⟨d4, g4, d5, g5⟩ := hh; have HST1 := Lib.hid (HS.out.step4 hown' hg' hat'); clear hown' hg' hat')
          refine ⟨⟨L + 1, (x + 1) / 2, y / 2, _, _, n4 + 1, n5, xs ++ [(L, x)], ys, congrArg (Value.int .u64) (by omega), congrArg (Value.int .u64) (by omega), congrArg (Value.int .i64) (by omega), by omega, by omega, by have := HY2.out; omega, by omega, by omega, HST1.out, ?_⟩, by simp [intOf]; omega⟩
          rw [← HC2.out]; simp
    · obtain rfl : x = y := by omega
      have hcv := HC.out
      rw [cv_eq] at hcv
      have HC2 := Lib.hid hcv; clear hcv
      go_wp2_with (at_builtin; refine wpList_append_own_at _ rfl (.tmp 33) (.tmp 37) 24 rfl w.heap.size 30 i0 _ 2 16 Try.underlying24 hi0 hz0 hz1 hz2 rfl (by decide) _ _ _ rfl (HS.out.o4.alloc _) ⟨wr.heap.size, 0, none⟩ 1 1 (pcells [(L, x)]) rfl rfl (news_p _ (by simp) L x) (one_cells _) hm4 hn4' (le_alloc HS.out.le _) ?_; intro v1' w1 hown' hg' _ hat'; rw [← pcells_append] at hown'; obtain ⟨a1, c1, hv', _⟩ := PRow.own hown'; subst hv'; have hh := HS.out.held (.inl rfl) hg'; obtain ⟨d4, g4, d5, g5⟩ := hh; have HST1 := Lib.hid (HS.out.step4 hown' hg' hat'); clear hown' hg' hat')
      rw [setCell_one_self HST1.out.h4]
      refine leaves_cons (f := 17) (args := #[.pointer (some ⟨w.heap.size + 1, 0, none⟩), .pointer (some ⟨w.heap.size, 0, none⟩)]) (by simp) (by simp [go_sem]) ?_
      refine (clos_any HST1.out (by omega) (by omega)).mono ?_
      rintro e u' w' ⟨rfl, rfl, v', hh4, ho, hb⟩
      rw [HC2.out] at ho
      obtain ⟨av, cc, rfl, hcov⟩ := cov_good HF.out rfl ho hb
      have cf := cell_of_one hh4
      exact ⟨_, by simp [results, Try.results10, go_sem, cf], hcov⟩
end Go.Proofs.Ytdbkbcihbajjdaa
