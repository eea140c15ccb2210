import Derived.Test.YtlmmmfkhmlafgaaMoves
namespace Go.Proofs.Ytlmmmfkhmlafgaa
open Go.RowKit
set_option linter.unusedVariables false

set_option maxRecDepth 100000 in
set_option maxHeartbeats 2000000 in
theorem moves_walk (c : Int) (hc1 : -2147483648 ≤ c) (hc2 : c ≤ 2147483647) (a : Option Addr) (len cap : Nat) (l : List Int) (w : World) (hl : Row w a len (l.map i32v)) (hw : ∀ x ∈ l, -2147483648 ≤ x ∧ x ≤ 2147483647)
    (hcap : len ≤ cap) (hcm : cap ≤ 9223372036854775807) :
    Calls Try.prog 7 #[.slice a len cap, .int .i32 c] w fun e w' => e = .returned (.bool true) ∧ Below w.heap.size w w' := by
  obtain ⟨i0, hi, hz0, hz1, hz2⟩ := info_parts info2
  obtain ⟨n, hn⟩ : ∃ n, n = min len 200 := ⟨_, rfl⟩
  have hn1 : n ≤ len := by omega
  have hn2 : n ≤ 200 := by omega
  have hn3 : n = len ∨ n = 200 := by omega
  clear hn
  have hlen : l.length = len := by have := hl.1; simpa using this
  have HLen := Lib.hid hlen; clear hlen
  have HL := Lib.hid hl; clear hl
  have HW := Lib.hid hw; clear hw
  go_enter Try.func7, Try.ntmps7
  go_wp2_with (first | (go_at_call 9; refine (shown_any _).mono ?_; rintro e w1 ⟨rfl, hb1⟩))
  have hst : Three w.heap.size w w1 (.slice none 0 0) (.slice none 0 0) (.slice none 0 0) 0 [] [] [] :=
    ⟨World.ownsRow_nil _ _ _ _, World.ownsRow_nil _ _ _ _, World.ownsRow_nil _ _ _ _, .inl rfl, .inl rfl, .inl rfl, hb1, Nat.le_refl _⟩
  have HS := Lib.hid hst; clear hst
  go_loopw [6, 7, 8, 9] (fun v6 v7 v8 i wr => ∃ k : Nat, k ≤ n ∧ i = .int .i64 k ∧ Three w.heap.size w wr v6 v7 v8 k ((l.take k).map i64v) (((l.take k).map (· + c)).map i64v) (((l.take k).map (- ·)).map i64v)) (fun _ _ _ i _ => n - (intOf i).toNat)
  case atStart => exact ⟨0, by omega, rfl, HS.out⟩
  case round =>
    obtain ⟨k, hk, rfl, hst⟩ := hrel
    clear HS
    have HT := Lib.hid hst
    have hbr := hst.bel
    have hsz := hst.bel.size
    clear hst
    by_cases hlt : k < n
    · obtain ⟨x, hx⟩ : ∃ x, l[k]? = some x := ⟨l[k]'(by rw [HLen.out]; omega), by rw [List.getElem?_eq_getElem]⟩
      obtain ⟨b, o, rfl, hc, hbl⟩ := HL.out.2 k (i32v x) (by simp [hx])
      have hcx : wr.cell? ⟨b, o + k, none⟩ = some (.int .i32 x) := by rw [hbr.cell hbl]; exact hc
      have htake : l.take (k + 1) = l.take k ++ [x] := by rw [List.take_add_one, hx]; rfl
      have hxb := HW.out x (List.mem_of_getElem? hx)
      obtain ⟨hx1, hx2⟩ := hxb
      have HTk := Lib.hid htake
      have HC := Lib.hid hc
      clear hc htake hx
      have hkl : (k : Int) < (len : Int) := by omega
      have hm1 : k + 1 ≤ maxLen := by unfold maxLen; omega
      have hm2 : (k + 1) * 8 ≤ 140737488355328 := by omega
      have e1 : (l.take (k + 1)).map i64v = (l.take k).map i64v ++ [i64v x] := by rw [HTk.out, List.map_append]; rfl
      have e2 : ((l.take (k + 1)).map (· + c)).map i64v = ((l.take k).map (· + c)).map i64v ++ [i64v (x + c)] := by rw [HTk.out, List.map_append, List.map_append]; rfl
      have e3 : ((l.take (k + 1)).map (- ·)).map i64v = ((l.take k).map (- ·)).map i64v ++ [i64v (-x)] := by rw [HTk.out, List.map_append, List.map_append]; rfl
      generalize (l.take k).map i64v = P at *
      generalize ((l.take k).map (· + c)).map i64v = Q at *
      generalize ((l.take k).map (- ·)).map i64v = R at *
      have E1 := Lib.hid e1
      have E2 := Lib.hid e2
      have E3 := Lib.hid e3
      clear e1 e2 e3
      go_wp2_with (first
        | (at_builtin; refine wpList_append_own_at _ rfl (.tmp 29) (.tmp 35) 22 rfl w.heap.size 2 i0 (.int .i64 0) 1 8 Try.underlying22 hi hz0 hz1 hz2 rfl (by decide) _ k P rfl (HT.out.o6.alloc _) ⟨wr.heap.size, 0, none⟩ 1 1 [i64v x] rfl rfl (news_one wr (i64v x) 2) (one_int .i64 x) hm1 hm2 (by simp; omega) ?_; intro v6' w3 hown3 hg3 _ hat3; have hf := HT.out.first hown3 hg3 hat3; obtain ⟨p7, p8, s67, s68, hb3⟩ := hf; have P6 := Lib.hid hown3; have P7 := Lib.hid p7; have P8 := Lib.hid p8; have S67 := Lib.hid s67; have S68 := Lib.hid s68; have hcx3 : w3.cell? ⟨b, o + k, none⟩ = some (.int .i32 x) := (hb3.cell hbl).trans HC.out; have hz3 := hb3.size; clear hown3 hg3 hat3 p7 p8 s67 s68)
        | (at_builtin; refine wpList_append_own_at _ rfl (.tmp 37) (.tmp 46) 22 rfl w.heap.size 2 i0 (.int .i64 0) 1 8 Try.underlying22 hi hz0 hz1 hz2 rfl (by decide) _ k Q rfl (P7.out.alloc _) ⟨w3.heap.size, 0, none⟩ 1 1 [i64v (x + c)] rfl rfl (news_one w3 (i64v (x + c)) 2) (one_int .i64 (x + c)) hm1 hm2 (by simp; omega) ?_; intro v7' w4 hown4 hg4 _ hat4; have hf := two_step P6.out P7.out P8.out S67.out HT.out.s78 hb3 (Nat.le_refl _) hown4 hg4 hat4; obtain ⟨q6, q8, t67, t78, hb4⟩ := hf; have hs68 := S68.out; have Q7 := Lib.hid hown4; have Q6 := Lib.hid q6; have Q8 := Lib.hid q8; have T67 := Lib.hid t67; have T78 := Lib.hid t78; have hcx4 : w4.cell? ⟨b, o + k, none⟩ = some (.int .i32 x) := (hb4.cell hbl).trans HC.out; have hz4 := hb4.size; clear hown4 hg4 hat4 q6 q8 t67 t78 hs68)
        | (at_builtin; refine wpList_append_own_at _ rfl (.tmp 48) (.tmp 55) 22 rfl w.heap.size 2 i0 (.int .i64 0) 1 8 Try.underlying22 hi hz0 hz1 hz2 rfl (by decide) _ k R rfl (Q8.out.alloc _) ⟨w4.heap.size, 0, none⟩ 1 1 [i64v (-x)] rfl rfl (news_one w4 (i64v (-x)) 2) (one_int .i64 (-x)) hm1 hm2 (by simp; omega) ?_; intro v8' w5 hown5 hg5 _ hat5; have hf := two_step Q6.out Q8.out Q7.out S68.out T78.out.symm hb4 (Nat.le_refl _) hown5 hg5 hat5; obtain ⟨r6, r7, u68, u87, hb5⟩ := hf; have FIN := Lib.hid (Three.mk r6 r7 hown5 T67.out u68 u87.symm hb5 (Nat.le_refl _)); clear hown5 hg5 hat5 r6 r7 u68 u87))
      go_roundw
      case rel => exact ⟨k + 1, by omega, by go_num, by rw [E1.out, E2.out, E3.out]; exact FIN.out⟩
      case measure => simp [intOf]; omega
    · obtain rfl : k = n := by omega
      have hLk : (l.take k).length = k := by rw [List.length_take, HLen.out]; omega
      have hin : ∀ x ∈ l.take k, -2147483648 ≤ x ∧ x ≤ 2147483647 := fun x hx => HW.out x (List.mem_of_mem_take hx)
      generalize l.take k = L at *
      obtain ⟨a6, c6, h6, r6⟩ := Row.own HT.out.o6
      obtain ⟨a7, c7, h7, r7⟩ := Row.own HT.out.o7
      obtain ⟨a8, c8, h8, r8⟩ := Row.own HT.out.o8
      subst h6 h7 h8
      have hm6 := median_any a6 k c6 L wr r6 (by omega)
      rw [mid_eq] at hm6
      have hbelow : ∀ (w3 : World), Below wr.heap.size wr w3 → Below w.heap.size w w3 := fun w3 h => hbr.trans (h.mono hbr.size)
      have HBW := Lib.hid hbelow; clear hbelow
      have hm7 : ∀ w3, Below wr.heap.size wr w3 → Calls Try.prog 12 #[.slice a7 k c7] w3 fun e w' => e = .returned (.tuple #[.int .i64 (kthOf (L.map (· + c)) (((k - 1) / 2 : Nat) : Int)), .bool (kthOk (L.map (· + c)) (((k - 1) / 2 : Nat) : Int))]) ∧ Below w3.heap.size w3 w' := fun w3 h => by
        have := median_any a7 k c7 (L.map (· + c)) w3 (r7.below h) (by omega)
        rwa [mid_eq] at this
      have hm8 : ∀ w3, Below wr.heap.size wr w3 → Calls Try.prog 11 #[.slice a8 k c8] w3 fun e w' => e = .returned (.tuple #[.int .i64 (kthOf (L.map (- ·)) 0), .bool (kthOk (L.map (- ·)) 0)]) ∧ Below w3.heap.size w3 w' := fun w3 h =>
        min_any a8 k c8 (L.map (- ·)) w3 (r8.below h) (by omega)
      have hm9 : ∀ w3, Below wr.heap.size wr w3 → Calls Try.prog 10 #[.slice a6 k c6, .int .i64 ((k : Int) - 1)] w3 fun e w' => e = .returned (.tuple #[.int .i64 (kthOf L ((k : Int) - 1)), .bool (kthOk L ((k : Int) - 1))]) ∧ Below w3.heap.size w3 w' := fun w3 h =>
        kth_any a6 k c6 ((k : Int) - 1) L w3 (r6.below h) (by omega)
      by_cases hk0 : k = 0
      · subst hk0
        have q1 := kthOut hLk 0 (by omega)
        have q2 := kthOut (l := L.map (· + c)) (n := 0) (by simpa using hLk) 0 (by omega)
        have q3 := kthOut (l := L.map (- ·)) (n := 0) (by simpa using hLk) 0 (by omega)
        have q4 := kthOut hLk (((0 : Nat) : Int) - 1) (by omega)
        rw [show (((0 - 1) / 2 : Nat) : Int) = 0 from rfl] at hm6 hm7
        rw [q1.1, q1.2] at hm6
        rw [q2.1, q2.2] at hm7
        rw [q3.1, q3.2] at hm8
        rw [q4.1, q4.2] at hm9
        clear q1 q2 q3 q4 hin
        have H6 := Lib.hid hm6
        have H7 := Lib.hid hm7
        have H8 := Lib.hid hm8
        have H9 := Lib.hid hm9
        clear hm6 hm7 hm8 hm9 r6 r7 r8 hLk
        have hle : len = 0 ∨ 0 < len := by omega
        obtain rfl : len = 0 := by omega
        go_wp2_with fail
        refine H6.out.mono ?_
        rintro e w3 ⟨rfl, hb3⟩
        go_wp2_with fail
        refine (H7.out _ hb3).mono ?_
        rintro e w4 ⟨rfl, hb4⟩
        have hb4 := hb3.trans (hb4.mono hb3.size)
        go_wp2_with fail
        refine (H8.out _ hb4).mono ?_
        rintro e w5 ⟨rfl, hb5⟩
        have hb5 := hb4.trans (hb5.mono hb4.size)
        go_wp2_with fail
        refine (H9.out _ hb5).mono ?_
        rintro e w6 ⟨rfl, hb6⟩
        have hb6 := hb5.trans (hb6.mono hb5.size)
        go_wp2
        go_ret
        exact ⟨rfl, HBW.out _ hb6⟩
      · obtain ⟨m, d, hmL, hdL, e1, e2, e3, e4⟩ := moves_eq hLk (by omega) c
        have q1 := (kthIn hLk ((k - 1) / 2) (by omega)).1
        have q2 := (kthIn (l := L.map (· + c)) (n := k) (by simpa using hLk) ((k - 1) / 2) (by omega)).1
        have q3 := (kthIn (l := L.map (- ·)) (n := k) (by simpa using hLk) 0 (by omega)).1
        have q4 := (kthIn hLk (k - 1) (by omega)).1
        rw [show ((k - 1 : Nat) : Int) = (k : Int) - 1 from by omega] at e4 q4
        rw [show ((0 : Nat) : Int) = 0 from rfl] at q3
        rw [q1, e1] at hm6
        rw [q2, e2] at hm7
        rw [q3, e3] at hm8
        rw [q4, e4] at hm9
        obtain ⟨b1, b2⟩ := hin m hmL
        obtain ⟨b3, b4⟩ := hin d hdL
        clear q1 q2 q3 q4 hin e1 e2 e3 e4 hmL hdL
        have H6 := Lib.hid hm6
        have H7 := Lib.hid hm7
        have H8 := Lib.hid hm8
        have H9 := Lib.hid hm9
        clear hm6 hm7 hm8 hm9 r6 r7 r8 hLk
        rcases (show k = len ∨ k < len from by omega) with h3 | h3
        · subst h3
          go_wp2_with fail
          refine H6.out.mono ?_
          rintro e w3 ⟨rfl, hb3⟩
          go_wp2_with fail
          refine (H7.out _ hb3).mono ?_
          rintro e w4 ⟨rfl, hb4⟩
          have hb4 := hb3.trans (hb4.mono hb3.size)
          go_wp2_with fail
          refine (H8.out _ hb4).mono ?_
          rintro e w5 ⟨rfl, hb5⟩
          have hb5 := hb4.trans (hb5.mono hb4.size)
          go_wp2_with fail
          refine (H9.out _ hb5).mono ?_
          rintro e w6 ⟨rfl, hb6⟩
          have hb6 := hb5.trans (hb6.mono hb5.size)
          go_wp2
          go_ret
          exact ⟨rfl, HBW.out _ hb6⟩
        · have hk1 : ¬ (k : Int) < 200 := by omega
          have hk2 : (k : Int) < (len : Int) := by omega
          clear hn3
          go_wp2_with fail
          refine H6.out.mono ?_
          rintro e w3 ⟨rfl, hb3⟩
          go_wp2_with fail
          refine (H7.out _ hb3).mono ?_
          rintro e w4 ⟨rfl, hb4⟩
          have hb4 := hb3.trans (hb4.mono hb3.size)
          go_wp2_with fail
          refine (H8.out _ hb4).mono ?_
          rintro e w5 ⟨rfl, hb5⟩
          have hb5 := hb4.trans (hb5.mono hb4.size)
          go_wp2_with fail
          refine (H9.out _ hb5).mono ?_
          rintro e w6 ⟨rfl, hb6⟩
          have hb6 := hb5.trans (hb6.mono hb5.size)
          go_wp2
          go_ret
          exact ⟨rfl, HBW.out _ hb6⟩
end Go.Proofs.Ytlmmmfkhmlafgaa
