/- Each command that is told: its shape. Plain. -/
import Derived.Test.YtjhlpmigkbaegaaDoorShape2
namespace Go.Proofs.YtjhlpmigkbaegaaDoor
open Go.RowKit
set_option linter.unusedVariables false

theorem nums_words {L : List (ByteArray × Nat)} {fin : Nat} {v : ByteArray} {k n : Nat} (h0 : L[0]? = some (v, k)) (hb : (runNums L fin n 1 (-1)).2.2 = -1) (hl : L.length ≤ (runNums L fin n 1 (-1)).2.1) :
    ∃ ws : List ByteArray, ws.length = n ∧ (∀ w ∈ ws, numB w = true) ∧ (runNums L fin n 1 (-1)).1 = ws.map numI ∧ L.map Prod.fst = v :: ws := by
  obtain ⟨ws, h1, h2, h3, h4, h5⟩ := runNums_ok n 1 hb
  exact ⟨ws, h1, h2, h4, map_fst_of h0 h1 h3 (by omega)⟩
theorem kinds_nums {ws : List ByteArray} (h : ∀ w ∈ ws, numB w = true) : ∀ w ∈ ws, PlainW w ∨ namedB w = true := fun w hw => .inl (numB_plain (h w hw))
theorem lineS_cons (v : ByteArray) (x : Int) (l : List Int) : lineS (lineS v [x]) l = lineS v (x :: l) := rfl
theorem ok_nums {ws : List ByteArray} (h : ∀ w ∈ ws, numB w = true) : ∀ x ∈ ws.map numI, I64 x := by
  intro x hx
  obtain ⟨w, hw, rfl⟩ := List.mem_map.1 hx
  exact (numB_ok (h w hw)).2
theorem shape_create {L : List (ByteArray × Nat)} {fin : Nat} {c : Cmd} {i : Int} {k : Nat} (hL : L[0]? = some (⟨#[99, 114, 101, 97, 116, 101]⟩, k)) (h : told L fin (runCmd L fin) = (some c, i, 0)) (hz : ∀ p ∈ L, p.1.size ≤ 1048576) : ∃ ws, Shape L c ⟨#[99, 114, 101, 97, 116, 101]⟩ ws ∧ c.Ok ∧ verbC c = ⟨#[99, 114, 101, 97, 116, 101]⟩ := by
  rw [runCmd_create fin hL] at h
  obtain ⟨h1, h2, h3, _⟩ := told_ok h (runNums_two 5 1 (-1) (.inl rfl))
  simp only [Option.some.injEq] at h1 h2 h3
  obtain ⟨ws, hn, hB, hv, hm⟩ := nums_words hL h2 h3
  rw [hv] at h1
  subst h1
  have hO := ok_nums hB
  refine ⟨ws, ⟨hm, ?_, by decide, kinds_nums hB⟩, hO, rfl⟩
  match ws, hn with
  | [w0, w1, w2, w3, w4], _ =>
    show lineS _ [numI w0, numI w1, numI w2, numI w3, turn (numI w4)] = _
    rw [turn_of (numB_ok (hB w4 (by simp))).2]
    exact lineS_nums _ [w0, w1, w2, w3, w4] hB
theorem shape_window {L : List (ByteArray × Nat)} {fin : Nat} {c : Cmd} {i : Int} {k : Nat} (hL : L[0]? = some (⟨#[119, 105, 110, 100, 111, 119]⟩, k)) (h : told L fin (runCmd L fin) = (some c, i, 0)) (hz : ∀ p ∈ L, p.1.size ≤ 1048576) : ∃ ws, Shape L c ⟨#[119, 105, 110, 100, 111, 119]⟩ ws ∧ c.Ok ∧ verbC c = ⟨#[119, 105, 110, 100, 111, 119]⟩ := by
  rw [runCmd_window fin hL] at h
  obtain ⟨h1, h2, h3, _⟩ := told_ok h (runNums_two 5 1 (-1) (.inl rfl))
  simp only [Option.some.injEq] at h1 h2 h3
  obtain ⟨ws, hn, hB, hv, hm⟩ := nums_words hL h2 h3
  rw [hv] at h1
  subst h1
  have hO := ok_nums hB
  refine ⟨ws, ⟨hm, ?_, by decide, kinds_nums hB⟩, hO, rfl⟩
  match ws, hn with
  | [w0, w1, w2, w3, w4], _ =>
    show lineS _ [numI w0, numI w1, numI w2, turn (numI w3), numI w4] = _
    rw [turn_of (numB_ok (hB w3 (by simp))).2]
    exact lineS_nums _ [w0, w1, w2, w3, w4] hB
theorem shape_quantile {L : List (ByteArray × Nat)} {fin : Nat} {c : Cmd} {i : Int} {k : Nat} (hL : L[0]? = some (⟨#[113, 117, 97, 110, 116, 105, 108, 101]⟩, k)) (h : told L fin (runCmd L fin) = (some c, i, 0)) (hz : ∀ p ∈ L, p.1.size ≤ 1048576) : ∃ ws, Shape L c ⟨#[113, 117, 97, 110, 116, 105, 108, 101]⟩ ws ∧ c.Ok ∧ verbC c = ⟨#[113, 117, 97, 110, 116, 105, 108, 101]⟩ := by
  rw [runCmd_quantile fin hL] at h
  obtain ⟨h1, h2, h3, _⟩ := told_ok h (runNums_two 2 1 (-1) (.inl rfl))
  simp only [Option.some.injEq] at h1 h2 h3
  obtain ⟨ws, hn, hB, hv, hm⟩ := nums_words hL h2 h3
  rw [hv] at h1
  subst h1
  have hO := ok_nums hB
  match ws, hn with
  | [w0, w1], _ =>
    refine ⟨[w0, w1], ⟨hm, ?_, by decide, kinds_nums hB⟩, ⟨by decide, hO _ (by simp [hd0]), by simp, fun x hx => hO x (List.mem_of_mem_tail hx)⟩, rfl⟩
    exact lineS_nums _ [w0, w1] hB
theorem shape_point {L : List (ByteArray × Nat)} {fin : Nat} {c : Cmd} {i : Int} {k : Nat} (hL : L[0]? = some (⟨#[112, 111, 105, 110, 116]⟩, k)) (h : told L fin (runCmd L fin) = (some c, i, 0)) (hz : ∀ p ∈ L, p.1.size ≤ 1048576) : ∃ ws, Shape L c ⟨#[112, 111, 105, 110, 116]⟩ ws ∧ c.Ok ∧ verbC c = ⟨#[112, 111, 105, 110, 116]⟩ := by
  rw [runCmd_point fin hL] at h
  obtain ⟨h1, h2, h3, _⟩ := told_ok h (runNums_two 3 1 (-1) (.inl rfl))
  simp only [Option.some.injEq] at h1 h2 h3
  obtain ⟨ws, hn, hB, hv, hm⟩ := nums_words hL h2 h3
  rw [hv] at h1
  subst h1
  have hO := ok_nums hB
  match ws, hn with
  | [w0, w1, w2], _ =>
    refine ⟨[w0, w1, w2], ⟨hm, ?_, by decide, kinds_nums hB⟩, ⟨by decide, hO _ (by simp [hd0]), by simp, fun x hx => hO x (List.mem_of_mem_tail hx)⟩, rfl⟩
    exact lineS_nums _ [w0, w1, w2] hB
theorem shape_range {L : List (ByteArray × Nat)} {fin : Nat} {c : Cmd} {i : Int} {k : Nat} (hL : L[0]? = some (⟨#[114, 97, 110, 103, 101]⟩, k)) (h : told L fin (runCmd L fin) = (some c, i, 0)) (hz : ∀ p ∈ L, p.1.size ≤ 1048576) : ∃ ws, Shape L c ⟨#[114, 97, 110, 103, 101]⟩ ws ∧ c.Ok ∧ verbC c = ⟨#[114, 97, 110, 103, 101]⟩ := by
  rw [runCmd_range fin hL] at h
  obtain ⟨h1, h2, h3, _⟩ := told_ok h (runNums_two 3 1 (-1) (.inl rfl))
  simp only [Option.some.injEq] at h1 h2 h3
  obtain ⟨ws, hn, hB, hv, hm⟩ := nums_words hL h2 h3
  rw [hv] at h1
  subst h1
  have hO := ok_nums hB
  match ws, hn with
  | [w0, w1, w2], _ =>
    refine ⟨[w0, w1, w2], ⟨hm, ?_, by decide, kinds_nums hB⟩, ⟨by decide, hO _ (by simp [hd0]), by simp, fun x hx => hO x (List.mem_of_mem_tail hx)⟩, rfl⟩
    exact lineS_nums _ [w0, w1, w2] hB
theorem shape_heavy {L : List (ByteArray × Nat)} {fin : Nat} {c : Cmd} {i : Int} {k : Nat} (hL : L[0]? = some (⟨#[104, 101, 97, 118, 121]⟩, k)) (h : told L fin (runCmd L fin) = (some c, i, 0)) (hz : ∀ p ∈ L, p.1.size ≤ 1048576) : ∃ ws, Shape L c ⟨#[104, 101, 97, 118, 121]⟩ ws ∧ c.Ok ∧ verbC c = ⟨#[104, 101, 97, 118, 121]⟩ := by
  rw [runCmd_heavy fin hL] at h
  obtain ⟨h1, h2, h3, _⟩ := told_ok h (runNums_two 3 1 (-1) (.inl rfl))
  simp only [Option.some.injEq] at h1 h2 h3
  obtain ⟨ws, hn, hB, hv, hm⟩ := nums_words hL h2 h3
  rw [hv] at h1
  subst h1
  have hO := ok_nums hB
  match ws, hn with
  | [w0, w1, w2], _ =>
    refine ⟨[w0, w1, w2], ⟨hm, ?_, by decide, kinds_nums hB⟩, ⟨by decide, hO _ (by simp [hd0]), by simp, fun x hx => hO x (List.mem_of_mem_tail hx)⟩, rfl⟩
    exact lineS_nums _ [w0, w1, w2] hB
theorem shape_inner {L : List (ByteArray × Nat)} {fin : Nat} {c : Cmd} {i : Int} {k : Nat} (hL : L[0]? = some (⟨#[105, 110, 110, 101, 114]⟩, k)) (h : told L fin (runCmd L fin) = (some c, i, 0)) (hz : ∀ p ∈ L, p.1.size ≤ 1048576) : ∃ ws, Shape L c ⟨#[105, 110, 110, 101, 114]⟩ ws ∧ c.Ok ∧ verbC c = ⟨#[105, 110, 110, 101, 114]⟩ := by
  rw [runCmd_inner fin hL] at h
  obtain ⟨h1, h2, h3, _⟩ := told_ok h (runNums_two 2 1 (-1) (.inl rfl))
  simp only [Option.some.injEq] at h1 h2 h3
  obtain ⟨ws, hn, hB, hv, hm⟩ := nums_words hL h2 h3
  rw [hv] at h1
  subst h1
  have hO := ok_nums hB
  match ws, hn with
  | [w0, w1], _ =>
    refine ⟨[w0, w1], ⟨hm, ?_, by decide, kinds_nums hB⟩, ⟨by decide, hO _ (by simp [hd0]), hO _ (by simp [hd0])⟩, rfl⟩
    exact lineS_nums _ [w0, w1] hB
theorem shape_merge {L : List (ByteArray × Nat)} {fin : Nat} {c : Cmd} {i : Int} {k : Nat} (hL : L[0]? = some (⟨#[109, 101, 114, 103, 101]⟩, k)) (h : told L fin (runCmd L fin) = (some c, i, 0)) (hz : ∀ p ∈ L, p.1.size ≤ 1048576) : ∃ ws, Shape L c ⟨#[109, 101, 114, 103, 101]⟩ ws ∧ c.Ok ∧ verbC c = ⟨#[109, 101, 114, 103, 101]⟩ := by
  rw [runCmd_merge fin hL] at h
  obtain ⟨h1, h2, h3, _⟩ := told_ok h (runNums_two 2 1 (-1) (.inl rfl))
  simp only [Option.some.injEq] at h1 h2 h3
  obtain ⟨ws, hn, hB, hv, hm⟩ := nums_words hL h2 h3
  rw [hv] at h1
  subst h1
  have hO := ok_nums hB
  match ws, hn with
  | [w0, w1], _ =>
    refine ⟨[w0, w1], ⟨hm, ?_, by decide, kinds_nums hB⟩, ⟨by decide, hO _ (by simp [hd0]), hO _ (by simp [hd0])⟩, rfl⟩
    exact lineS_nums _ [w0, w1] hB
theorem shape_subtract {L : List (ByteArray × Nat)} {fin : Nat} {c : Cmd} {i : Int} {k : Nat} (hL : L[0]? = some (⟨#[115, 117, 98, 116, 114, 97, 99, 116]⟩, k)) (h : told L fin (runCmd L fin) = (some c, i, 0)) (hz : ∀ p ∈ L, p.1.size ≤ 1048576) : ∃ ws, Shape L c ⟨#[115, 117, 98, 116, 114, 97, 99, 116]⟩ ws ∧ c.Ok ∧ verbC c = ⟨#[115, 117, 98, 116, 114, 97, 99, 116]⟩ := by
  rw [runCmd_subtract fin hL] at h
  obtain ⟨h1, h2, h3, _⟩ := told_ok h (runNums_two 2 1 (-1) (.inl rfl))
  simp only [Option.some.injEq] at h1 h2 h3
  obtain ⟨ws, hn, hB, hv, hm⟩ := nums_words hL h2 h3
  rw [hv] at h1
  subst h1
  have hO := ok_nums hB
  match ws, hn with
  | [w0, w1], _ =>
    refine ⟨[w0, w1], ⟨hm, ?_, by decide, kinds_nums hB⟩, ⟨by decide, hO _ (by simp [hd0]), hO _ (by simp [hd0])⟩, rfl⟩
    exact lineS_nums _ [w0, w1] hB
theorem shape_total {L : List (ByteArray × Nat)} {fin : Nat} {c : Cmd} {i : Int} {k : Nat} (hL : L[0]? = some (⟨#[116, 111, 116, 97, 108]⟩, k)) (h : told L fin (runCmd L fin) = (some c, i, 0)) (hz : ∀ p ∈ L, p.1.size ≤ 1048576) : ∃ ws, Shape L c ⟨#[116, 111, 116, 97, 108]⟩ ws ∧ c.Ok ∧ verbC c = ⟨#[116, 111, 116, 97, 108]⟩ := by
  rw [runCmd_total fin hL] at h
  obtain ⟨h1, h2, h3, _⟩ := told_ok h (numE_two 1 (-1) (.inl rfl))
  simp only [Option.some.injEq] at h1 h2 h3
  obtain ⟨_, p, hp, _, hq, hA, hR⟩ := numE_ok (.inl rfl) h2
  rw [hR] at h1
  rw [hA] at h3
  subst h1
  have hO := (numB_ok hq).2
  refine ⟨[p.1], ⟨map_fst_of hL (n := 1) rfl (fun i hi => by match i, hi with | 0, _ => rw [hp]; rfl) h3, ?_, by decide, fun w hw => .inl (by simp only [List.mem_singleton] at hw; subst hw; exact numB_plain hq)⟩, ⟨by decide, hO, by simp, by simp⟩, rfl⟩
  exact lineS_nums _ [p.1] (by simpa using hq)
theorem shape_export {L : List (ByteArray × Nat)} {fin : Nat} {c : Cmd} {i : Int} {k : Nat} (hL : L[0]? = some (⟨#[101, 120, 112, 111, 114, 116]⟩, k)) (h : told L fin (runCmd L fin) = (some c, i, 0)) (hz : ∀ p ∈ L, p.1.size ≤ 1048576) : ∃ ws, Shape L c ⟨#[101, 120, 112, 111, 114, 116]⟩ ws ∧ c.Ok ∧ verbC c = ⟨#[101, 120, 112, 111, 114, 116]⟩ := by
  rw [runCmd_export fin hL] at h
  obtain ⟨h1, h2, h3, _⟩ := told_ok h (numE_two 1 (-1) (.inl rfl))
  simp only [Option.some.injEq] at h1 h2 h3
  obtain ⟨_, p, hp, _, hq, hA, hR⟩ := numE_ok (.inl rfl) h2
  rw [hR] at h1
  rw [hA] at h3
  subst h1
  have hO := (numB_ok hq).2
  refine ⟨[p.1], ⟨map_fst_of hL (n := 1) rfl (fun i hi => by match i, hi with | 0, _ => rw [hp]; rfl) h3, ?_, by decide, fun w hw => .inl (by simp only [List.mem_singleton] at hw; subst hw; exact numB_plain hq)⟩, ⟨by decide, hO, by simp, by simp⟩, rfl⟩
  exact lineS_nums _ [p.1] (by simpa using hq)
theorem shape_drop {L : List (ByteArray × Nat)} {fin : Nat} {c : Cmd} {i : Int} {k : Nat} (hL : L[0]? = some (⟨#[100, 114, 111, 112]⟩, k)) (h : told L fin (runCmd L fin) = (some c, i, 0)) (hz : ∀ p ∈ L, p.1.size ≤ 1048576) : ∃ ws, Shape L c ⟨#[100, 114, 111, 112]⟩ ws ∧ c.Ok ∧ verbC c = ⟨#[100, 114, 111, 112]⟩ := by
  rw [runCmd_drop fin hL] at h
  obtain ⟨h1, h2, h3, _⟩ := told_ok h (numE_two 1 (-1) (.inl rfl))
  simp only [Option.some.injEq] at h1 h2 h3
  obtain ⟨_, p, hp, _, hq, hA, hR⟩ := numE_ok (.inl rfl) h2
  rw [hR] at h1
  rw [hA] at h3
  subst h1
  have hO := (numB_ok hq).2
  refine ⟨[p.1], ⟨map_fst_of hL (n := 1) rfl (fun i hi => by match i, hi with | 0, _ => rw [hp]; rfl) h3, ?_, by decide, fun w hw => .inl (by simp only [List.mem_singleton] at hw; subst hw; exact numB_plain hq)⟩, ⟨by decide, hO, by simp, by simp⟩, rfl⟩
  exact lineS_nums _ [p.1] (by simpa using hq)
theorem shape_tick {L : List (ByteArray × Nat)} {fin : Nat} {c : Cmd} {i : Int} {k : Nat} (hL : L[0]? = some (⟨#[116, 105, 99, 107]⟩, k)) (h : told L fin (runCmd L fin) = (some c, i, 0)) (hz : ∀ p ∈ L, p.1.size ≤ 1048576) : ∃ ws, Shape L c ⟨#[116, 105, 99, 107]⟩ ws ∧ c.Ok ∧ verbC c = ⟨#[116, 105, 99, 107]⟩ := by
  rw [runCmd_tick fin hL] at h
  obtain ⟨h1, h2, h3, _⟩ := told_ok h (.inl rfl)
  simp only [Option.some.injEq] at h1 h2 h3
  subst h1
  exact ⟨[], ⟨map_fst_of hL (n := 0) rfl (fun i hi => absurd hi (by omega)) h3, rfl, by decide, by simp⟩, trivial, rfl⟩
theorem shape_import {L : List (ByteArray × Nat)} {fin : Nat} {c : Cmd} {i : Int} {k : Nat} (hL : L[0]? = some (⟨#[105, 109, 112, 111, 114, 116]⟩, k)) (h : told L fin (runCmd L fin) = (some c, i, 0)) (hz : ∀ p ∈ L, p.1.size ≤ 1048576) : ∃ ws, Shape L c ⟨#[105, 109, 112, 111, 114, 116]⟩ ws ∧ c.Ok ∧ verbC c = ⟨#[105, 109, 112, 111, 114, 116]⟩ := by
  rw [runCmd_import fin hL] at h
  have htwo : (if hexB (nextS L 1 (-1)) = true then nextB L 1 (-1) fin else badOf L 1 (nextB L 1 (-1) fin) fin) = -1 ∨ 0 ≤ (if hexB (nextS L 1 (-1)) = true then nextB L 1 (-1) fin else badOf L 1 (nextB L 1 (-1) fin) fin) := by
    split
    · exact nextB_two 1 (-1) (.inl rfl)
    · exact .inr (badOf_pos 1 _ (nextB_two 1 (-1) (.inl rfl)))
  obtain ⟨h1, h2, h3, _⟩ := told_ok h htwo
  simp only [Option.some.injEq] at h1 h2 h3
  split at h2
  · rename_i hx
    obtain ⟨_, p, hp, hs⟩ := nextB_ok (.inl rfl) h2
    rw [hs] at h1 hx
    subst h1
    obtain ⟨q1, q2, q3, q4⟩ := hexB_ok hx
    refine ⟨[p.1], ⟨map_fst_of hL (n := 1) rfl (fun i hi => by match i, hi with | 0, _ => rw [hp]; rfl) h3, ?_, by decide, fun w hw => .inl (by simp only [List.mem_singleton] at hw; subst hw; exact q2)⟩, ⟨?_, q3⟩, rfl⟩
    · show (⟨#[105, 109, 112, 111, 114, 116, 32]⟩ : ByteArray) ++ hexS (hexL p.1) = (⟨#[105, 109, 112, 111, 114, 116]⟩ : ByteArray) ++ (sp ++ p.1)
      rw [q1, ← ByteArray.append_assoc]
      rfl
    · have := hz p (List.mem_of_getElem? hp); omega
  · have := badOf_pos (L := L) (fin := fin) 1 _ (nextB_two (L := L) (fin := fin) 1 (-1) (.inl rfl))
    omega
theorem shape_add {L : List (ByteArray × Nat)} {fin : Nat} {c : Cmd} {i : Int} {k : Nat} (hL : L[0]? = some (⟨#[97, 100, 100]⟩, k)) (h : told L fin (runCmd L fin) = (some c, i, 0)) (hz : ∀ p ∈ L, p.1.size ≤ 1048576) : ∃ ws, Shape L c ⟨#[97, 100, 100]⟩ ws ∧ c.Ok ∧ verbC c = ⟨#[97, 100, 100]⟩ := by
  rw [runCmd_add fin hL] at h
  have t1 := numE_two (L := L) (fin := fin) 1 (-1) (.inl rfl)
  have t2 := nextB_two (L := L) (fin := fin) (numA L 1 (-1)) _ t1
  have t3 := numE_two (L := L) (fin := fin) (numA L 1 (-1)) _ t2
  by_cases hn : namedB (nextS L (numA L 1 (-1)) (numE L 1 (-1) fin)) = true
  · have e : runAdd L fin 1 (-1) = { h := numR L 1 (-1), named := true, name := (nextS L (numA L 1 (-1)) (numE L 1 (-1) fin)).extract 1 ((nextS L (numA L 1 (-1)) (numE L 1 (-1) fin)).size - 1), key := keyV ((nextS L (numA L 1 (-1)) (numE L 1 (-1) fin)).extract 1 ((nextS L (numA L 1 (-1)) (numE L 1 (-1) fin)).size - 1)), d := numR L (numA L 1 (-1) + 1) (nextB L (numA L 1 (-1)) (numE L 1 (-1) fin) fin), at_ := numA L (numA L 1 (-1) + 1) (nextB L (numA L 1 (-1)) (numE L 1 (-1) fin) fin), bad := numE L (numA L 1 (-1) + 1) (nextB L (numA L 1 (-1)) (numE L 1 (-1) fin) fin) fin } := by
      unfold runAdd; simp only; rw [if_pos hn]
    rw [e] at h
    obtain ⟨h1, h2, h3, _⟩ := told_ok h (numE_two _ _ t2)
    simp only [Option.some.injEq] at h1 h2 h3
    obtain ⟨e2, p3, hp3, _, hq3, hA3, hR3⟩ := numE_ok t2 h2
    obtain ⟨e1, p2, hp2, hs2⟩ := nextB_ok t1 e2
    obtain ⟨_, p1, hp1, _, hq1, hA1, hR1⟩ := numE_ok (.inl rfl) e1
    rw [hs2] at h1 hn
    rw [hR3, hR1] at h1
    rw [hA3] at h3
    rw [hA1] at hp2 hp3 h3
    subst h1
    have hz2 := hz p2 (List.mem_of_getElem? hp2)
    refine ⟨[p1.1, p2.1, p3.1], ⟨map_fst_of hL (n := 3) rfl (fun i hi => ?_) h3, ?_, by decide, fun w hw => ?_⟩, ⟨(numB_ok hq1).2, (numB_ok hq3).2, ?_⟩, rfl⟩
    · match i, hi with
      | 0, _ => rw [hp1]; rfl
      | 1, _ => rw [hp2]; rfl
      | 2, _ => rw [hp3]; rfl
    · show lineS ((lineS ⟨#[97, 100, 100]⟩ [numI p1.1] ++ sp) ++ ((qt ++ p2.1.extract 1 (p2.1.size - 1)) ++ qt)) [numI p3.1] = _
      rw [named_eq hn]
      show ((((⟨#[97, 100, 100]⟩ : ByteArray) ++ (sp ++ numS (numI p1.1))) ++ sp) ++ p2.1) ++ (sp ++ numS (numI p3.1)) = (((⟨#[97, 100, 100]⟩ : ByteArray) ++ (sp ++ p1.1)) ++ (sp ++ p2.1)) ++ (sp ++ p3.1)
      rw [numS_of hq1, numS_of hq3]
      congr 1
      rw [ByteArray.append_assoc]
    · simp only [List.mem_cons, List.not_mem_nil, or_false] at hw
      rcases hw with rfl | rfl | rfl
      · exact .inl (numB_plain hq1)
      · exact .inr hn
      · exact .inl (numB_plain hq3)
    · simp only [ByteArray.size_extract]; omega
  · have e : runAdd L fin 1 (-1) = { h := numR L 1 (-1), named := false, name := ⟨#[]⟩, key := IntKind.u64.wrap (numR L (numA L 1 (-1)) (nextB L (numA L 1 (-1)) (numE L 1 (-1) fin) fin)), d := numR L (numA L (numA L 1 (-1)) (nextB L (numA L 1 (-1)) (numE L 1 (-1) fin) fin)) (numE L (numA L 1 (-1)) (nextB L (numA L 1 (-1)) (numE L 1 (-1) fin) fin) fin), at_ := numA L (numA L (numA L 1 (-1)) (nextB L (numA L 1 (-1)) (numE L 1 (-1) fin) fin)) (numE L (numA L 1 (-1)) (nextB L (numA L 1 (-1)) (numE L 1 (-1) fin) fin) fin), bad := numE L (numA L (numA L 1 (-1)) (nextB L (numA L 1 (-1)) (numE L 1 (-1) fin) fin)) (numE L (numA L 1 (-1)) (nextB L (numA L 1 (-1)) (numE L 1 (-1) fin) fin) fin) fin } := by
      unfold runAdd; simp only; rw [if_neg hn]
    rw [e] at h
    obtain ⟨h1, h2, h3, _⟩ := told_ok h (numE_two _ _ t3)
    simp only [Option.some.injEq] at h1 h2 h3
    obtain ⟨e3, p3, hp3, _, hq3, hA3, hR3⟩ := numE_ok t3 h2
    obtain ⟨e2, p2, hp2, _, hq2, hA2, hR2⟩ := numE_ok t2 e3
    obtain ⟨e1, _⟩ := nextB_ok t1 e2
    obtain ⟨_, p1, hp1, _, hq1, hA1, hR1⟩ := numE_ok (.inl rfl) e1
    rw [hR3, hR2, hR1] at h1
    rw [hA3, hA2] at h3
    rw [hA2] at hp3
    rw [hA1] at hp2 hp3 h3
    subst h1
    refine ⟨[p1.1, p2.1, p3.1], ⟨map_fst_of hL (n := 3) rfl (fun i hi => ?_) h3, ?_, by decide, fun w hw => ?_⟩, ⟨(numB_ok hq1).2, (numB_ok hq3).2, Nat.zero_le _⟩, rfl⟩
    · match i, hi with
      | 0, _ => rw [hp1]; rfl
      | 1, _ => rw [hp2]; rfl
      | 2, _ => rw [hp3]; rfl
    · show lineS ((lineS ⟨#[97, 100, 100]⟩ [numI p1.1] ++ sp) ++ numS (wrap64 (IntKind.u64.wrap (numI p2.1)))) [numI p3.1] = _
      rw [key_turn (numB_ok hq2).2]
      show ((((⟨#[97, 100, 100]⟩ : ByteArray) ++ (sp ++ numS (numI p1.1))) ++ sp) ++ numS (numI p2.1)) ++ (sp ++ numS (numI p3.1)) = (((⟨#[97, 100, 100]⟩ : ByteArray) ++ (sp ++ p1.1)) ++ (sp ++ p2.1)) ++ (sp ++ p3.1)
      rw [numS_of hq1, numS_of hq2, numS_of hq3]
      congr 1
      rw [ByteArray.append_assoc]
    · simp only [List.mem_cons, List.not_mem_nil, or_false] at hw
      rcases hw with rfl | rfl | rfl
      · exact .inl (numB_plain hq1)
      · exact .inl (numB_plain hq2)
      · exact .inl (numB_plain hq3)
/-- Whatever line says a command: its words, and that the command's text is they. -/
theorem shape_any {L : List (ByteArray × Nat)} {fin : Nat} {c : Cmd} {i : Int} (hne : L ≠ []) (h : told L fin (runCmd L fin) = (some c, i, 0)) (hz : ∀ p ∈ L, p.1.size ≤ 1048576) : ∃ v ws, Shape L c v ws ∧ c.Ok ∧ verbC c = v := by
  obtain ⟨⟨x, k⟩, hp⟩ : ∃ p, L[0]? = some p := by
    cases L with
    | nil => exact absurd rfl hne
    | cons p l => exact ⟨p, rfl⟩
  by_cases hv : x.data.toList ∈ verbs
  · simp only [verbs, List.mem_cons, List.not_mem_nil, or_false] at hv
    rcases hv with hv | hv | hv | hv | hv | hv | hv | hv | hv | hv | hv | hv | hv | hv | hv
    · obtain rfl := of_data hv
      exact ⟨_, shape_create hp h hz⟩
    · obtain rfl := of_data hv
      exact ⟨_, shape_window hp h hz⟩
    · obtain rfl := of_data hv
      exact ⟨_, shape_add hp h hz⟩
    · obtain rfl := of_data hv
      exact ⟨_, shape_tick hp h hz⟩
    · obtain rfl := of_data hv
      exact ⟨_, shape_total hp h hz⟩
    · obtain rfl := of_data hv
      exact ⟨_, shape_export hp h hz⟩
    · obtain rfl := of_data hv
      exact ⟨_, shape_drop hp h hz⟩
    · obtain rfl := of_data hv
      exact ⟨_, shape_quantile hp h hz⟩
    · obtain rfl := of_data hv
      exact ⟨_, shape_point hp h hz⟩
    · obtain rfl := of_data hv
      exact ⟨_, shape_range hp h hz⟩
    · obtain rfl := of_data hv
      exact ⟨_, shape_heavy hp h hz⟩
    · obtain rfl := of_data hv
      exact ⟨_, shape_inner hp h hz⟩
    · obtain rfl := of_data hv
      exact ⟨_, shape_merge hp h hz⟩
    · obtain rfl := of_data hv
      exact ⟨_, shape_subtract hp h hz⟩
    · obtain rfl := of_data hv
      exact ⟨_, shape_import hp h hz⟩
  · rw [runCmd_none fin hp hv] at h
    obtain ⟨h1, _⟩ := told_ok h (.inr (by simp only; omega))
    cases h1
end Go.Proofs.YtjhlpmigkbaegaaDoor
