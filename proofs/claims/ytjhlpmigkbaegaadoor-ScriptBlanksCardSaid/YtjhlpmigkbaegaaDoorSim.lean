/- The same words at other places: what the reader tells of them. Plain. -/
import Derived.Test.YtjhlpmigkbaegaaDoorParse
namespace Go.Proofs.YtjhlpmigkbaegaaDoor
open Go.RowKit
set_option linter.unusedVariables false

/-- Two rows of words that are the same but for their places; Q: how places go together. -/
structure Sim (Q : Int → Int → Prop) (L : List (ByteArray × Nat)) (fin : Nat) (L' : List (ByteArray × Nat)) (fin' : Nat) : Prop where
  len : L.length = L'.length
  word : ∀ (i : Nat) p p', L[i]? = some p → L'[i]? = some p' → p.1 = p'.1 ∧ Q (p.2 : Int) (p'.2 : Int)
  fin : Q (fin : Int) (fin' : Int)
/-- Two readers that both stand well, or both badly, at places that go together. -/
def RB (Q : Int → Int → Prop) (b b' : Int) : Prop := (b = -1 ∧ b' = -1) ∨ (0 ≤ b ∧ 0 ≤ b' ∧ Q b b')
section
variable {Q : Int → Int → Prop} {L L' : List (ByteArray × Nat)} {fin fin' : Nat}
theorem Sim.none (h : Sim Q L fin L' fin') {i : Nat} : L[i]? = none ↔ L'[i]? = none := by
  rw [List.getElem?_eq_none_iff, List.getElem?_eq_none_iff, h.len]
theorem Sim.some (h : Sim Q L fin L' fin') {i : Nat} {p : ByteArray × Nat} (hp : L[i]? = some p) : ∃ p', L'[i]? = some p' ∧ p.1 = p'.1 ∧ Q (p.2 : Int) (p'.2 : Int) := by
  have hl := (List.getElem?_eq_some_iff.1 hp).1
  have hl' : i < L'.length := by rw [← h.len]; exact hl
  have hp' := List.getElem?_eq_getElem hl'
  exact ⟨_, hp', h.word i _ _ hp hp'⟩
theorem nextS_sim (h : Sim Q L fin L' fin') {a : Nat} {b b' : Int} (hb : RB Q b b') : nextS L a b = nextS L' a b' := by
  unfold nextS
  rcases hb with ⟨rfl, rfl⟩ | ⟨h0, h0', _⟩
  · rw [if_neg (by omega), if_neg (by omega)]
    cases hp : L[a]? with
    | none => rw [h.none.1 hp]
    | some p => obtain ⟨p', hp', e, _⟩ := h.some hp; rw [hp']; exact e
  · rw [if_pos h0, if_pos h0']
theorem nextB_sim (h : Sim Q L fin L' fin') {a : Nat} {b b' : Int} (hb : RB Q b b') : RB Q (nextB L a b fin) (nextB L' a b' fin') := by
  unfold nextB
  rcases hb with ⟨rfl, rfl⟩ | ⟨h0, h0', hq⟩
  · rw [if_neg (by omega), if_neg (by omega)]
    cases hp : L[a]? with
    | none => rw [h.none.1 hp]; exact .inr ⟨by simp only; omega, by simp only; omega, h.fin⟩
    | some p => obtain ⟨p', hp', _⟩ := h.some hp; rw [hp']; exact .inl ⟨rfl, rfl⟩
  · rw [if_pos h0, if_pos h0']; exact .inr ⟨h0, h0', hq⟩
theorem badOf_sim (h : Sim Q L fin L' fin') {a : Nat} {b b' : Int} (hb : RB Q b b') : RB Q (badOf L a b fin) (badOf L' a b' fin') := by
  unfold badOf
  rcases hb with ⟨rfl, rfl⟩ | ⟨h0, h0', hq⟩
  · rw [if_neg (by omega), if_neg (by omega)]
    cases hp : L[a]? with
    | none => rw [h.none.1 hp]; exact .inr ⟨by simp only; omega, by simp only; omega, h.fin⟩
    | some p => obtain ⟨p', hp', _, q⟩ := h.some hp; rw [hp']; exact .inr ⟨by simp only; omega, by simp only; omega, q⟩
  · rw [if_pos h0, if_pos h0']; exact .inr ⟨h0, h0', hq⟩
theorem numA_sim (h : Sim Q L fin L' fin') {a : Nat} {b b' : Int} (hb : RB Q b b') : numA L a b = numA L' a b' := by unfold numA; rw [nextS_sim h hb]
theorem numR_sim (h : Sim Q L fin L' fin') {a : Nat} {b b' : Int} (hb : RB Q b b') : numR L a b = numR L' a b' := by unfold numR; rw [nextS_sim h hb]
theorem numE_sim (h : Sim Q L fin L' fin') {a : Nat} {b b' : Int} (hb : RB Q b b') : RB Q (numE L a b fin) (numE L' a b' fin') := by
  unfold numE
  rw [nextS_sim h hb]
  split
  · exact nextB_sim h hb
  · exact badOf_sim h (nextB_sim h hb)
theorem runNums_sim (h : Sim Q L fin L' fin') (n : Nat) {a : Nat} {b b' : Int} (hb : RB Q b b') :
    (runNums L fin n a b).1 = (runNums L' fin' n a b').1 ∧ (runNums L fin n a b).2.1 = (runNums L' fin' n a b').2.1 ∧ RB Q (runNums L fin n a b).2.2 (runNums L' fin' n a b').2.2 := by
  induction n with
  | zero => exact ⟨rfl, rfl, hb⟩
  | succ n ih =>
    obtain ⟨e1, e2, e3⟩ := ih
    simp only [runNums]
    rw [← e1, ← e2]
    exact ⟨by rw [numR_sim h e3], numA_sim h e3, numE_sim h e3⟩
theorem runAdd_sim (h : Sim Q L fin L' fin') {a : Nat} {b b' : Int} (hb : RB Q b b') :
    (runAdd L fin a b).h = (runAdd L' fin' a b').h ∧ (runAdd L fin a b).named = (runAdd L' fin' a b').named ∧ (runAdd L fin a b).name = (runAdd L' fin' a b').name ∧
    (runAdd L fin a b).key = (runAdd L' fin' a b').key ∧ (runAdd L fin a b).d = (runAdd L' fin' a b').d ∧ (runAdd L fin a b).at_ = (runAdd L' fin' a b').at_ ∧ RB Q (runAdd L fin a b).bad (runAdd L' fin' a b').bad := by
  have e1 := numA_sim h hb (a := a)
  have e2 := numR_sim h hb (a := a)
  have e3 := numE_sim h hb (a := a)
  unfold runAdd
  simp only
  rw [← e1, ← e2]
  generalize numA L a b = a1 at *
  generalize numE L a b fin = b1 at *
  generalize numE L' a b' fin' = b1' at *
  have e4 := nextS_sim h e3 (a := a1)
  have e5 := nextB_sim h e3 (a := a1)
  rw [← e4]
  generalize nextB L a1 b1 fin = b2 at *
  generalize nextB L' a1 b1' fin' = b2' at *
  split
  · exact ⟨rfl, rfl, rfl, rfl, numR_sim h e5, numA_sim h e5, numE_sim h e5⟩
  · have f1 := numA_sim h e5 (a := a1)
    have f2 := numR_sim h e5 (a := a1)
    have f3 := numE_sim h e5 (a := a1)
    rw [← f1, ← f2]
    exact ⟨rfl, rfl, rfl, rfl, numR_sim h f3, numA_sim h f3, numE_sim h f3⟩
theorem AddR.alike {r r' : AddR} (h : r.h = r'.h ∧ r.named = r'.named ∧ r.name = r'.name ∧ r.key = r'.key ∧ r.d = r'.d ∧ r.at_ = r'.at_ ∧ RB Q r.bad r'.bad) (hb : r.bad < 0) : r = r' := by
  obtain ⟨h1, h2, h3, h4, h5, h6, h7⟩ := h
  have h8 : r.bad = r'.bad := by rcases h7 with ⟨e, e'⟩ | ⟨e, _⟩ <;> omega
  cases r; cases r'; simp_all
/-- What two readers' commands have in common. -/
def SR (Q : Int → Int → Prop) (r r' : Option Cmd × Nat × Int) : Prop := r.2.1 = r'.2.1 ∧ RB Q r.2.2 r'.2.2 ∧ (r.2.2 < 0 → r.1 = r'.1)
theorem runCmd_sim (h : Sim Q L fin L' fin') (hne : L ≠ []) : SR Q (runCmd L fin) (runCmd L' fin') := by
  obtain ⟨p, hp⟩ : ∃ p, L[0]? = some p := by
    cases L with
    | nil => exact absurd rfl hne
    | cons p l => exact ⟨p, rfl⟩
  obtain ⟨p', hp', e, q⟩ := h.some hp
  have hm : RB Q (-1) (-1) := .inl ⟨rfl, rfl⟩
  have n1 := runNums_sim h 5 hm (a := 1)
  have n2 := runNums_sim h 2 hm (a := 1)
  have n3 := runNums_sim h 3 hm (a := 1)
  have ad := runAdd_sim h hm (a := 1)
  have r1 := numR_sim h hm (a := 1)
  have a1 := numA_sim h hm (a := 1)
  have b1 := numE_sim h hm (a := 1)
  have s1 := nextS_sim h hm (a := 1)
  have t1 := nextB_sim h hm (a := 1)
  obtain ⟨x, k⟩ := p
  obtain ⟨x', k'⟩ := p'
  simp only at e q
  subst e
  by_cases hv : x.data.toList ∈ verbs
  · simp only [verbs, List.mem_cons, List.not_mem_nil, or_false] at hv
    rcases hv with hv | hv | hv | hv | hv | hv | hv | hv | hv | hv | hv | hv | hv | hv | hv
    · obtain rfl := of_data hv
      rw [runCmd_create fin hp, runCmd_create fin' hp']
      exact ⟨n1.2.1, n1.2.2, fun _ => by rw [n1.1]⟩
    · obtain rfl := of_data hv
      rw [runCmd_window fin hp, runCmd_window fin' hp']
      exact ⟨n1.2.1, n1.2.2, fun _ => by rw [n1.1]⟩
    · obtain rfl := of_data hv
      rw [runCmd_add fin hp, runCmd_add fin' hp']
      exact ⟨ad.2.2.2.2.2.1, ad.2.2.2.2.2.2, fun hb => by rw [AddR.alike ad hb]⟩
    · obtain rfl := of_data hv
      rw [runCmd_tick fin hp, runCmd_tick fin' hp']
      exact ⟨rfl, hm, fun _ => rfl⟩
    · obtain rfl := of_data hv
      rw [runCmd_total fin hp, runCmd_total fin' hp']
      exact ⟨a1, b1, fun _ => by rw [r1]⟩
    · obtain rfl := of_data hv
      rw [runCmd_export fin hp, runCmd_export fin' hp']
      exact ⟨a1, b1, fun _ => by rw [r1]⟩
    · obtain rfl := of_data hv
      rw [runCmd_drop fin hp, runCmd_drop fin' hp']
      exact ⟨a1, b1, fun _ => by rw [r1]⟩
    · obtain rfl := of_data hv
      rw [runCmd_quantile fin hp, runCmd_quantile fin' hp']
      exact ⟨n2.2.1, n2.2.2, fun _ => by rw [n2.1]⟩
    · obtain rfl := of_data hv
      rw [runCmd_point fin hp, runCmd_point fin' hp']
      exact ⟨n3.2.1, n3.2.2, fun _ => by rw [n3.1]⟩
    · obtain rfl := of_data hv
      rw [runCmd_range fin hp, runCmd_range fin' hp']
      exact ⟨n3.2.1, n3.2.2, fun _ => by rw [n3.1]⟩
    · obtain rfl := of_data hv
      rw [runCmd_heavy fin hp, runCmd_heavy fin' hp']
      exact ⟨n3.2.1, n3.2.2, fun _ => by rw [n3.1]⟩
    · obtain rfl := of_data hv
      rw [runCmd_inner fin hp, runCmd_inner fin' hp']
      exact ⟨n2.2.1, n2.2.2, fun _ => by rw [n2.1]⟩
    · obtain rfl := of_data hv
      rw [runCmd_merge fin hp, runCmd_merge fin' hp']
      exact ⟨n2.2.1, n2.2.2, fun _ => by rw [n2.1]⟩
    · obtain rfl := of_data hv
      rw [runCmd_subtract fin hp, runCmd_subtract fin' hp']
      exact ⟨n2.2.1, n2.2.2, fun _ => by rw [n2.1]⟩
    · obtain rfl := of_data hv
      rw [runCmd_import fin hp, runCmd_import fin' hp']
      refine ⟨rfl, ?_, fun _ => by rw [s1]⟩
      simp only
      rw [← s1]
      split
      · exact t1
      · exact badOf_sim h t1
  · rw [runCmd_none fin hp hv, runCmd_none fin' hp' hv]
    exact ⟨rfl, .inr ⟨by simp only; omega, by simp only; omega, q⟩, fun hb => absurd hb (by simp only; omega)⟩
/-- What is told of the same words at other places: the same, but for the place. -/
def ST (Q : Int → Int → Prop) (t t' : Option Cmd × Int × Int) : Prop := t.1 = t'.1 ∧ t.2.2 = t'.2.2 ∧ (t.2.2 ≠ 0 → Q t.2.1 t'.2.1)
theorem told_sim (h : Sim Q L fin L' fin') (hne : L ≠ []) : ST Q (told L fin (runCmd L fin)) (told L' fin' (runCmd L' fin')) := by
  obtain ⟨e1, e2, e3⟩ := runCmd_sim h hne
  generalize runCmd L fin = r at *
  generalize runCmd L' fin' = r' at *
  obtain ⟨o, a, b⟩ := r
  obtain ⟨o', a', b'⟩ := r'
  simp only at e1 e2 e3
  subst e1
  unfold told
  simp only
  have hl := h.len
  rcases e2 with ⟨rfl, rfl⟩ | ⟨h0, h0', q⟩
  · rw [if_neg (show ¬ (0 : Int) ≤ -1 by omega), ← hl]
    split
    · have := badOf_sim h (.inl ⟨rfl, rfl⟩ : RB Q (-1) (-1)) (a := a)
      rename_i ha
      have hp : L[a]? = some L[a] := List.getElem?_eq_getElem ha
      have hn : 0 ≤ badOf L a (-1) fin := by unfold badOf; rw [if_neg (by omega), hp]; simp only; omega
      rcases this with ⟨x, _⟩ | ⟨_, _, x⟩
      · omega
      · exact ⟨rfl, rfl, fun _ => x⟩
    · exact ⟨e3 (by omega), rfl, fun hh => absurd rfl hh⟩
  · rw [if_pos h0, if_pos h0']
    exact ⟨rfl, rfl, fun _ => q⟩
end
end Go.Proofs.YtjhlpmigkbaegaaDoor
