/- Parse walked. -/
import Derived.Test.YtjhlpmigkbaegaaDoorCmd
namespace Go.Proofs.YtjhlpmigkbaegaaDoor
open Go.RowKit
set_option linter.unusedVariables false

/-- What 'command' tells: the command (none: nil), and where the reader stands then. -/
def runCmd (L : List (ByteArray × Nat)) (fin : Nat) : Option Cmd × Nat × Int :=
  match L[0]? with
  | none => (none, 0, (fin : Int))
  | some p =>
    if p.1.data.toList = [99, 114, 101, 97, 116, 101] then (some (.create (runNums L fin 5 1 (-1)).1), (runNums L fin 5 1 (-1)).2) else
    if p.1.data.toList = [119, 105, 110, 100, 111, 119] then (some (.open_ (runNums L fin 5 1 (-1)).1), (runNums L fin 5 1 (-1)).2) else
    if p.1.data.toList = [97, 100, 100] then (some (.add (runAdd L fin 1 (-1))), ((runAdd L fin 1 (-1)).at_, (runAdd L fin 1 (-1)).bad)) else
    if p.1.data.toList = [116, 105, 99, 107] then (some .tick, (1, -1)) else
    if p.1.data.toList = [116, 111, 116, 97, 108] then (some (.query ⟨#[116, 111, 116, 97, 108]⟩ (numR L 1 (-1)) []), (numA L 1 (-1), numE L 1 (-1) fin)) else
    if p.1.data.toList = [101, 120, 112, 111, 114, 116] then (some (.query ⟨#[101, 120, 112, 111, 114, 116]⟩ (numR L 1 (-1)) []), (numA L 1 (-1), numE L 1 (-1) fin)) else
    if p.1.data.toList = [100, 114, 111, 112] then (some (.query ⟨#[100, 114, 111, 112]⟩ (numR L 1 (-1)) []), (numA L 1 (-1), numE L 1 (-1) fin)) else
    if p.1.data.toList = [113, 117, 97, 110, 116, 105, 108, 101] then (some (.query ⟨#[113, 117, 97, 110, 116, 105, 108, 101]⟩ (hd0 (runNums L fin 2 1 (-1)).1) (runNums L fin 2 1 (-1)).1.tail), (runNums L fin 2 1 (-1)).2) else
    if p.1.data.toList = [112, 111, 105, 110, 116] then (some (.query ⟨#[112, 111, 105, 110, 116]⟩ (hd0 (runNums L fin 3 1 (-1)).1) (runNums L fin 3 1 (-1)).1.tail), (runNums L fin 3 1 (-1)).2) else
    if p.1.data.toList = [114, 97, 110, 103, 101] then (some (.query ⟨#[114, 97, 110, 103, 101]⟩ (hd0 (runNums L fin 3 1 (-1)).1) (runNums L fin 3 1 (-1)).1.tail), (runNums L fin 3 1 (-1)).2) else
    if p.1.data.toList = [104, 101, 97, 118, 121] then (some (.query ⟨#[104, 101, 97, 118, 121]⟩ (hd0 (runNums L fin 3 1 (-1)).1) (runNums L fin 3 1 (-1)).1.tail), (runNums L fin 3 1 (-1)).2) else
    if p.1.data.toList = [105, 110, 110, 101, 114] then (some (.pair ⟨#[105, 110, 110, 101, 114]⟩ (hd0 (runNums L fin 2 1 (-1)).1) (hd0 (runNums L fin 2 1 (-1)).1.tail)), (runNums L fin 2 1 (-1)).2) else
    if p.1.data.toList = [109, 101, 114, 103, 101] then (some (.pair ⟨#[109, 101, 114, 103, 101]⟩ (hd0 (runNums L fin 2 1 (-1)).1) (hd0 (runNums L fin 2 1 (-1)).1.tail)), (runNums L fin 2 1 (-1)).2) else
    if p.1.data.toList = [115, 117, 98, 116, 114, 97, 99, 116] then (some (.pair ⟨#[115, 117, 98, 116, 114, 97, 99, 116]⟩ (hd0 (runNums L fin 2 1 (-1)).1) (hd0 (runNums L fin 2 1 (-1)).1.tail)), (runNums L fin 2 1 (-1)).2) else
    if p.1.data.toList = [105, 109, 112, 111, 114, 116] then (some (.imp (hexL (nextS L 1 (-1)))), (2, if hexB (nextS L 1 (-1)) then nextB L 1 (-1) fin else badOf L 1 (nextB L 1 (-1) fin) fin)) else
    (none, 0, (p.2 : Int))
/-- A value that is a command, or nil. -/
def CmdO (w : World) (v : Value) : Option Cmd → Prop
  | none => v = .nilIface
  | some k => CmdV w v k
theorem CmdO.below {w w' : World} {v : Value} {k : Option Cmd} (h : CmdO w v k) (hb : Below w.heap.size w w') : CmdO w' v k := by
  cases k with
  | none => exact h
  | some k => exact CmdV.below h hb
/-- Behind 'command'. -/
def CP (w : World) (R g c : Nat) (L : List (ByteArray × Nat)) (fin : Nat) (r : Option Cmd × Nat × Int) (e : Ending) (w' : World) : Prop :=
  ∃ v, e = .returned v ∧ CmdO w' v r.1 ∧ Turn R w w' ∧ RS w' R g c L r.2.1 r.2.2 fin
theorem runCmd_create {L : List (ByteArray × Nat)} {k : Nat} (fin : Nat) (hL : L[0]? = some (⟨#[99, 114, 101, 97, 116, 101]⟩, k)) : runCmd L fin = (some (.create (runNums L fin 5 1 (-1)).1), (runNums L fin 5 1 (-1)).2) := by
  unfold runCmd; rw [hL]; rfl
theorem runCmd_window {L : List (ByteArray × Nat)} {k : Nat} (fin : Nat) (hL : L[0]? = some (⟨#[119, 105, 110, 100, 111, 119]⟩, k)) : runCmd L fin = (some (.open_ (runNums L fin 5 1 (-1)).1), (runNums L fin 5 1 (-1)).2) := by
  unfold runCmd; rw [hL]; rfl
theorem runCmd_add {L : List (ByteArray × Nat)} {k : Nat} (fin : Nat) (hL : L[0]? = some (⟨#[97, 100, 100]⟩, k)) : runCmd L fin = (some (.add (runAdd L fin 1 (-1))), ((runAdd L fin 1 (-1)).at_, (runAdd L fin 1 (-1)).bad)) := by
  unfold runCmd; rw [hL]; rfl
theorem runCmd_tick {L : List (ByteArray × Nat)} {k : Nat} (fin : Nat) (hL : L[0]? = some (⟨#[116, 105, 99, 107]⟩, k)) : runCmd L fin = (some .tick, (1, -1)) := by
  unfold runCmd; rw [hL]; rfl
theorem runCmd_total {L : List (ByteArray × Nat)} {k : Nat} (fin : Nat) (hL : L[0]? = some (⟨#[116, 111, 116, 97, 108]⟩, k)) : runCmd L fin = (some (.query ⟨#[116, 111, 116, 97, 108]⟩ (numR L 1 (-1)) []), (numA L 1 (-1), numE L 1 (-1) fin)) := by
  unfold runCmd; rw [hL]; rfl
theorem runCmd_export {L : List (ByteArray × Nat)} {k : Nat} (fin : Nat) (hL : L[0]? = some (⟨#[101, 120, 112, 111, 114, 116]⟩, k)) : runCmd L fin = (some (.query ⟨#[101, 120, 112, 111, 114, 116]⟩ (numR L 1 (-1)) []), (numA L 1 (-1), numE L 1 (-1) fin)) := by
  unfold runCmd; rw [hL]; rfl
theorem runCmd_drop {L : List (ByteArray × Nat)} {k : Nat} (fin : Nat) (hL : L[0]? = some (⟨#[100, 114, 111, 112]⟩, k)) : runCmd L fin = (some (.query ⟨#[100, 114, 111, 112]⟩ (numR L 1 (-1)) []), (numA L 1 (-1), numE L 1 (-1) fin)) := by
  unfold runCmd; rw [hL]; rfl
theorem runCmd_quantile {L : List (ByteArray × Nat)} {k : Nat} (fin : Nat) (hL : L[0]? = some (⟨#[113, 117, 97, 110, 116, 105, 108, 101]⟩, k)) : runCmd L fin = (some (.query ⟨#[113, 117, 97, 110, 116, 105, 108, 101]⟩ (hd0 (runNums L fin 2 1 (-1)).1) (runNums L fin 2 1 (-1)).1.tail), (runNums L fin 2 1 (-1)).2) := by
  unfold runCmd; rw [hL]; rfl
theorem runCmd_point {L : List (ByteArray × Nat)} {k : Nat} (fin : Nat) (hL : L[0]? = some (⟨#[112, 111, 105, 110, 116]⟩, k)) : runCmd L fin = (some (.query ⟨#[112, 111, 105, 110, 116]⟩ (hd0 (runNums L fin 3 1 (-1)).1) (runNums L fin 3 1 (-1)).1.tail), (runNums L fin 3 1 (-1)).2) := by
  unfold runCmd; rw [hL]; rfl
theorem runCmd_range {L : List (ByteArray × Nat)} {k : Nat} (fin : Nat) (hL : L[0]? = some (⟨#[114, 97, 110, 103, 101]⟩, k)) : runCmd L fin = (some (.query ⟨#[114, 97, 110, 103, 101]⟩ (hd0 (runNums L fin 3 1 (-1)).1) (runNums L fin 3 1 (-1)).1.tail), (runNums L fin 3 1 (-1)).2) := by
  unfold runCmd; rw [hL]; rfl
theorem runCmd_heavy {L : List (ByteArray × Nat)} {k : Nat} (fin : Nat) (hL : L[0]? = some (⟨#[104, 101, 97, 118, 121]⟩, k)) : runCmd L fin = (some (.query ⟨#[104, 101, 97, 118, 121]⟩ (hd0 (runNums L fin 3 1 (-1)).1) (runNums L fin 3 1 (-1)).1.tail), (runNums L fin 3 1 (-1)).2) := by
  unfold runCmd; rw [hL]; rfl
theorem runCmd_inner {L : List (ByteArray × Nat)} {k : Nat} (fin : Nat) (hL : L[0]? = some (⟨#[105, 110, 110, 101, 114]⟩, k)) : runCmd L fin = (some (.pair ⟨#[105, 110, 110, 101, 114]⟩ (hd0 (runNums L fin 2 1 (-1)).1) (hd0 (runNums L fin 2 1 (-1)).1.tail)), (runNums L fin 2 1 (-1)).2) := by
  unfold runCmd; rw [hL]; rfl
theorem runCmd_merge {L : List (ByteArray × Nat)} {k : Nat} (fin : Nat) (hL : L[0]? = some (⟨#[109, 101, 114, 103, 101]⟩, k)) : runCmd L fin = (some (.pair ⟨#[109, 101, 114, 103, 101]⟩ (hd0 (runNums L fin 2 1 (-1)).1) (hd0 (runNums L fin 2 1 (-1)).1.tail)), (runNums L fin 2 1 (-1)).2) := by
  unfold runCmd; rw [hL]; rfl
theorem runCmd_subtract {L : List (ByteArray × Nat)} {k : Nat} (fin : Nat) (hL : L[0]? = some (⟨#[115, 117, 98, 116, 114, 97, 99, 116]⟩, k)) : runCmd L fin = (some (.pair ⟨#[115, 117, 98, 116, 114, 97, 99, 116]⟩ (hd0 (runNums L fin 2 1 (-1)).1) (hd0 (runNums L fin 2 1 (-1)).1.tail)), (runNums L fin 2 1 (-1)).2) := by
  unfold runCmd; rw [hL]; rfl
theorem runCmd_import {L : List (ByteArray × Nat)} {k : Nat} (fin : Nat) (hL : L[0]? = some (⟨#[105, 109, 112, 111, 114, 116]⟩, k)) : runCmd L fin = (some (.imp (hexL (nextS L 1 (-1)))), (2, if hexB (nextS L 1 (-1)) then nextB L 1 (-1) fin else badOf L 1 (nextB L 1 (-1) fin) fin)) := by
  unfold runCmd; rw [hL]; rfl
theorem runCmd_none {L : List (ByteArray × Nat)} {s : ByteArray} {k : Nat} (fin : Nat) (hL : L[0]? = some (s, k)) (hv : s.data.toList ∉ verbs) : runCmd L fin = (none, 0, (k : Int)) := by
  unfold runCmd; rw [hL]
  simp only [verbs, List.mem_cons, List.not_mem_nil, or_false, not_or] at hv
  obtain ⟨h0, h1, h2, h3, h4, h5, h6, h7, h8, h9, h10, h11, h12, h13, h14⟩ := hv
  simp only [if_neg h0, if_neg h1, if_neg h2, if_neg h3, if_neg h4, if_neg h5, if_neg h6, if_neg h7, if_neg h8, if_neg h9, if_neg h10, if_neg h11, if_neg h12, if_neg h13, if_neg h14]
theorem of_data {s : ByteArray} {l : List UInt8} (h : s.data.toList = l) : s = ⟨l.toArray⟩ := by
  cases s; subst h; simp
theorem cmd_any {w : World} {R g c : Nat} {L : List (ByteArray × Nat)} {fin : Nat} (h : RS w R g c L 0 (-1) fin) (hne : L ≠ []) :
    Calls Tryd.prog 24 #[.pointer (some ⟨R, 0, none⟩)] w (CP w R g c L fin (runCmd L fin)) := by
  obtain ⟨⟨s, k⟩, hL⟩ : ∃ p, L[0]? = some p := by
    cases L with
    | nil => exact absurd rfl hne
    | cons p l => exact ⟨p, rfl⟩
  by_cases hv : s.data.toList ∈ verbs
  · simp only [verbs, List.mem_cons, List.not_mem_nil, or_false] at hv
    rcases hv with hv | hv | hv | hv | hv | hv | hv | hv | hv | hv | hv | hv | hv | hv | hv
    · obtain rfl := of_data hv
      rw [runCmd_create fin hL]
      exact (cmd_create h hL).mono fun _ _ ⟨v, h1, h2, h3, h4⟩ => ⟨v, h1, h2, h3, h4⟩
    · obtain rfl := of_data hv
      rw [runCmd_window fin hL]
      exact (cmd_window h hL).mono fun _ _ ⟨v, h1, h2, h3, h4⟩ => ⟨v, h1, h2, h3, h4⟩
    · obtain rfl := of_data hv
      rw [runCmd_add fin hL]
      exact (cmd_add h hL).mono fun _ _ ⟨v, h1, h2, h3, h4⟩ => ⟨v, h1, h2, h3, h4⟩
    · obtain rfl := of_data hv
      rw [runCmd_tick fin hL]
      exact (cmd_tick h hL).mono fun _ _ ⟨v, h1, h2, h3, h4⟩ => ⟨v, h1, h2, h3, h4⟩
    · obtain rfl := of_data hv
      rw [runCmd_total fin hL]
      exact (cmd_total h hL).mono fun _ _ ⟨v, h1, h2, h3, h4⟩ => ⟨v, h1, h2, h3, h4⟩
    · obtain rfl := of_data hv
      rw [runCmd_export fin hL]
      exact (cmd_export h hL).mono fun _ _ ⟨v, h1, h2, h3, h4⟩ => ⟨v, h1, h2, h3, h4⟩
    · obtain rfl := of_data hv
      rw [runCmd_drop fin hL]
      exact (cmd_drop h hL).mono fun _ _ ⟨v, h1, h2, h3, h4⟩ => ⟨v, h1, h2, h3, h4⟩
    · obtain rfl := of_data hv
      rw [runCmd_quantile fin hL]
      exact (cmd_quantile h hL).mono fun _ _ ⟨v, h1, h2, h3, h4⟩ => ⟨v, h1, h2, h3, h4⟩
    · obtain rfl := of_data hv
      rw [runCmd_point fin hL]
      exact (cmd_point h hL).mono fun _ _ ⟨v, h1, h2, h3, h4⟩ => ⟨v, h1, h2, h3, h4⟩
    · obtain rfl := of_data hv
      rw [runCmd_range fin hL]
      exact (cmd_range h hL).mono fun _ _ ⟨v, h1, h2, h3, h4⟩ => ⟨v, h1, h2, h3, h4⟩
    · obtain rfl := of_data hv
      rw [runCmd_heavy fin hL]
      exact (cmd_heavy h hL).mono fun _ _ ⟨v, h1, h2, h3, h4⟩ => ⟨v, h1, h2, h3, h4⟩
    · obtain rfl := of_data hv
      rw [runCmd_inner fin hL]
      exact (cmd_inner h hL).mono fun _ _ ⟨v, h1, h2, h3, h4⟩ => ⟨v, h1, h2, h3, h4⟩
    · obtain rfl := of_data hv
      rw [runCmd_merge fin hL]
      exact (cmd_merge h hL).mono fun _ _ ⟨v, h1, h2, h3, h4⟩ => ⟨v, h1, h2, h3, h4⟩
    · obtain rfl := of_data hv
      rw [runCmd_subtract fin hL]
      exact (cmd_subtract h hL).mono fun _ _ ⟨v, h1, h2, h3, h4⟩ => ⟨v, h1, h2, h3, h4⟩
    · obtain rfl := of_data hv
      rw [runCmd_import fin hL]
      by_cases hB : hexB (nextS L 1 (-1)) = true
      · rw [if_pos hB]
        exact (cmd_import_yes h hL hB).mono fun _ _ ⟨v, h1, h2, h3, h4⟩ => ⟨v, h1, h2, h3, h4⟩
      · rw [if_neg hB]
        exact (cmd_import_no h hL (by simpa using hB)).mono fun _ _ ⟨v, h1, h2, h3, h4⟩ => ⟨v, h1, h2, h3, h4⟩
  · rw [runCmd_none fin hL hv]
    exact (cmd_none h hL hv).mono fun _ _ ⟨h1, h3, h4⟩ => ⟨_, h1, rfl, h3, h4⟩
/-- What 'Parse' tells of words. -/
def told (L : List (ByteArray × Nat)) (fin : Nat) (r : Option Cmd × Nat × Int) : Option Cmd × Int × Int :=
  if 0 ≤ r.2.2 then (none, r.2.2, 12) else if r.2.1 < L.length then (none, badOf L r.2.1 r.2.2 fin, 12) else (r.1, 0, 0)
/-- What 'Parse' tells. -/
def parseV (s : ByteArray) : Option Cmd × Int × Int :=
  if 65536 < s.size then (none, 0, 1) else
  match tornAt s 0 with
  | some i => (none, (i : Int), 13)
  | none => if wordsOf s = [] then (none, 0, 0) else told (wordsOf s) s.size (runCmd (wordsOf s) s.size)
def PV (w : World) (r : Option Cmd × Int × Int) (e : Ending) (w' : World) : Prop :=
  ∃ v, e = .returned (.tuple #[v, .int .i64 r.2.1, .int .i64 r.2.2]) ∧ CmdO w' v r.1 ∧ Below w.heap.size w w'
set_option maxRecDepth 100000 in
set_option maxHeartbeats 2000000 in
theorem parse_big (s : ByteArray) (w : World) (hs : s.size ≤ 1048576) (hT : Tabs w) (hb : 65536 < s.size) :
    Calls Tryd.prog 10 #[.string s] w (PV w (none, 0, 1)) := by
  have g0 : decide ((65536 : Int) < (s.size : Int)) = true := by simp; omega
  clear hT
  go_enter Tryd.func10, Tryd.ntmps10
  go_wp2_with fail
  go_ret3
  exact ⟨_, rfl, rfl, Below.refl _ _⟩
set_option maxRecDepth 100000 in
set_option maxHeartbeats 2000000 in
theorem parse_torn (s : ByteArray) (w : World) (hs : s.size ≤ 1048576) (hT : Tabs w) (hb : s.size ≤ 65536) (i : Nat) (ht : tornAt s 0 = some i) :
    Calls Tryd.prog 10 #[.string s] w (PV w (none, (i : Int), 13)) := by
  have g0 : decide ((65536 : Int) < (s.size : Int)) = false := by simp; omega
  have KT := Lib.hid (torn_any s w hs hT)
  have e1 : tornI s = (i : Int) := by unfold tornI; rw [ht]
  rw [e1] at KT
  clear e1 ht hT
  have hi : decide ((0 : Int) ≤ (i : Int)) = true := by simp
  go_enter Tryd.func10, Tryd.ntmps10
  go_wp2_with fail
  refine KT.out.mono ?_
  rintro e w1 ⟨rfl, hb1⟩
  have HB1 := Lib.hid hb1; clear hb1
  go_wp2_with fail
  go_ret3
  exact ⟨_, rfl, rfl, HB1.out⟩
set_option maxRecDepth 100000 in
set_option maxHeartbeats 4000000 in
theorem parse_empty (s : ByteArray) (w : World) (hs : s.size ≤ 1048576) (hT : Tabs w) (hb : s.size ≤ 65536) (ht : tornAt s 0 = none) (hl : wordsOf s = []) :
    Calls Tryd.prog 10 #[.string s] w (PV w (none, 0, 0)) := by
  have g0 : decide ((65536 : Int) < (s.size : Int)) = false := by simp; omega
  have KT := Lib.hid (torn_any s w hs hT)
  have e1 : tornI s = -1 := by unfold tornI; rw [ht]
  rw [e1] at KT
  have KW := Lib.hid (fun w => words_any s w hs)
  have HT := Lib.hid hT
  clear e1 ht hT
  unfold WordsPost at KW
  rw [hl] at KW
  simp only [List.length_nil] at KW
  clear hl
  go_enter Tryd.func10, Tryd.ntmps10
  go_wp2_with fail
  refine KT.out.mono ?_
  rintro e w1 ⟨rfl, hb1⟩
  have HB1 := Lib.hid hb1; clear hb1
  go_wp2_with fail
  refine (KW.out _).mono ?_
  rintro e w2 ⟨a, c, rfl, hrow, hb2⟩
  have HB2 := Lib.hid (HB1.out.then hb2); clear hb2 hrow HB1
  go_wp2_with fail
  go_ret3
  exact ⟨_, rfl, rfl, HB2.out.alloc HB2.out.size _⟩
theorem rs_new {w : World} {g c : Nat} {L : List (ByteArray × Nat)} {fin : Nat} (hT : Tabs w) (hr : WRow w (some ⟨g, 0, none⟩) L.length L) (hne : L ≠ [])
    (hlen : L.length ≤ 1048576) (hfin : fin ≤ 1048576) (hws : ∀ p ∈ L, p.1.size ≤ 1048576 ∧ p.2 ≤ 1048576) :
    RS (w.alloc (.cells #[.slice (some ⟨g, 0, none⟩) L.length c, .int .i64 0, .int .i64 (-1), .int .i64 fin] 48)) w.heap.size g c L 0 (-1) fin := by
  obtain ⟨g', rest, e, hh⟩ := hr.2.resolve_left hne
  cases e
  have hg := lt_of_block hh
  have hbl : Below w.heap.size w (w.alloc (.cells #[.slice (some ⟨g, 0, none⟩) L.length c, .int .i64 0, .int .i64 (-1), .int .i64 fin] 48)) := (Below.refl _ _).alloc (Nat.le_refl _) _
  exact ⟨heap_alloc_new w _, ⟨hr.1, .inr ⟨g, rest, rfl, (hbl.block g hg).trans hh⟩⟩, by omega, Nat.lt_of_lt_of_le hg hbl.size, hT.below hbl, hT.low, hlen, hfin, by omega, by omega, by omega, hws⟩
theorem wordsAt_in (s : ByteArray) (i : Nat) : ∀ p ∈ wordsAt s i, i ≤ p.1 ∧ p.1 < p.2 ∧ p.2 ≤ s.size := by
  fun_induction wordsAt s i with
  | case1 i h h2 ih => intro p hp; have := ih p hp; omega
  | case2 i h h2 ih =>
    have hw := wordEnd_gt h h2
    intro p hp
    rcases List.mem_cons.1 hp with rfl | hp
    · exact ⟨Nat.le_refl _, hw.1, hw.2⟩
    · have := ih p hp; omega
  | case3 i h => intro p hp; simp at hp
theorem wordsAt_len (s : ByteArray) (i : Nat) : (wordsAt s i).length ≤ s.size - i := by
  fun_induction wordsAt s i with
  | case1 i h h2 ih => omega
  | case2 i h h2 ih => have hw := wordEnd_gt h h2; simp only [List.length_cons]; omega
  | case3 i h => simp
theorem wordsOf_in (s : ByteArray) : ∀ p ∈ wordsOf s, p.1.size ≤ s.size ∧ p.2 ≤ s.size := by
  intro p hp
  unfold wordsOf at hp
  obtain ⟨q, hq, rfl⟩ := List.mem_map.1 hp
  have := wordsAt_in s 0 q hq
  exact ⟨by rw [ext_size _ _ _ this.2.2]; omega, by simp only; omega⟩
theorem wordsOf_len (s : ByteArray) : (wordsOf s).length ≤ s.size := by
  unfold wordsOf; rw [List.length_map]; have := wordsAt_len s 0; omega
theorem badOf_ge {w R g c L at_ bad fin} (h : RS w R g c L at_ bad fin) : 0 ≤ badOf L at_ bad fin := by
  unfold badOf; split
  · assumption
  · split <;> omega
set_option maxRecDepth 100000 in
set_option maxHeartbeats 4000000 in
theorem parse_deep (s : ByteArray) (w : World) (hs : s.size ≤ 1048576) (hT : Tabs w) (hb : s.size ≤ 65536) (ht : tornAt s 0 = none) (hl : wordsOf s ≠ []) :
    Calls Tryd.prog 10 #[.string s] w (PV w (told (wordsOf s) s.size (runCmd (wordsOf s) s.size))) := by
  have g0 : decide ((65536 : Int) < (s.size : Int)) = false := by simp; omega
  have KT := Lib.hid (torn_any s w hs hT)
  have e1 : tornI s = -1 := by unfold tornI; rw [ht]
  rw [e1] at KT
  have KW := Lib.hid (fun w => words_any s w hs)
  have HT := Lib.hid hT
  clear e1 ht hT
  unfold WordsPost at KW
  have HLEN := Lib.hid (Nat.le_trans (wordsOf_len s) hs)
  have hlp : (0 : Int) < ((wordsOf s).length : Int) := by
    have := List.length_pos_iff.2 hl; omega
  have hl0 : decide (((wordsOf s).length : Int) = 0) = false := by simp; exact hl
  have HWS := Lib.hid (fun p hp => (fun h => (⟨Nat.le_trans h.1 hs, Nat.le_trans h.2 hs⟩ : p.1.size ≤ 1048576 ∧ p.2 ≤ 1048576)) (wordsOf_in s p hp))
  have HNE := Lib.hid hl; clear hl
  obtain ⟨⟨k, a1, b1⟩, hr⟩ : ∃ r, runCmd (wordsOf s) s.size = r := ⟨_, rfl⟩
  have KC := Lib.hid (fun w R g c (h : RS w R g c (wordsOf s) 0 (-1) s.size) => cmd_any h HNE.out)
  rw [hr] at KC
  rw [hr]
  clear hr
  generalize wordsOf s = L at *
  unfold CP at KC
  simp only at KC
  go_enter Tryd.func10, Tryd.ntmps10
  go_wp2_with fail
  refine KT.out.mono ?_
  rintro e w1 ⟨rfl, hb1⟩
  have HT1 := Lib.hid (HT.out.below hb1)
  have HB1 := Lib.hid hb1; clear hb1 HT
  go_wp2_with fail
  refine (KW.out _).mono ?_
  rintro e w2 ⟨a, c, rfl, hrow, hb2⟩
  obtain ⟨g, rest, rfl, hh⟩ := hrow.2.resolve_left HNE.out
  clear hh
  have HT2 := Lib.hid (HT1.out.below hb2)
  have HB2 := Lib.hid (HB1.out.then hb2); clear hb2 HB1 HT1
  have hrs := rs_new (c := c) HT2.out hrow HNE.out HLEN.out hs HWS.out
  have r0 := hrs.c0
  have HRS := Lib.hid hrs
  have HBN := Lib.hid (HB2.out.alloc HB2.out.size (.cells #[.slice (some ⟨g, 0, none⟩) L.length c, .int .i64 0, .int .i64 (-1), .int .i64 s.size] 48))
  clear hrow hrs HT2 HWS
  have HBL := Lib.hid (HB2.out.size)
  go_wp2_with fail
  refine (KC.out _ _ _ _ HRS.out).mono ?_
  clear r0
  rintro e w3 ⟨v, rfl, hv, ht3, hr3⟩
  have r0 := hr3.c0
  have r1 := hr3.c1
  have r2 := hr3.c2
  have HV := Lib.hid hv
  have HB3 := Lib.hid (HBN.out.trans (ht3.below HBL.out HBN.out.size))
  have HR3 := Lib.hid hr3
  have hlo := hr3.lo
  have hhi := hr3.hi
  have hat := hr3.att
  have hll := HLEN.out
  clear hv ht3 hr3 HB2 HRS HBN KC HLEN
  generalize w2.heap.size = R at *
  by_cases hbad : 0 ≤ b1
  · have HD := Lib.hid (show told L s.size (k, a1, b1) = (none, b1, 12) by unfold told; simp [hbad])
    have g1 : decide (b1 < 0) = false := by simpa using hbad
    have g2 : decide (0 ≤ b1) = true := by simpa using hbad
    go_wp2_with fail
    go_quiet (fail)
    go_wp2_with fail
    go_region
    go_wp2_with fail
    go_ret3
    exact ⟨_, by rw [HD.out]; rfl, by rw [HD.out]; rfl, below_drewN HB3.out _⟩
  · have g1 : decide (b1 < 0) = true := by simp; omega
    by_cases hla : a1 < L.length
    · have g3 : decide (a1 < L.length) = true := by simp; exact hla
      have HD := Lib.hid (show told L s.size (k, a1, b1) = (none, badOf L a1 b1 s.size, 12) by unfold told; simp [hbad, hla])
      have hbb := badOf_ge HR3.out
      have g4 : decide (0 ≤ badOf L a1 b1 s.size) = true := by simpa using hbb
      have KF := Lib.hid (fun n => fail_any (HR3.out.drewN n))
      clear hbad hla hbb
      generalize badOf L a1 b1 s.size = bb at *
      go_wp2_with fail
      go_quiet (fail)
      go_wp2_with fail
      refine (KF.out _).mono ?_
      rintro e w4 ⟨rfl, ht4, hr4⟩
      have q2 := hr4.c2
      have HB4 := Lib.hid ((below_drewN HB3.out _).trans (ht4.below HBL.out (HB3.out.size)))
      clear ht4 hr4 r0 r1 r2
      go_wp2_with fail
      go_region
      go_wp2_with fail
      go_ret3
      exact ⟨_, by rw [HD.out]; rfl, by rw [HD.out]; rfl, below_drewN HB4.out _⟩
    · have HD := Lib.hid (show told L s.size (k, a1, b1) = (k, 0, 0) by unfold told; simp [hbad, hla])
      have g2 : decide (0 ≤ b1) = false := by simpa using hbad
      have g3 : decide ((a1 : Int) < (L.length : Int)) = false := by simp; omega
      go_wp2_with fail
      go_quiet (fail)
      go_wp2_with fail
      go_ret3
      exact ⟨v, by rw [HD.out]; rfl, by rw [HD.out]; exact HV.out.below (below_drewN (Below.refl _ _) _), below_drewN HB3.out _⟩
theorem parse_any (s : ByteArray) (w : World) (hs : s.size ≤ 1048576) (hT : Tabs w) : Calls Tryd.prog 10 #[.string s] w (PV w (parseV s)) := by
  unfold parseV
  by_cases hb : 65536 < s.size
  · rw [if_pos hb]; exact parse_big s w hs hT hb
  · rw [if_neg hb]
    cases ht : tornAt s 0 with
    | some i => exact parse_torn s w hs hT (by omega) i ht
    | none =>
      by_cases hl : wordsOf s = []
      · rw [if_pos hl]; exact parse_empty s w hs hT (by omega) ht hl
      · rw [if_neg hl]; exact parse_deep s w hs hT (by omega) ht hl
end Go.Proofs.YtjhlpmigkbaegaaDoor
