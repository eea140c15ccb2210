/- The reader: fail, next, num walked. -/
import Derived.Test.YtjhlpmigkbaegaaDoorHex
import Derived.RegionTactic
import Derived.ChangeAlike
namespace Go.Proofs.YtjhlpmigkbaegaaDoor
open Go.RowKit
set_option linter.unusedVariables false

/-- Of the memory that was there block b alone may have turned; there may be more. -/
structure Turn (b : Nat) (w w' : World) : Prop where
  os : w'.os = w.os
  tape : w'.tape = w.tape
  output : w'.output = w.output
  size : w.heap.size ≤ w'.heap.size
  block : ∀ k, k < w.heap.size → k ≠ b → w'.heap[k]? = w.heap[k]?
theorem Turn.refl (b : Nat) (w : World) : Turn b w w := ⟨rfl, rfl, rfl, Nat.le_refl _, fun _ _ _ => rfl⟩
theorem Turn.trans {b : Nat} {u w w' : World} (h : Turn b u w) (k : Turn b w w') : Turn b u w' :=
  ⟨k.os.trans h.os, k.tape.trans h.tape, k.output.trans h.output, Nat.le_trans h.size k.size, fun i hi hb => (k.block i (Nat.lt_of_lt_of_le hi h.size) hb).trans (h.block i hi hb)⟩
theorem Turn.of_below {b : Nat} {w w' : World} (h : Below w.heap.size w w') : Turn b w w' := ⟨h.os, h.tape, h.output, h.size, fun k hk _ => h.block k hk⟩
theorem Turn.of_only {b : Nat} {w w' : World} (h : Only b w w') : Turn b w w' := ⟨h.os, h.tape, h.output, Nat.le_of_eq h.size.symm, fun k _ hb => h.block k hb⟩
theorem Turn.drewN {b : Nat} {w w' : World} (h : Turn b w w') (n : Nat) : Turn b w (w'.drewN n) := ⟨h.os, h.tape, h.output, h.size, h.block⟩
theorem Turn.drew {b : Nat} {w w' : World} (h : Turn b w w') : Turn b w w'.drew := ⟨h.os, h.tape, h.output, h.size, h.block⟩
theorem Turn.below {b B : Nat} {w w' : World} (h : Turn b w w') (hb : B ≤ b) (hs : B ≤ w.heap.size) : Below B w w' := ⟨h.os, h.tape, h.output, h.size, fun k hk => h.block k (by omega) (by omega)⟩
theorem Tabs.turn {b : Nat} {w w' : World} (h : Tabs w) (ht : Turn b w w') (hb : 8 ≤ b) : Tabs w' := by
  have hl := h.low
  have hbl : ∀ k, k < 8 → w'.heap[k]? = w.heap[k]? := fun k hk => ht.block k (by omega) (by omega)
  have hc : ∀ b o, b < 8 → w'.cell? ⟨b, o, none⟩ = w.cell? ⟨b, o, none⟩ := fun b o hb2 => World.cell?_of_block (hbl b hb2)
  refine ⟨⟨fun c h2 => ?_, fun i h2 => ?_⟩, ?_, ?_, ?_, Nat.le_trans h.low ht.size⟩
  · rw [hc 0 _ (by omega)]; exact h.u8.1 c h2
  · rw [hc 1 _ (by omega), hc 1 _ (by omega)]; exact h.u8.2 i h2
  · have := h.pow
    unfold Lib.TabIs World.var? at *
    rw [gPow] at *
    simp only [Option.bind_some] at *
    rw [hbl 2 (by omega)]
    exact this
  · rw [hc 6 _ (by omega)]; exact h.es
  · rw [hc 7 _ (by omega)]; exact h.er
/-- What block R and the words that it speaks of hold. -/
structure RS (w : World) (R : Nat) (g c : Nat) (L : List (ByteArray × Nat)) (at_ : Nat) (bad : Int) (fin : Nat) : Prop where
  blk : w.heap[R]? = some (.cells #[.slice (some ⟨g, 0, none⟩) L.length c, .int .i64 at_, .int .i64 bad, .int .i64 fin] 48 (0, 0))
  row : WRow w (some ⟨g, 0, none⟩) L.length L
  ne : g ≠ R
  glt : g < w.heap.size
  tabs : Tabs w
  low : 8 ≤ R
  len : L.length ≤ 1048576
  fin : fin ≤ 1048576
  lo : -1 ≤ bad
  hi : bad ≤ 1048576
  att : at_ ≤ 1048580
  ws : ∀ p ∈ L, p.1.size ≤ 1048576 ∧ p.2 ≤ 1048576
theorem WRow.turn {w w' : World} {b g n : Nat} {l : List (ByteArray × Nat)} (h : WRow w (some ⟨g, 0, none⟩) n l) (ht : Turn b w w') (hne : g ≠ b) : WRow w' (some ⟨g, 0, none⟩) n l := by
  refine ⟨h.1, h.2.imp id ?_⟩
  rintro ⟨g', rest, e, hh⟩
  cases e
  exact ⟨g, rest, rfl, (ht.block g (lt_of_block hh) hne).trans hh⟩
theorem RS.turn {w w' : World} {R g c L at_ bad fin} (h : RS w R g c L at_ bad fin) (ht : Turn R w w') {at' : Nat} {bad' : Int} (hb : w'.heap[R]? = some (.cells #[.slice (some ⟨g, 0, none⟩) L.length c, .int .i64 at', .int .i64 bad', .int .i64 fin] 48 (0, 0)))
    (l1 : -1 ≤ bad') (l2 : bad' ≤ 1048576) (l3 : at' ≤ 1048580) : RS w' R g c L at' bad' fin :=
  ⟨hb, h.row.turn ht h.ne, h.ne, Nat.lt_of_lt_of_le h.glt ht.size, h.tabs.turn ht h.low, h.low, h.len, h.fin, l1, l2, l3, h.ws⟩
theorem RS.below {w w' : World} {R g c L at_ bad fin} (h : RS w R g c L at_ bad fin) (hb : Below w.heap.size w w') : RS w' R g c L at_ bad fin :=
  h.turn (Turn.of_below hb) ((hb.block R (lt_of_block h.blk)).trans h.blk) h.lo h.hi h.att
theorem RS.c0 {w R g c L at_ bad fin} (h : RS w R g c L at_ bad fin) : w.cell? ⟨R, 0, none⟩ = some (.slice (some ⟨g, 0, none⟩) L.length c) := (cell_of_row _ _ _ _ _ _ h.blk).trans rfl
theorem RS.c1 {w R g c L at_ bad fin} (h : RS w R g c L at_ bad fin) : w.cell? ⟨R, 1, none⟩ = some (.int .i64 at_) := (cell_of_row _ _ _ _ _ _ h.blk).trans rfl
theorem RS.c2 {w R g c L at_ bad fin} (h : RS w R g c L at_ bad fin) : w.cell? ⟨R, 2, none⟩ = some (.int .i64 bad) := (cell_of_row _ _ _ _ _ _ h.blk).trans rfl
theorem RS.c3 {w R g c L at_ bad fin} (h : RS w R g c L at_ bad fin) : w.cell? ⟨R, 3, none⟩ = some (.int .i64 fin) := (cell_of_row _ _ _ _ _ _ h.blk).trans rfl
theorem RS.f {w R g c L at_ bad fin} (h : RS w R g c L at_ bad fin) (i : Nat) : w.frozen? ⟨R, i, none⟩ = false := frozen_of_row _ _ _ _ _ h.blk
theorem RS.set1 {w R g c L at_ bad fin} (h : RS w R g c L at_ bad fin) (x : Nat) (hx : x ≤ 1048580) : RS (w.setCell ⟨R, 1, none⟩ (.int .i64 x)) R g c L x bad fin :=
  h.turn (Turn.of_only (Only.store w R 1 _)) (by rw [heap_setCell_same _ _ _ _ _ _ h.blk]; rfl) h.lo h.hi hx
theorem RS.set2 {w R g c L at_ bad fin} (h : RS w R g c L at_ bad fin) (x : Int) (h1 : -1 ≤ x) (h2 : x ≤ 1048576) : RS (w.setCell ⟨R, 2, none⟩ (.int .i64 x)) R g c L at_ x fin :=
  h.turn (Turn.of_only (Only.store w R 2 _)) (by rw [heap_setCell_same _ _ _ _ _ _ h.blk]; rfl) h1 h2 h.att
theorem RS.drewN {w R g c L at_ bad fin} (h : RS w R g c L at_ bad fin) (n : Nat) : RS (w.drewN n) R g c L at_ bad fin :=
  h.turn ((Turn.refl R w).drewN n) h.blk h.lo h.hi h.att
theorem RS.drew {w R g c L at_ bad fin} (h : RS w R g c L at_ bad fin) : RS w.drew R g c L at_ bad fin :=
  h.turn ((Turn.refl R w).drew) h.blk h.lo h.hi h.att
/-- The place of the first word that does not fit, behind a 'fail'. -/
def badOf (L : List (ByteArray × Nat)) (at_ : Nat) (bad : Int) (fin : Nat) : Int := if 0 ≤ bad then bad else match L[at_]? with | some p => p.2 | none => fin
/-- A call on the reader behind which it stands so. -/
def RPost (v : Value) (w : World) (R g c : Nat) (L : List (ByteArray × Nat)) (at_ : Nat) (bad : Int) (fin : Nat) (e : Ending) (w' : World) : Prop :=
  e = .returned v ∧ Turn R w w' ∧ RS w' R g c L at_ bad fin
theorem badOf_le {w R g c L at_ bad fin} (h : RS w R g c L at_ bad fin) : -1 ≤ badOf L at_ bad fin ∧ badOf L at_ bad fin ≤ 1048576 := by
  unfold badOf
  have := h.lo; have := h.hi; have := h.fin
  split
  · omega
  · split
    · rename_i p hp; have := (h.ws p (List.mem_of_getElem? hp)).2; omega
    · omega
set_option maxRecDepth 100000 in
set_option maxHeartbeats 1000000 in
theorem fail_any {w : World} {R g c : Nat} {L : List (ByteArray × Nat)} {at_ : Nat} {bad : Int} {fin : Nat} (h : RS w R g c L at_ bad fin) :
    Calls Tryd.prog 25 #[.pointer (some ⟨R, 0, none⟩)] w (RPost (.tuple #[]) w R g c L at_ (badOf L at_ bad fin) fin) := by
  have c0 := h.c0
  have c1 := h.c1
  have c2 := h.c2
  have c3 := h.c3
  have f2 := h.f 2
  have hfin := h.fin
  have hlen := h.len
  have hatt := h.att
  by_cases hb : 0 ≤ bad
  · have HB := Lib.hid (show badOf L at_ bad fin = bad by unfold badOf; rw [if_pos hb])
    have g0 : decide (0 ≤ bad) = true := by simpa using hb
    have HS := Lib.hid h; clear h hb
    go_enter Tryd.func25, Tryd.ntmps25
    go_wp2_with fail
    go_end0
    exact ⟨rfl, Turn.refl _ _, by rw [HB.out]; exact HS.out⟩
  · have g0 : decide (0 ≤ bad) = false := by simpa using hb
    by_cases ha : at_ < L.length
    · obtain ⟨⟨p1, p2⟩, hp⟩ : ∃ p, L[at_]? = some p := ⟨L[at_], List.getElem?_eq_getElem ha⟩
      have HB := Lib.hid (show badOf L at_ bad fin = (p2 : Int) by unfold badOf; rw [if_neg hb, hp])
      obtain ⟨g', e', _, d1, d2⟩ := h.row.cells hp
      simp only [Option.some.injEq, Addr.mk.injEq, and_true] at e'
      subst e'
      simp only at d1 d2
      have hne := h.ne
      have hws := h.ws _ (List.mem_of_getElem? hp)
      have ha2 : (at_ : Int) < (L.length : Int) := by omega
      have ha3 : (0 : Int) ≤ (at_ : Int) := by omega
      have hp2 := hws.2
      simp only at hp2
      have H2 := Lib.hid ((h.set2 (fin : Int) (by omega) (by omega)))
      have HS := Lib.hid h; clear h hb hp hws
      generalize L.length = n at *
      go_enter Tryd.func25, Tryd.ntmps25
      go_wp2_with fail
      go_quiet (fail)
      go_wp2_with fail
      go_region
      go_end0
      exact ⟨rfl, ((Turn.of_only (Only.store w R 2 _)).drewN _).trans (Turn.of_only (Only.store _ R 2 _)), by rw [HB.out]; exact (H2.out.drewN _).set2 _ (by omega) (by omega)⟩
    · have HB := Lib.hid (show badOf L at_ bad fin = (fin : Int) by unfold badOf; rw [if_neg hb, List.getElem?_eq_none (by omega)])
      have H2 := Lib.hid ((h.set2 (fin : Int) (by omega) (by omega)))
      have g1 : decide (at_ < L.length) = false := by simpa using ha
      have HS := Lib.hid h; clear h hb ha
      generalize L.length = n at *
      go_enter Tryd.func25, Tryd.ntmps25
      go_wp2_with fail
      go_quiet (fail)
      go_wp2_with fail
      go_end0
      exact ⟨rfl, (Turn.of_only (Only.store w R 2 _)).drewN _, by rw [HB.out]; exact H2.out.drewN _⟩
theorem badOf_bad {L : List (ByteArray × Nat)} {at_ : Nat} {bad : Int} {fin : Nat} (h : 0 ≤ bad) : badOf L at_ bad fin = bad := by unfold badOf; rw [if_pos h]
/-- What 'next' hands back; where the first word that does not fit stands then. -/
def nextS (L : List (ByteArray × Nat)) (at_ : Nat) (bad : Int) : ByteArray := if 0 ≤ bad then ⟨#[]⟩ else match L[at_]? with | some p => p.1 | none => ⟨#[]⟩
def nextB (L : List (ByteArray × Nat)) (at_ : Nat) (bad : Int) (fin : Nat) : Int := if 0 ≤ bad then bad else match L[at_]? with | some p => bad | none => fin
set_option maxRecDepth 100000 in
set_option maxHeartbeats 1000000 in
theorem next_any {w : World} {R g c : Nat} {L : List (ByteArray × Nat)} {at_ : Nat} {bad : Int} {fin : Nat} (h : RS w R g c L at_ bad fin) :
    Calls Tryd.prog 32 #[.pointer (some ⟨R, 0, none⟩)] w (RPost (.string (nextS L at_ bad)) w R g c L at_ (nextB L at_ bad fin) fin) := by
  have c0 := h.c0
  have c1 := h.c1
  have c2 := h.c2
  have hlen := h.len
  have hatt := h.att
  have KF := Lib.hid (fun n => fail_any (h.drewN n))
  by_cases hb : 0 ≤ bad
  · have HV := Lib.hid (show nextS L at_ bad = ⟨#[]⟩ ∧ nextB L at_ bad fin = badOf L at_ bad fin by unfold nextS nextB badOf; simp [hb])
    have g0 : decide (0 ≤ bad) = true := by simpa using hb
    have HS := Lib.hid h; clear h hb
    go_enter Tryd.func32, Tryd.ntmps32
    go_wp2_with fail
    go_quiet (fail)
    go_wp2_with fail
    refine (KF.out _).mono ?_
    rintro e w1 ⟨rfl, ht, hrs⟩
    have HT := Lib.hid ht
    have HR := Lib.hid hrs
    clear ht hrs
    go_wp2_with fail
    go_ret
    exact ⟨by rw [HV.out.1]; rfl, ((Turn.refl R w).drewN _).trans HT.out, by rw [HV.out.2]; exact HR.out⟩
  · have g0 : decide (0 ≤ bad) = false := by simpa using hb
    by_cases ha : at_ < L.length
    · obtain ⟨⟨p1, p2⟩, hp⟩ : ∃ p, L[at_]? = some p := ⟨L[at_], List.getElem?_eq_getElem ha⟩
      have HV := Lib.hid (show nextS L at_ bad = p1 ∧ nextB L at_ bad fin = bad by unfold nextS nextB; simp [hb, hp])
      obtain ⟨g', e', _, d1, d2⟩ := h.row.cells hp
      simp only [Option.some.injEq, Addr.mk.injEq, and_true] at e'
      subst e'
      simp only at d1 d2
      have ha2 : (at_ : Int) < (L.length : Int) := by omega
      have ha3 : (0 : Int) ≤ (at_ : Int) := by omega
      have g1 : decide (L.length ≤ at_) = false := by simpa using ha
      have HS := Lib.hid h; clear h hb hp
      generalize L.length = n at *
      go_enter Tryd.func32, Tryd.ntmps32
      go_wp2_with fail
      go_quiet (fail)
      go_wp2_with fail
      go_quiet (fail)
      go_wp2_with fail
      go_ret
      exact ⟨by rw [HV.out.1]; rfl, ((Turn.refl R w).drewN _).drewN _, by rw [HV.out.2]; exact (HS.out.drewN _).drewN _⟩
    · have HV := Lib.hid (show nextS L at_ bad = ⟨#[]⟩ ∧ nextB L at_ bad fin = badOf L at_ bad fin by
        unfold nextS nextB badOf; rw [List.getElem?_eq_none (by omega)]; simp [hb])
      have g1 : decide (L.length ≤ at_) = true := by simpa using ha
      have HS := Lib.hid h; clear h hb ha
      generalize L.length = n at *
      go_enter Tryd.func32, Tryd.ntmps32
      go_wp2_with fail
      go_quiet (fail)
      go_wp2_with fail
      refine (KF.out _).mono ?_
      rintro e w1 ⟨rfl, ht, hrs⟩
      have HT := Lib.hid ht
      have HR := Lib.hid hrs
      clear ht hrs
      go_wp2_with fail
      go_ret
      exact ⟨by rw [HV.out.1]; rfl, ((Turn.refl R w).drewN _).trans HT.out, by rw [HV.out.2]; exact HR.out⟩
theorem nextS_size {w R g c L at_ bad fin} (h : RS w R g c L at_ bad fin) : (nextS L at_ bad).size ≤ 1048576 := by
  unfold nextS
  split
  · exact Nat.zero_le _
  · split
    · rename_i p hp; exact (h.ws p (List.mem_of_getElem? hp)).1
    · exact Nat.zero_le _
/-- What 'num' leaves. -/
def numA (L : List (ByteArray × Nat)) (at_ : Nat) (bad : Int) : Nat := if numB (nextS L at_ bad) then at_ + 1 else at_
def numE (L : List (ByteArray × Nat)) (at_ : Nat) (bad : Int) (fin : Nat) : Int := if numB (nextS L at_ bad) then nextB L at_ bad fin else badOf L at_ (nextB L at_ bad fin) fin
def numR (L : List (ByteArray × Nat)) (at_ : Nat) (bad : Int) : Int := if numB (nextS L at_ bad) then numI (nextS L at_ bad) else 0
set_option maxRecDepth 100000 in
set_option maxHeartbeats 1000000 in
theorem num_any {w : World} {R g c : Nat} {L : List (ByteArray × Nat)} {at_ : Nat} {bad : Int} {fin : Nat} (h : RS w R g c L at_ bad fin) (ha : at_ ≤ 1048579) :
    Calls Tryd.prog 35 #[.pointer (some ⟨R, 0, none⟩)] w (RPost (.int .i64 (numR L at_ bad)) w R g c L (numA L at_ bad) (numE L at_ bad fin) fin) := by
  have KN := Lib.hid (next_any h)
  have KB := Lib.hid (fun w hT => number_any (nextS L at_ bad) w (nextS_size h) hT)
  cases hn : numB (nextS L at_ bad) with
  | true =>
    have HV := Lib.hid (show numA L at_ bad = at_ + 1 ∧ numE L at_ bad fin = nextB L at_ bad fin ∧ numR L at_ bad = numI (nextS L at_ bad) by unfold numA numE numR; simp [hn])
    rw [hn] at KB
    clear hn h
    generalize nextB L at_ bad fin = nb at *
    generalize numI (nextS L at_ bad) = ni at *
    generalize nextS L at_ bad = ns at *
    go_enter Tryd.func35, Tryd.ntmps35
    go_wp2_with fail
    refine KN.out.mono ?_
    rintro e w1 ⟨rfl, ht1, hr1⟩
    have HT1 := Lib.hid ht1
    have HR1 := Lib.hid hr1
    clear ht1 hr1
    go_wp2_with fail
    refine (KB.out _ HR1.out.tabs).mono ?_
    rintro e w2 ⟨rfl, hb2⟩
    have HR2 := Lib.hid (HR1.out.below hb2)
    have HT2 := Lib.hid (HT1.out.trans (Turn.of_below hb2))
    clear hb2 HR1 HT1
    have c1 := HR2.out.c1
    have f1 := HR2.out.f 1
    have H1 := Lib.hid (HR2.out.set1 (at_ + 1) (by omega))
    go_wp2_with fail
    go_ret
    exact ⟨by rw [HV.out.2.2]; rfl, HT2.out.trans (Turn.of_only (Only.store w2 R 1 _)), by rw [HV.out.1, HV.out.2.1]; exact H1.out⟩
  | false =>
    have HV := Lib.hid (show numA L at_ bad = at_ ∧ numE L at_ bad fin = badOf L at_ (nextB L at_ bad fin) fin ∧ numR L at_ bad = 0 by unfold numA numE numR; simp [hn])
    rw [hn] at KB
    clear hn h
    generalize nextB L at_ bad fin = nb at *
    generalize numI (nextS L at_ bad) = ni at *
    generalize nextS L at_ bad = ns at *
    go_enter Tryd.func35, Tryd.ntmps35
    go_wp2_with fail
    refine KN.out.mono ?_
    rintro e w1 ⟨rfl, ht1, hr1⟩
    have HT1 := Lib.hid ht1
    have HR1 := Lib.hid hr1
    clear ht1 hr1
    go_wp2_with fail
    refine (KB.out _ HR1.out.tabs).mono ?_
    rintro e w2 ⟨rfl, hb2⟩
    have HR2 := Lib.hid (HR1.out.below hb2)
    have HT2 := Lib.hid (HT1.out.trans (Turn.of_below hb2))
    clear hb2 HR1 HT1
    have KF := Lib.hid (fail_any HR2.out)
    go_wp2_with fail
    refine KF.out.mono ?_
    rintro e w3 ⟨rfl, ht3, hr3⟩
    have HT3 := Lib.hid ht3
    have HR3 := Lib.hid hr3
    clear ht3 hr3
    go_wp2_with fail
    go_ret
    exact ⟨by rw [HV.out.2.2]; rfl, HT2.out.trans HT3.out, by rw [HV.out.1, HV.out.2.1]; exact HR3.out⟩
end Go.Proofs.YtjhlpmigkbaegaaDoor
