/- VarintOne walked. -/
import Derived.Test.YtnkndpgaoplamaaLaws2
import Derived.Test.YtnkndpgaoplamaaPhase
import Derived.Deep.DeepCutAuto
namespace Go.Proofs.Ytnkndpgaoplamaa
open Go.RowKit
set_option linter.unusedVariables false

theorem dec_of_take {xs : List Int} {v : Nat} (hv : v < 18446744073709551616) (h : xs.take (enc v).length = enc v) : dec xs = some (v, (enc v).length) := by
  have := dec_enc hv (xs.drop (enc v).length)
  rwa [show enc v ++ xs.drop (enc v).length = xs by
    have h2 := List.take_append_drop (enc v).length xs
    rwa [h] at h2] at this
theorem dec_cut {xs : List Int} {v k j : Nat} (hb : Bytes xs) (h : dec xs = some (v, k)) (hj : j < k) : dec (xs.take j) = none := by
  cases hd : dec (xs.take j) with
  | none => rfl
  | some p =>
    exfalso
    obtain ⟨v', k'⟩ := p
    obtain ⟨h1, h2, h3⟩ := dec_is (hb.take j) hd
    have h4 := congrArg List.length h3
    rw [List.length_take, List.length_take] at h4
    have h5 : k' ≤ j := by omega
    rw [List.take_take, Nat.min_eq_left h5, h2] at h3
    have h6 := dec_of_take h1 h3
    rw [h] at h6
    simp only [Option.some.injEq, Prod.mk.injEq] at h6
    omega
set_option maxRecDepth 100000 in
set_option maxHeartbeats 4000000 in
theorem one_walk (q : Int) (a : Option Addr) (len cap : Nat) (l : List Int) (w : World) (hl : Row w a len (l.map bv)) (hcap : len ≤ cap) (hnil : a = none → cap = 0) (hby : Bytes l) :
    Calls Try.prog 8 #[.slice a len cap, .int .i64 q] w fun e w' => e = .returned (.bool true) ∧ Below w.heap.size w w' := by
  obtain ⟨i0, hi, hz0, hz1, hz2⟩ := info_parts info5
  have hR := cut_row hl 12
  have hB := hby.take 12
  have hmin : min (len : Int) 12 = ((min len 12 : Nat) : Int) := by omega
  have hm1 : min len 12 ≤ cap := by omega
  have hm2 : min len 12 ≤ 12 := by omega
  generalize l.take 12 = xs at hR hB
  generalize min len 12 = m at *
  have hLn : xs.length = m := by simpa using hR.1
  have K1 := Lib.hid (fun a c w hr => take_b xs a m c w hr hB (by omega))
  have hone := bv_one xs
  have HR := Lib.hid hR
  have HB := Lib.hid hB
  have HLn := Lib.hid hLn
  have hb1 : m * 1 ≤ 140737488355328 := by omega
  have hb2 : m ≤ maxLen := by unfold maxLen; omega
  have hmc : (m : Int) ≤ (cap : Int) := by omega
  clear hR hl hcap hby hB hLn
  go_enter Try.func8, Try.ntmps8
  go_wp2_with fail
  refine (shown_any _).mono ?_
  rintro e w1 ⟨rfl, h1⟩
  have R1 := Lib.hid (HR.out.below (h1.alloc h1.size (.cells #[] 5)))
  have H1 := Lib.hid h1
  clear h1
  go_wp2_with (at_builtin; refine wpList_append_fresh rfl (.tmp 13) (.tmp 18) 27 rfl w1.heap.size 5 i0 (.int .u8 0) 1 Try.underlying27 hi hz0 hz1 hz2 rfl _ _ rfl (owns_empty w1 5) a m cap (xs.map bv) rfl R1.out hnil hone hb2 hb1 (by simp) ?_)
  intro g c w2 hg hmc' hcm' hrow hown hb2
  have R2 := Lib.hid hrow
  have H2 := Lib.hid (H1.out.then (((Below.refl w1.heap.size w1).alloc (Nat.le_refl _) (.cells #[] 5)).trans hb2))
  clear hrow hown hb2 R1 H1 HR hmin hm1 hmc hone
  cases hd : dec xs with
  | none =>
    rw [hd] at K1
    clear hd
    go_wp2_with fail
    refine (K1.out _ _ _ R2.out).mono ?_
    rintro e w3 ⟨rfl, h3⟩
    have H3 := Lib.hid (H2.out.then h3)
    clear h3
    simp only [takeV]
    go_wp2
    go_ret
    exact ⟨by simp, H3.out⟩
  | some p =>
    obtain ⟨v, k⟩ := p
    rw [hd] at K1
    obtain ⟨d1, d2, d3⟩ := dec_is HB.out hd
    have d4 := congrArg List.length d3
    rw [List.length_take, HLn.out] at d4
    have d5 := enc_pos v
    have d6 := enc_ten d1
    have hk1 : ¬ (k : Int) < 1 := by omega
    have hk2 : ¬ (m : Int) < (k : Int) := by omega
    have hk3 : ¬ (10 : Int) < (k : Int) := by omega
    have hk4 : k ≤ c := by omega
    have hk5 : (k : Int) ≤ (c : Int) := by omega
    obtain ⟨r, hr⟩ : ∃ r : Nat, (q % 65536).toNat = r := ⟨_, rfl⟩
    have hand := and_65535 q
    rw [hr] at hand
    clear hr
    have hj : r % k < k := Nat.mod_lt _ (by omega)
    have hrem : (r : Int) % (k : Int) = ((r % k : Nat) : Int) := by norm_cast
    have hz : ¬ ((k : Int) = 0) := by omega
    generalize r % k = j at *
    have hj2 : j ≤ c := by omega
    have hcut := dec_cut HB.out hd hj
    have K2 := Lib.hid (fun a c w hr => take_b (xs.take j) a j c w hr (HB.out.take j) (by omega))
    rw [hcut] at K2
    have K3 := Lib.hid (fun w => put_nil v w d1)
    have D3 := Lib.hid d3
    have hjm : j ≤ m := by omega
    have hkm : k ≤ m := by omega
    have J2 := Lib.hid (fun ww (hb : Below w2.heap.size w2 ww) => (by have := (R2.out.below hb).take j hjm; rwa [← List.map_take] at this : Row ww (some ⟨g, 0, none⟩) j ((xs.take j).map bv)))
    have J3 := Lib.hid (fun ww (hb : Below w2.heap.size w2 ww) => (by have := (R2.out.below hb).take k hkm; rw [← List.map_take] at this; rwa [d3] at this : Row ww (some ⟨g, 0, none⟩) k ((enc v).map bv)))
    clear hd d1 d2 d3 d4 d5 d6 hcut
    go_wp2_with fail
    refine (K1.out _ _ _ R2.out).mono ?_
    rintro e w3 ⟨rfl, h3⟩
    have T := Lib.hid h3
    clear h3
    simp only [takeV]
    go_wp2_with fail
    refine (K2.out _ _ _ (J2.out _ T.out)).mono ?_
    rintro e w4 ⟨rfl, h4⟩
    have T := Lib.hid (T.out.then h4)
    clear h4
    simp only [takeV]
    obtain ⟨sv, hsv⟩ : ∃ s, strOfNums (enc v) = s := ⟨_, rfl⟩
    have hKB : ∀ w', Below w2.heap.size w2 w' → (convert 27 9 (.slice (some ⟨g, 0, none⟩) k c)).run Try.prog w' = .ok (.string sv) w' := fun w' hb => by rw [conv_row (J3.out _ hb), hsv]
    have KB := Lib.hid hKB
    have HSV := Lib.hid hsv
    clear hKB hsv K1 K2 J2 J3 D3 R2 HB HLn hrem hand hj hjm hj2 hk1
    go_upto_region 10 with fail
    have T0 := Lib.hid (Below.refl w4.heap.size w4).drew
    refine wp_region_phase (by kernel_rfl) ?_
    refine wpAnyH_take (i := 0) (oi := ⟨_, _, _, _, _, _⟩) (v := ?vv0) rfl (by kernel_rfl) (by kernel_rfl) (by kernel_rfl) (fun _ _ _ h => h) (Or.inl ⟨by rfl, ?yy0⟩) T0.out ?_
    case yy0 => (intro w' hw'; go_simp; try with_reducible rfl)
    try simp only [Act.put, List.setIfInBounds_toArray, List.set_cons_zero, List.set_cons_succ]
    refine wpAnyH_take (i := 1) (oi := ⟨_, _, _, _, _, _⟩) (v := ?vv1) rfl (by kernel_rfl) (by kernel_rfl) (by kernel_rfl) (fun _ _ _ h => h) (Or.inl ⟨by rfl, ?yy1⟩) T0.out ?_
    case yy1 => (intro w' hw'; go_simp; try with_reducible rfl)
    try simp only [Act.put, List.setIfInBounds_toArray, List.set_cons_zero, List.set_cons_succ]
    refine wpAnyH_take (i := 2) (oi := ⟨_, _, _, _, _, _⟩) (v := ?vv2) rfl (by kernel_rfl) (by kernel_rfl) (by kernel_rfl) (fun _ _ _ h => h) (Or.inl ⟨by rfl, ?yy2⟩) T0.out ?_
    case yy2 => (intro w' hw'; go_simp; try with_reducible rfl)
    try simp only [Act.put, List.setIfInBounds_toArray, List.set_cons_zero, List.set_cons_succ]
    refine wpAnyH_take (i := 5) (oi := ⟨_, _, _, _, _, _⟩) (v := ?vv5) rfl (by kernel_rfl) (by kernel_rfl) (by kernel_rfl) (fun _ _ _ h => h) (Or.inl ⟨by rfl, ?yy5⟩) T0.out ?_
    case yy5 => (intro w' hw'; go_simp; try with_reducible rfl)
    try simp only [Act.put, List.setIfInBounds_toArray, List.set_cons_zero, List.set_cons_succ]
    refine wpAnyH_take (i := 6) (oi := ⟨_, _, _, _, _, _⟩) (v := ?vv6) rfl (by kernel_rfl) (by kernel_rfl) (by kernel_rfl) (fun _ _ _ h => h) (Or.inl ⟨by rfl, ?yy6⟩) T0.out ?_
    case yy6 => (intro w' hw'; go_simp; try with_reducible rfl)
    try simp only [Act.put, List.setIfInBounds_toArray, List.set_cons_zero, List.set_cons_succ]
    refine wpAnyH_take (i := 7) (oi := ⟨_, _, _, _, _, _⟩) (v := ?vv7) rfl (by kernel_rfl) (by kernel_rfl) (by kernel_rfl) (fun _ _ _ h => h) (Or.inl ⟨by rfl, ?yy7⟩) T0.out ?_
    case yy7 => (intro w' hw'; go_simp; try with_reducible rfl)
    try simp only [Act.put, List.setIfInBounds_toArray, List.set_cons_zero, List.set_cons_succ]
    refine wpAnyH_take (i := 8) (oi := ⟨_, _, _, _, _, _⟩) (v := ?vv8) rfl (by kernel_rfl) (by kernel_rfl) (by kernel_rfl) (fun _ _ _ h => h) (Or.inl ⟨by rfl, ?yy8⟩) T0.out ?_
    case yy8 => (intro w' hw'; have c0 := KB.out w' (T.out.then hw'); go_simp; try with_reducible rfl)
    try simp only [Act.put, List.setIfInBounds_toArray, List.set_cons_zero, List.set_cons_succ]
    refine wpAnyH_ready (rs := [3]) (by kernel_rfl) (by simp) ?_
    refine AllReadyH.cons (o := ⟨_, _, _, _, _, _⟩) rfl (fun K hK => ?_) AllReadyH.nil
    go_simp
    refine (K3.out _).mono ?_
    rintro e x1 ⟨v1, rfl, ho, hb⟩
    obtain ⟨aP, cP, rfl, _⟩ := Row.own ho
    simp only [List.length_map] at ho ⊢
    refine hK.out _ _ (below_undrew hb) (fun hHeld => ?_)
    clear hK K hHeld
    try simp only [Act.put, List.setIfInBounds_toArray, List.set_cons_zero, List.set_cons_succ]
    refine wpAnyH_phase (below_undrew hb) ?_
    have B1 := Lib.hid (T.out.then (below_undrew hb))
    have D := (fun w' hb' => conv_own (own_below ho hb') : ∀ w', Below x1.heap.size x1 w' → _)
    rw [HSV.out] at D
    have D1 := Lib.hid D
    clear D ho hb
    have T1 := Lib.hid (Below.refl x1.heap.size x1)
    refine wpAnyH_take (i := 4) (oi := ⟨_, _, _, _, _, _⟩) (v := ?vv4) rfl (by kernel_rfl) (by kernel_rfl) (by kernel_rfl) (fun _ _ _ h => h) (Or.inl ⟨by rfl, ?yy4⟩) T1.out ?_
    case yy4 => (intro w' hw'; have c0 := D1.out w' hw'; go_simp; try with_reducible rfl)
    try simp only [Act.put, List.setIfInBounds_toArray, List.set_cons_zero, List.set_cons_succ]
    refine wpAnyH_take (i := 9) (oi := ⟨_, _, _, _, _, _⟩) (v := ?vv9) rfl (by kernel_rfl) (by kernel_rfl) (by kernel_rfl) (fun _ _ _ h => h) (Or.inl ⟨by rfl, ?yy9⟩) T1.out ?_
    case yy9 => (intro w' hw'; go_simp; try with_reducible rfl)
    try simp only [Act.put, List.setIfInBounds_toArray, List.set_cons_zero, List.set_cons_succ]
    refine wpAnyH_take (i := 10) (oi := ⟨_, _, _, _, _, _⟩) (v := ?vv10) rfl (by kernel_rfl) (by kernel_rfl) (by kernel_rfl) (fun _ _ _ h => h) (Or.inl ⟨by rfl, ?yy10⟩) T1.out ?_
    case yy10 => (intro w' hw'; go_simp; try with_reducible rfl)
    try simp only [Act.put, List.setIfInBounds_toArray, List.set_cons_zero, List.set_cons_succ]
    refine wpAnyH_take (i := 11) (oi := ⟨_, _, _, _, _, _⟩) (v := ?vv11) rfl (by kernel_rfl) (by kernel_rfl) (by kernel_rfl) (fun _ _ _ h => h) (Or.inl ⟨by rfl, ?yy11⟩) T1.out ?_
    case yy11 => (intro w' hw'; go_simp; try with_reducible rfl)
    try simp only [Act.put, List.setIfInBounds_toArray, List.set_cons_zero, List.set_cons_succ]
    refine wpAnyH_take (i := 12) (oi := ⟨_, _, _, _, _, _⟩) (v := ?vv12) rfl (by kernel_rfl) (by kernel_rfl) (by kernel_rfl) (fun _ _ _ h => h) (Or.inl ⟨by rfl, ?yy12⟩) T1.out ?_
    case yy12 => (intro w' hw'; go_simp; try with_reducible rfl)
    try simp only [Act.put, List.setIfInBounds_toArray, List.set_cons_zero, List.set_cons_succ]
    refine wpAnyH_take (i := 13) (oi := ⟨_, _, _, _, _, _⟩) (v := ?vv13) rfl (by kernel_rfl) (by kernel_rfl) (by kernel_rfl) (fun _ _ _ h => h) (Or.inl ⟨by rfl, ?yy13⟩) T1.out ?_
    case yy13 => (intro w' hw'; go_simp; try with_reducible rfl)
    try simp only [Act.put, List.setIfInBounds_toArray, List.set_cons_zero, List.set_cons_succ]
    refine wpAnyH_take (i := 14) (oi := ⟨_, _, _, _, _, _⟩) (v := ?vv14) rfl (by kernel_rfl) (by kernel_rfl) (by kernel_rfl) (fun _ _ _ h => h) (Or.inl ⟨by rfl, ?yy14⟩) T1.out ?_
    case yy14 => (intro w' hw'; go_simp; try with_reducible rfl)
    try simp only [Act.put, List.setIfInBounds_toArray, List.set_cons_zero, List.set_cons_succ]
    refine wpAnyH_take (i := 15) (oi := ⟨_, _, _, _, _, _⟩) (v := ?vv15) rfl (by kernel_rfl) (by kernel_rfl) (by kernel_rfl) (fun _ _ _ h => h) (Or.inl ⟨by rfl, ?yy15⟩) T1.out ?_
    case yy15 => (intro w' hw'; go_simp; try with_reducible rfl)
    try simp only [Act.put, List.setIfInBounds_toArray, List.set_cons_zero, List.set_cons_succ]
    refine wpAnyH_done (by kernel_rfl) ?_ _
    go_wp2
    go_ret
    exact ⟨by simp, H2.out.then B1.out⟩
end Go.Proofs.Ytnkndpgaoplamaa
