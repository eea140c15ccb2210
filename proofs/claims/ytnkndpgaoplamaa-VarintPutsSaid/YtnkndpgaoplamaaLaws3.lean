/- VarintPuts walked. -/
import Derived.Test.YtnkndpgaoplamaaLaws2
import Derived.Test.YtnkndpgaoplamaaPhase
import Derived.Deep.DeepCutAuto
namespace Go.Proofs.Ytnkndpgaoplamaa
open Go.RowKit
set_option linter.unusedVariables false

set_option maxRecDepth 100000 in
set_option maxHeartbeats 4000000 in
theorem puts_walk (u : Nat) (a1 a2 : Option Addr) (len1 cap1 len2 cap2 : Nat) (l1 l2 : List Int) (w : World) (hl1 : Row w a1 len1 (l1.map bv)) (hcap1 : len1 ≤ cap1) (hnil1 : a1 = none → cap1 = 0)
    (hl2 : Row w a2 len2 (l2.map iv)) (hcap2 : len2 ≤ cap2) (hnil2 : a2 = none → cap2 = 0) (hin : In64 l2) (hu : u < 18446744073709551616) :
    Calls Try.prog 4 #[.slice a1 len1 cap1, .int .u64 u, .slice a2 len2 cap2] w fun e w' => e = .returned (.bool true) ∧ Below w.heap.size w w' := by
  obtain ⟨i0, hi, hz0, hz1, hz2⟩ := info_parts info5
  obtain ⟨i1, hj, hy0, hy1, hy2⟩ := info_parts info2
  have hR1 := cut_row hl1 30
  have hR2 := cut_row hl2 200
  have hin : In64 (l2.take 200) := fun x hx => hin x (List.mem_of_mem_take hx)
  have hmin1 : min (len1 : Int) 30 = ((min len1 30 : Nat) : Int) := by omega
  have hmin2 : min (len2 : Int) 200 = ((min len2 200 : Nat) : Int) := by omega
  have hm1 : min len1 30 ≤ cap1 := by omega
  have hm2 : min len2 200 ≤ cap2 := by omega
  have hm3 : min len1 30 ≤ 30 := by omega
  have hm4 : min len2 200 ≤ 200 := by omega
  generalize l1.take 30 = xs at hR1
  generalize l2.take 200 = ls at hR2 hin
  generalize min len1 30 = m at *
  generalize min len2 200 = n at *
  have hLn1 : xs.length = m := by simpa using hR1.1
  have hLn2 : ls.length = n := by simpa using hR2.1
  have k1 := fun g c w hr => put_core (.slice (some ⟨g, 0, none⟩) m c) xs u w (clone_some g 0 m c xs w hr (by omega)) (by omega) hu
  have k2 := fun w => bytes_any u w hu
  have k3 := fun g c a c2 w hr hr2 => putrow_core (.slice (some ⟨g, 0, none⟩) m c) xs ls a n c2 w (clone_some g 0 m c xs w hr (by omega)) (by omega) hr2 hin (by omega)
  have k4 := fun a c w hr => rrow_any ls a n c w hr hin (by omega)
  have K1 := Lib.hid k1; have K2 := Lib.hid k2; have K3 := Lib.hid k3; have K4 := Lib.hid k4
  clear k1 k2 k3 k4
  have he := enc_ten hu
  have hrb := rowB_len hin
  obtain ⟨sx, hsx⟩ : ∃ s, strOfNums xs = s := ⟨_, rfl⟩
  obtain ⟨se, hse⟩ : ∃ s, strOfNums (enc u) = s := ⟨_, rfl⟩
  obtain ⟨sr, hsr⟩ : ∃ s, strOfNums (rowB ls) = s := ⟨_, rfl⟩
  have hz3 : ¬ 9223372036854775807 < sx.size + se.size := by rw [← hsx, ← hse, strOfNums_size, strOfNums_size]; omega
  have hz4 : ¬ 9223372036854775807 < sx.size + sr.size := by rw [← hsx, ← hsr, strOfNums_size, strOfNums_size]; omega
  have E1 := Lib.hid (show strOfNums (xs ++ enc u) = sx ++ se by rw [str_app, hsx, hse])
  have E2 := Lib.hid (show strOfNums (xs ++ rowB ls) = sx ++ sr by rw [str_app, hsx, hsr])
  have E3 := Lib.hid hsx; have E4 := Lib.hid hse; have E5 := Lib.hid hsr
  have hone1 := bv_one xs
  have hone2 := iv_one ls
  have HR1 := Lib.hid hR1; have HR2 := Lib.hid hR2
  have hb1 : m * 1 ≤ 140737488355328 := by omega
  have hb2 : m ≤ maxLen := by unfold maxLen; omega
  have hb3 : n * 8 ≤ 140737488355328 := by omega
  have hb4 : n ≤ maxLen := by unfold maxLen; omega
  have hmc1 : (m : Int) ≤ (cap1 : Int) := by omega
  have hmc2 : (n : Int) ≤ (cap2 : Int) := by omega
  clear hR1 hR2 hl1 hl2 hcap1 hcap2 hin hsx hse hsr hLn1 hLn2 he hrb hm3 hm4 hu
  go_enter Try.func4, Try.ntmps4
  go_wp2_with fail
  refine (shown_any _).mono ?_
  rintro e w1 ⟨rfl, h1⟩
  have R1 := Lib.hid (HR1.out.below (h1.alloc h1.size (.cells #[] 5)))
  have H1 := Lib.hid h1
  clear h1 HR1
  go_wp2_with (at_builtin; refine wpList_append_fresh rfl (.tmp 9) (.tmp 14) 27 rfl w1.heap.size 5 i0 (.int .u8 0) 1 Try.underlying27 hi hz0 hz1 hz2 rfl _ _ rfl (owns_empty w1 5) a1 m cap1 (xs.map bv) rfl R1.out hnil1 hone1 hb2 hb1 (by simp) ?_)
  intro g c w2 hg hmc' hcm' hrow hown h2
  have R2 := Lib.hid hrow
  have H2 := Lib.hid (H1.out.then (((Below.refl w1.heap.size w1).alloc (Nat.le_refl _) (.cells #[] 5)).trans h2))
  have Q2 := Lib.hid (HR2.out.below (H2.out.alloc H2.out.size (.cells #[] 2)))
  clear hrow hown h2 R1 H1 HR2
  go_wp2_with (at_builtin; refine wpList_append_fresh rfl (.tmp 16) (.tmp 21) 28 rfl w2.heap.size 2 i1 (.int .i64 0) 8 Try.underlying28 hj hy0 hy1 hy2 rfl _ _ rfl (owns_empty w2 2) a2 n cap2 (ls.map iv) rfl Q2.out hnil2 hone2 hb4 hb3 (by simp) ?_)
  intro g2 c2 w3 hg2 hmc2' hcm2' hrow2 hown2 h3
  have h3 := ((Below.refl w2.heap.size w2).alloc (Nat.le_refl _) (.cells #[] 2)).trans h3
  have Q4 := Lib.hid hrow2
  have R4 := Lib.hid (R2.out.below h3)
  have H4 := Lib.hid (H2.out.then h3)
  clear hrow2 hown2 h3 R2 Q2 H2 hmin1 hmin2 hm1 hm2 hmc1 hmc2 hnil1 hnil2 hone1 hone2 hg hg2 hcm' hcm2'
  go_upto_region 4 with fail
  have hKB : ∀ w', Below w3.heap.size w3 w' → (convert 27 9 (.slice (some ⟨g, 0, none⟩) m c)).run Try.prog w' = .ok (.string sx) w' := fun w' hb => by rw [conv_row (R4.out.below hb), E3.out]
  have KB := Lib.hid hKB
  have L1 := Lib.hid (fun w' hb => K1.out g c w' (R4.out.below hb))
  have L3 := Lib.hid (fun w' hb => K3.out g c (some ⟨g2, 0, none⟩) c2 w' (R4.out.below hb) (Q4.out.below hb))
  have L4 := Lib.hid (fun w' hb => K4.out (some ⟨g2, 0, none⟩) c2 w' (Q4.out.below hb))
  clear K1 K3 K4 hKB h3
  have T0 := Lib.hid (Below.refl w3.heap.size w3).drew
  refine wp_region_phase (by kernel_rfl) ?_
  refine wpAnyH_take (i := 0) (oi := ⟨_, _, _, _, _, _⟩) (v := ?vv0) rfl (by kernel_rfl) (by kernel_rfl) (by kernel_rfl) (fun _ _ _ h => h) (Or.inl ⟨by rfl, ?yy0⟩) T0.out ?_
  case yy0 => (intro w' hw'; go_simp; try with_reducible rfl)
  try simp only [Act.put, List.setIfInBounds_toArray, List.set_cons_zero, List.set_cons_succ]
  refine wpAnyH_take (i := 1) (oi := ⟨_, _, _, _, _, _⟩) (v := ?vv1) rfl (by kernel_rfl) (by kernel_rfl) (by kernel_rfl) (fun _ _ _ h => h) (Or.inl ⟨by rfl, ?yy1⟩) T0.out ?_
  case yy1 => (intro w' hw'; go_simp; try with_reducible rfl)
  try simp only [Act.put, List.setIfInBounds_toArray, List.set_cons_zero, List.set_cons_succ]
  refine wpAnyH_take (i := 2) (oi := ⟨_, _, _, _, _, _⟩) (v := ?vv2) rfl (by kernel_rfl) (by kernel_rfl) (by kernel_rfl) (fun _ _ _ h => h) (Or.inl ⟨by rfl, ?yy2⟩) T0.out ?_
  case yy2 => (intro w' hw'; go_simp; try with_reducible rfl)
  try simp only [Act.put, List.setIfInBounds_toArray, List.set_cons_zero, List.set_cons_succ]
  refine wpAnyH_take (i := 3) (oi := ⟨_, _, _, _, _, _⟩) (v := ?vv3) rfl (by kernel_rfl) (by kernel_rfl) (by kernel_rfl) (fun _ _ _ h => h) (Or.inl ⟨by rfl, ?yy3⟩) T0.out ?_
  case yy3 => (intro w' hw'; go_simp; try with_reducible rfl)
  try simp only [Act.put, List.setIfInBounds_toArray, List.set_cons_zero, List.set_cons_succ]
  refine wpAnyH_take (i := 6) (oi := ⟨_, _, _, _, _, _⟩) (v := ?vv6) rfl (by kernel_rfl) (by kernel_rfl) (by kernel_rfl) (fun _ _ _ h => h) (Or.inl ⟨by rfl, ?yy6⟩) T0.out ?_
  case yy6 => (intro w' hw'; go_simp; try with_reducible rfl)
  try simp only [Act.put, List.setIfInBounds_toArray, List.set_cons_zero, List.set_cons_succ]
  refine wpAnyH_take (i := 7) (oi := ⟨_, _, _, _, _, _⟩) (v := ?vv7) rfl (by kernel_rfl) (by kernel_rfl) (by kernel_rfl) (fun _ _ _ h => h) (Or.inl ⟨by rfl, ?yy7⟩) T0.out ?_
  case yy7 => (intro w' hw'; have c0 := KB.out w' hw'; go_simp; try with_reducible rfl)
  try simp only [Act.put, List.setIfInBounds_toArray, List.set_cons_zero, List.set_cons_succ]
  refine wpAnyH_take (i := 8) (oi := ⟨_, _, _, _, _, _⟩) (v := ?vv8) rfl (by kernel_rfl) (by kernel_rfl) (by kernel_rfl) (fun _ _ _ h => h) (Or.inl ⟨by rfl, ?yy8⟩) T0.out ?_
  case yy8 => (intro w' hw'; go_simp; try with_reducible rfl)
  try simp only [Act.put, List.setIfInBounds_toArray, List.set_cons_zero, List.set_cons_succ]
  refine wpAnyH_ready (rs := [4]) (by kernel_rfl) (by simp) ?_
  refine AllReadyH.cons (o := ⟨_, _, _, _, _, _⟩) rfl (fun K hK => ?_) AllReadyH.nil
  go_simp
  refine (L1.out _ T0.out).mono ?_
  rintro e x1 ⟨v, rfl, ho, hb⟩
  obtain ⟨aP, cP, rfl, _⟩ := Row.own ho
  simp only [List.length_map, List.length_append] at ho ⊢
  refine hK.out _ _ (below_undrew hb) (fun hHeld => ?_)
  clear hK K hHeld
  try simp only [Act.put, List.setIfInBounds_toArray, List.set_cons_zero, List.set_cons_succ]
  refine wpAnyH_phase (below_undrew hb) ?_
  have B1 := Lib.hid ((below_undrew hb))
  have D := (fun w' hb' => conv_own (own_below ho hb') : ∀ w', Below x1.heap.size x1 w' → _)
  rw [E1.out] at D
  have D1 := Lib.hid D
  clear D ho hb
  have T1 := Lib.hid (Below.refl x1.heap.size x1)
  refine wpAnyH_take (i := 5) (oi := ⟨_, _, _, _, _, _⟩) (v := ?vv5) rfl (by kernel_rfl) (by kernel_rfl) (by kernel_rfl) (fun _ _ _ h => h) (Or.inl ⟨by rfl, ?yy5⟩) T1.out ?_
  case yy5 => (intro w' hw'; have c0 := D1.out w' hw'; go_simp; try with_reducible rfl)
  try simp only [Act.put, List.setIfInBounds_toArray, List.set_cons_zero, List.set_cons_succ]
  refine wpAnyH_ready (rs := [9]) (by kernel_rfl) (by simp) ?_
  refine AllReadyH.cons (o := ⟨_, _, _, _, _, _⟩) rfl (fun K hK => ?_) AllReadyH.nil
  go_simp
  refine (K2.out _).mono ?_
  rintro e x2 ⟨v, rfl, ho, hb⟩
  obtain ⟨aP, cP, rfl, _⟩ := Row.own ho
  simp only [List.length_map] at ho ⊢
  refine hK.out _ _ hb (fun hHeld => ?_)
  clear hK K hHeld
  try simp only [Act.put, List.setIfInBounds_toArray, List.set_cons_zero, List.set_cons_succ]
  refine wpAnyH_phase hb ?_
  have B2 := Lib.hid (B1.out.then hb)
  have D := (fun w' hb' => conv_own (own_below ho hb') : ∀ w', Below x2.heap.size x2 w' → _)
  rw [E4.out] at D
  have D2 := Lib.hid D
  clear D ho hb
  have T2 := Lib.hid (Below.refl x2.heap.size x2)
  refine wpAnyH_take (i := 10) (oi := ⟨_, _, _, _, _, _⟩) (v := ?vv10) rfl (by kernel_rfl) (by kernel_rfl) (by kernel_rfl) (fun _ _ _ h => h) (Or.inl ⟨by rfl, ?yy10⟩) T2.out ?_
  case yy10 => (intro w' hw'; have c0 := D2.out w' hw'; go_simp; try with_reducible rfl)
  try simp only [Act.put, List.setIfInBounds_toArray, List.set_cons_zero, List.set_cons_succ]
  refine wpAnyH_take (i := 11) (oi := ⟨_, _, _, _, _, _⟩) (v := ?vv11) rfl (by kernel_rfl) (by kernel_rfl) (by kernel_rfl) (fun _ _ _ h => h) (Or.inl ⟨by rfl, ?yy11⟩) T2.out ?_
  case yy11 => (intro w' hw'; go_simp; try with_reducible rfl)
  try simp only [Act.put, List.setIfInBounds_toArray, List.set_cons_zero, List.set_cons_succ]
  refine wpAnyH_take (i := 12) (oi := ⟨_, _, _, _, _, _⟩) (v := ?vv12) rfl (by kernel_rfl) (by kernel_rfl) (by kernel_rfl) (fun _ _ _ h => h) (Or.inl ⟨by rfl, ?yy12⟩) T2.out ?_
  case yy12 => (intro w' hw'; go_simp; try with_reducible rfl)
  try simp only [Act.put, List.setIfInBounds_toArray, List.set_cons_zero, List.set_cons_succ]
  refine wpAnyH_take (i := 13) (oi := ⟨_, _, _, _, _, _⟩) (v := ?vv13) rfl (by kernel_rfl) (by kernel_rfl) (by kernel_rfl) (fun _ _ _ h => h) (Or.inl ⟨by rfl, ?yy13⟩) T2.out ?_
  case yy13 => (intro w' hw'; go_simp; try with_reducible rfl)
  try simp only [Act.put, List.setIfInBounds_toArray, List.set_cons_zero, List.set_cons_succ]
  refine wpAnyH_take (i := 14) (oi := ⟨_, _, _, _, _, _⟩) (v := ?vv14) rfl (by kernel_rfl) (by kernel_rfl) (by kernel_rfl) (fun _ _ _ h => h) (Or.inl ⟨by rfl, ?yy14⟩) T2.out ?_
  case yy14 => (intro w' hw'; go_simp; try with_reducible rfl)
  try simp only [Act.put, List.setIfInBounds_toArray, List.set_cons_zero, List.set_cons_succ]
  refine wpAnyH_take (i := 15) (oi := ⟨_, _, _, _, _, _⟩) (v := ?vv15) rfl (by kernel_rfl) (by kernel_rfl) (by kernel_rfl) (fun _ _ _ h => h) (Or.inl ⟨by rfl, ?yy15⟩) T2.out ?_
  case yy15 => (intro w' hw'; go_simp; try with_reducible rfl)
  try simp only [Act.put, List.setIfInBounds_toArray, List.set_cons_zero, List.set_cons_succ]
  refine wpAnyH_take (i := 16) (oi := ⟨_, _, _, _, _, _⟩) (v := ?vv16) rfl (by kernel_rfl) (by kernel_rfl) (by kernel_rfl) (fun _ _ _ h => h) (Or.inl ⟨by rfl, ?yy16⟩) T2.out ?_
  case yy16 => (intro w' hw'; go_simp; try with_reducible rfl)
  try simp only [Act.put, List.setIfInBounds_toArray, List.set_cons_zero, List.set_cons_succ]
  refine wpAnyH_take (i := 19) (oi := ⟨_, _, _, _, _, _⟩) (v := ?vv19) rfl (by kernel_rfl) (by kernel_rfl) (by kernel_rfl) (fun _ _ _ h => h) (Or.inl ⟨by rfl, ?yy19⟩) T2.out ?_
  case yy19 => (intro w' hw'; go_simp; try with_reducible rfl)
  try simp only [Act.put, List.setIfInBounds_toArray, List.set_cons_zero, List.set_cons_succ]
  refine wpAnyH_take (i := 20) (oi := ⟨_, _, _, _, _, _⟩) (v := ?vv20) rfl (by kernel_rfl) (by kernel_rfl) (by kernel_rfl) (fun _ _ _ h => h) (Or.inl ⟨by rfl, ?yy20⟩) T2.out ?_
  case yy20 => (intro w' hw'; have c0 := KB.out w' (B2.out.then hw'); go_simp; try with_reducible rfl)
  try simp only [Act.put, List.setIfInBounds_toArray, List.set_cons_zero, List.set_cons_succ]
  refine wpAnyH_take (i := 21) (oi := ⟨_, _, _, _, _, _⟩) (v := ?vv21) rfl (by kernel_rfl) (by kernel_rfl) (by kernel_rfl) (fun _ _ _ h => h) (Or.inl ⟨by rfl, ?yy21⟩) T2.out ?_
  case yy21 => (intro w' hw'; go_simp; try with_reducible rfl)
  try simp only [Act.put, List.setIfInBounds_toArray, List.set_cons_zero, List.set_cons_succ]
  refine wpAnyH_ready (rs := [17]) (by kernel_rfl) (by simp) ?_
  refine AllReadyH.cons (o := ⟨_, _, _, _, _, _⟩) rfl (fun K hK => ?_) AllReadyH.nil
  go_simp
  refine (L3.out _ B2.out).mono ?_
  rintro e x3 ⟨v, rfl, ho, hb⟩
  obtain ⟨aP, cP, rfl, _⟩ := Row.own ho
  simp only [List.length_map, List.length_append] at ho ⊢
  refine hK.out _ _ hb (fun hHeld => ?_)
  clear hK K hHeld
  try simp only [Act.put, List.setIfInBounds_toArray, List.set_cons_zero, List.set_cons_succ]
  refine wpAnyH_phase hb ?_
  have B3 := Lib.hid (B2.out.then hb)
  have D := (fun w' hb' => conv_own (own_below ho hb') : ∀ w', Below x3.heap.size x3 w' → _)
  rw [E2.out] at D
  have D3 := Lib.hid D
  clear D ho hb
  have T3 := Lib.hid (Below.refl x3.heap.size x3)
  refine wpAnyH_take (i := 18) (oi := ⟨_, _, _, _, _, _⟩) (v := ?vv18) rfl (by kernel_rfl) (by kernel_rfl) (by kernel_rfl) (fun _ _ _ h => h) (Or.inl ⟨by rfl, ?yy18⟩) T3.out ?_
  case yy18 => (intro w' hw'; have c0 := D3.out w' hw'; go_simp; try with_reducible rfl)
  try simp only [Act.put, List.setIfInBounds_toArray, List.set_cons_zero, List.set_cons_succ]
  refine wpAnyH_ready (rs := [22]) (by kernel_rfl) (by simp) ?_
  refine AllReadyH.cons (o := ⟨_, _, _, _, _, _⟩) rfl (fun K hK => ?_) AllReadyH.nil
  go_simp
  refine (L4.out _ B3.out).mono ?_
  rintro e x4 ⟨v, rfl, ho, hb⟩
  obtain ⟨aP, cP, rfl, _⟩ := Row.own ho
  simp only [List.length_map] at ho ⊢
  refine hK.out _ _ hb (fun hHeld => ?_)
  clear hK K hHeld
  try simp only [Act.put, List.setIfInBounds_toArray, List.set_cons_zero, List.set_cons_succ]
  refine wpAnyH_phase hb ?_
  have B4 := Lib.hid (B3.out.then hb)
  have D := (fun w' hb' => conv_own (own_below ho hb') : ∀ w', Below x4.heap.size x4 w' → _)
  rw [E5.out] at D
  have D4 := Lib.hid D
  clear D ho hb
  have T4 := Lib.hid (Below.refl x4.heap.size x4)
  refine wpAnyH_take (i := 23) (oi := ⟨_, _, _, _, _, _⟩) (v := ?vv23) rfl (by kernel_rfl) (by kernel_rfl) (by kernel_rfl) (fun _ _ _ h => h) (Or.inl ⟨by rfl, ?yy23⟩) T4.out ?_
  case yy23 => (intro w' hw'; have c0 := D4.out w' hw'; go_simp; try with_reducible rfl)
  try simp only [Act.put, List.setIfInBounds_toArray, List.set_cons_zero, List.set_cons_succ]
  refine wpAnyH_take (i := 24) (oi := ⟨_, _, _, _, _, _⟩) (v := ?vv24) rfl (by kernel_rfl) (by kernel_rfl) (by kernel_rfl) (fun _ _ _ h => h) (Or.inl ⟨by rfl, ?yy24⟩) T4.out ?_
  case yy24 => (intro w' hw'; go_simp; try with_reducible rfl)
  try simp only [Act.put, List.setIfInBounds_toArray, List.set_cons_zero, List.set_cons_succ]
  refine wpAnyH_take (i := 25) (oi := ⟨_, _, _, _, _, _⟩) (v := ?vv25) rfl (by kernel_rfl) (by kernel_rfl) (by kernel_rfl) (fun _ _ _ h => h) (Or.inl ⟨by rfl, ?yy25⟩) T4.out ?_
  case yy25 => (intro w' hw'; go_simp; try with_reducible rfl)
  try simp only [Act.put, List.setIfInBounds_toArray, List.set_cons_zero, List.set_cons_succ]
  refine wpAnyH_take (i := 26) (oi := ⟨_, _, _, _, _, _⟩) (v := ?vv26) rfl (by kernel_rfl) (by kernel_rfl) (by kernel_rfl) (fun _ _ _ h => h) (Or.inl ⟨by rfl, ?yy26⟩) T4.out ?_
  case yy26 => (intro w' hw'; go_simp; try with_reducible rfl)
  try simp only [Act.put, List.setIfInBounds_toArray, List.set_cons_zero, List.set_cons_succ]
  refine wpAnyH_take (i := 27) (oi := ⟨_, _, _, _, _, _⟩) (v := ?vv27) rfl (by kernel_rfl) (by kernel_rfl) (by kernel_rfl) (fun _ _ _ h => h) (Or.inl ⟨by rfl, ?yy27⟩) T4.out ?_
  case yy27 => (intro w' hw'; go_simp; try with_reducible rfl)
  try simp only [Act.put, List.setIfInBounds_toArray, List.set_cons_zero, List.set_cons_succ]
  refine wpAnyH_done (by kernel_rfl) ?_ _
  go_wp2
  go_ret
  exact ⟨by simp, H4.out.then B4.out⟩
end Go.Proofs.Ytnkndpgaoplamaa
