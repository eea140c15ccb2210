/- VarintReads walked. -/
import Derived.Test.YtnkndpgaoplamaaLaws2
namespace Go.Proofs.Ytnkndpgaoplamaa
open Go.RowKit
set_option linter.unusedVariables false

theorem decs_rowB {l : List Int} (h : In64 l) (r : List Int) : decs l.length (rowB l ++ r) = some (l.map fun x => (zg x).toNat, (rowB l).length) := by
  induction l with
  | nil => simp [decs, rowB]
  | cons x t ih =>
    have hx := (zg_nat (h x (by simp))).2
    have ih := ih fun y hy => h y (List.mem_cons_of_mem _ hy)
    have e : rowB (x :: t) ++ r = enc (zg x).toNat ++ (rowB t ++ r) := by simp [rowB]
    have e2 : (rowB (x :: t)).length = (enc (zg x).toNat).length + (rowB t).length := by simp [rowB]
    rw [e, e2, List.length_cons]
    simp only [decs, dec_enc hx, List.drop_left, ih]
    rfl
theorem rowV_zg {l : List Int} (h : In64 l) : rowV (l.map fun x => (zg x).toNat) = l := by
  unfold rowV
  rw [List.map_map]
  conv => rhs; rw [← List.map_id l]
  apply List.map_congr_left
  intro x hx
  show zu ((zg x).toNat : Int) = x
  rw [(zg_nat (h x hx)).1, zu_zg]
theorem rowOf_rowB {l : List Int} (h : In64 l) (r : List Int) : rowOf (l.length : Int) (rowB l ++ r) = some (l.map fun x => (zg x).toNat, (rowB l).length) := by
  rw [rowOf, if_neg (by omega), Int.toNat_natCast, decs_rowB h]
theorem enc_bytes (v : Nat) : Bytes (enc v) := by
  induction v using enc.induct with
  | case1 v h => rw [enc_small h]; intro x hx; simp at hx; omega
  | case2 v h ih =>
    rw [enc_big h]
    intro x hx
    rcases List.mem_cons.1 hx with rfl | h2
    · omega
    · exact ih x h2
theorem rowB_bytes (l : List Int) : Bytes (rowB l) := by
  intro x hx
  obtain ⟨y, _, h⟩ := List.mem_flatMap.1 hx
  exact enc_bytes _ x h
theorem Bytes.append {a b : List Int} (ha : Bytes a) (hb : Bytes b) : Bytes (a ++ b) := fun x hx => (List.mem_append.1 hx).elim (ha x) (hb x)
theorem taken_some {w w' : World} {e : Ending} {l : List Nat} {m n : Nat} {ls : List Int} (h : TakenRow w (some (l, m)) e w') (hl : l.length = n) (hr : rowV l = ls) :
    ∃ v, e = .returned (.tuple #[v, .int .i64 (m : Int), .int .i64 0]) ∧ w'.ownsRow w.heap.size 2 1 v n (ls.map iv) ∧ Below w.heap.size w w' := by
  obtain ⟨hb, v, he, ho⟩ := h
  subst hl hr
  exact ⟨v, he, ho, hb⟩
theorem own_hnil {w : World} {base n : Nat} {e : TypeId} {a : Option Addr} {c : Nat} {xs : List Value} (h : w.ownsRow base e 1 (.slice a n c) n xs) : a = none → c = 0 := by
  rintro rfl
  rcases h.2 with ⟨h, _⟩ | ⟨g, cap, cur, h, _⟩
  · simp at h; exact h.2
  · simp at h
theorem own_some {w : World} {base n : Nat} {e : TypeId} {v : Value} {xs : List Value} (h : w.ownsRow base e 1 v n xs) (hn : v ≠ .slice none 0 0) : ∃ g c, v = .slice (some ⟨g, 0, none⟩) n c ∧ n ≤ c := by
  rcases h.2 with ⟨h, _⟩ | ⟨g, cap, cur, h, _, _, h3, _⟩
  · exact absurd h hn
  · exact ⟨g, cap, h, h3⟩
def VAt (w : World) (V : Nat) (u v : Nat) : Prop := w.heap[V]? = some (.cells #[.int .u64 u, .int .u64 v] 41 (0, 0))
theorem VAt.below {w w' : World} {V u v : Nat} (h : VAt w V u v) (hb : Below w.heap.size w w') : VAt w' V u v := (hb.block V (lt_of_block h)).trans h
theorem VAt.c0 {w : World} {V u v : Nat} (h : VAt w V u v) : w.cell? ⟨V, 0, none⟩ = some (.int .u64 u) := (cell_of_row _ _ _ _ _ _ h).trans rfl
theorem VAt.c1 {w : World} {V u v : Nat} (h : VAt w V u v) : w.cell? ⟨V, 1, none⟩ = some (.int .u64 v) := (cell_of_row _ _ _ _ _ _ h).trans rfl
set_option maxRecDepth 100000 in
set_option maxHeartbeats 4000000 in
theorem reads_walk (u v : Nat) (a1 a2 : Option Addr) (len1 cap1 len2 cap2 : Nat) (l1 l2 : List Int) (w : World) (hl1 : Row w a1 len1 (l1.map bv)) (hcap1 : len1 ≤ cap1) (hnil1 : a1 = none → cap1 = 0) (hby : Bytes l1)
    (hl2 : Row w a2 len2 (l2.map iv)) (hcap2 : len2 ≤ cap2) (hnil2 : a2 = none → cap2 = 0) (hin : In64 l2) (hu : u < 18446744073709551616) (hv : v < 18446744073709551616) :
    Calls Try.prog 7 #[.slice a1 len1 cap1, .agg #[.int .u64 u, .int .u64 v], .slice a2 len2 cap2] w fun e w' => e = .returned (.bool true) ∧ Below w.heap.size w w' := by
  obtain ⟨i0, hi, hz0, hz1, hz2⟩ := info_parts info5
  obtain ⟨i1, hj, hy0, hy1, hy2⟩ := info_parts info2
  have hR1 := cut_row hl1 30
  have hR2 := cut_row hl2 100
  have hby := hby.take 30
  have hin : In64 (l2.take 100) := fun x hx => hin x (List.mem_of_mem_take hx)
  have hmin1 : min (len1 : Int) 30 = ((min len1 30 : Nat) : Int) := by omega
  have hmin2 : min (len2 : Int) 100 = ((min len2 100 : Nat) : Int) := by omega
  have hm1 : min len1 30 ≤ cap1 := by omega
  have hm2 : min len2 100 ≤ cap2 := by omega
  have hm3 : min len1 30 ≤ 30 := by omega
  have hm4 : min len2 100 ≤ 100 := by omega
  generalize l1.take 30 = xs at hR1 hby
  generalize l2.take 100 = ls at hR2 hin
  generalize min len1 30 = m at *
  generalize min len2 100 = n at *
  have hLn1 : xs.length = m := by simpa using hR1.1
  have hLn2 : ls.length = n := by simpa using hR2.1
  have he1 := enc_ten hu
  have hp1 := enc_pos u
  have hmono := enc_mono v u
  have hrb := rowB_len hin
  have hk1 : Bytes (enc u ++ xs) := (enc_bytes u).append hby
  have hk2 : Bytes (rowB ls ++ xs) := (rowB_bytes ls).append hby
  have k1 := fun w => put_nil u w hu
  have k2 := fun w => put_nil v w hv
  have k3 := fun a c w hr => putrow_nil ls a n c w hr hin (by omega)
  have k4 := fun a c w hr => take_b (enc u ++ xs) a ((enc u).length + m) c w hr hk1 (by omega)
  rw [dec_enc hu] at k4
  have hro := rowOf_rowB hin xs
  rw [hLn2] at hro
  have k5 := fun g c w hr hc => (takerow_any (rowB ls ++ xs) g ((rowB ls).length + m) c (n : Int) w hr hc hk2 (by omega) (by omega) (by omega)).mono (fun e w' h => taken_some (n := n) (ls := ls) (by rw [hro] at h; exact h) (by rw [List.length_map]; exact hLn2) (rowV_zg hin))
  have k6 := fun a1 a2 c1 c2 w hr1 hr2 => same_self ls a1 a2 n c1 n c2 w hr1 hr2 (by omega)
  have K1 := Lib.hid k1; have K2 := Lib.hid k2; have K3 := Lib.hid k3; have K4 := Lib.hid k4; have K5 := Lib.hid k5; have K6 := Lib.hid k6
  clear k1 k2 k3 k4 k5 k6 hk1 hk2
  have hone1 := bv_one xs
  have hone2 := iv_one ls
  have hone3 := bv_one (enc u)
  have hone4 := bv_one (rowB ls)
  have HR1 := Lib.hid hR1; have HR2 := Lib.hid hR2
  clear hl1 hl2 hR1 hR2 hin hby
  obtain ⟨e0, he0⟩ : ∃ n, (enc u).length = n := ⟨_, rfl⟩
  obtain ⟨e1, he1'⟩ : ∃ n, (enc v).length = n := ⟨_, rfl⟩
  obtain ⟨r0, hr0⟩ : ∃ n, (rowB ls).length = n := ⟨_, rfl⟩
  have hone5 := bv_one (enc u)
  rw [he0] at K4 he1 hp1 hmono
  rw [he1'] at hmono
  rw [hr0] at K5 hrb
  clear hro
  have HMO := Lib.hid hmono
  clear hmono
  have hb1 : m * 1 ≤ 140737488355328 := by omega
  have hb2 : m ≤ maxLen := by unfold maxLen; omega
  have hb3 : n * 8 ≤ 140737488355328 := by omega
  have hb4 : n ≤ maxLen := by unfold maxLen; omega
  have hb5 : e0 * 1 ≤ 140737488355328 := by omega
  have hb6 : e0 ≤ maxLen := by unfold maxLen; omega
  have hb7 : (e0 + m) * 1 ≤ 140737488355328 := by omega
  have hb8 : e0 + m ≤ maxLen := by unfold maxLen; omega
  have hb9 : r0 * 1 ≤ 140737488355328 := by omega
  have hb10 : r0 ≤ maxLen := by unfold maxLen; omega
  have hb11 : (r0 + m) * 1 ≤ 140737488355328 := by omega
  have hb12 : r0 + m ≤ maxLen := by unfold maxLen; omega
  have hmc1 : (m : Int) ≤ (cap1 : Int) := by omega
  have hmc2 : (n : Int) ≤ (cap2 : Int) := by omega
  have he2 : ¬ (e0 : Int) < 1 := by omega
  have he3 : ¬ (10 : Int) < (e0 : Int) := by omega
  have V0 := Lib.hid (show VAt (w.alloc (.cells #[.int .u64 u, .int .u64 v] 41)) w.heap.size u v from heap_alloc_new w _)
  have H0 := Lib.hid ((Below.refl w.heap.size w).alloc (Nat.le_refl _) (.cells #[.int .u64 u, .int .u64 v] 41))
  have E0 := Lib.hid he0
  have E1 := Lib.hid he1'
  have R0 := Lib.hid hr0
  clear he0 he1' hr0 hLn1 hLn2 hu hv hrb he1 hp1
  obtain ⟨V, hV⟩ : ∃ V, w.heap.size = V := ⟨_, rfl⟩
  rw [hV] at V0
  have HV := Lib.hid hV
  clear hV
  go_enter Try.func7, Try.ntmps7
  go_wp2_with fail
  rw [HV.out]
  generalize w.alloc (.cells #[.int .u64 u, .int .u64 v] 41) = w0 at *
  refine (shown_any _).mono ?_
  rintro e w1 ⟨rfl, h1⟩
  have V1 := Lib.hid (V0.out.below h1)
  have H1 := Lib.hid (H0.out.then h1)
  have R1 := Lib.hid (HR1.out.below (H1.out.alloc H1.out.size (.cells #[] 5)))
  clear h1 V0 H0 HR1
  go_wp2_with (at_builtin; refine wpList_append_fresh rfl (.tmp 18) (.tmp 23) 27 rfl w1.heap.size 5 i0 (.int .u8 0) 1 Try.underlying27 hi hz0 hz1 hz2 rfl _ _ rfl (owns_empty w1 5) a1 m cap1 (xs.map bv) rfl R1.out hnil1 hone1 hb2 hb1 (by simp) ?_)
  intro g c w2 hg hmc' hcm' hrow hown h2
  have h2 := ((Below.refl w1.heap.size w1).alloc (Nat.le_refl _) (.cells #[] 5)).trans h2
  have R2 := Lib.hid hrow
  have V2 := Lib.hid (V1.out.below h2)
  have H2 := Lib.hid (H1.out.then h2)
  have Q2 := Lib.hid (HR2.out.below (H2.out.alloc H2.out.size (.cells #[] 2)))
  clear hrow hown h2 R1 V1 H1 HR2 hg hmc' hcm'
  go_wp2_with (at_builtin; refine wpList_append_fresh rfl (.tmp 25) (.tmp 30) 28 rfl w2.heap.size 2 i1 (.int .i64 0) 8 Try.underlying28 hj hy0 hy1 hy2 rfl _ _ rfl (owns_empty w2 2) a2 n cap2 (ls.map iv) rfl Q2.out hnil2 hone2 hb4 hb3 (by simp) ?_)
  intro g2 c2 w3 hg2 hmc2' hcm2' hrow2 hown2 h3
  have h3 := ((Below.refl w2.heap.size w2).alloc (Nat.le_refl _) (.cells #[] 2)).trans h3
  have Q3 := Lib.hid hrow2
  have R3 := Lib.hid (R2.out.below h3)
  have V3 := Lib.hid (V2.out.below h3)
  have H3 := Lib.hid (H2.out.then h3)
  clear hrow2 hown2 h3 R2 V2 H2 Q2 hmin1 hmin2 hm1 hm2 hmc1 hmc2 hg2 hmc2' hcm2'
  have c0 := V3.out.c0
  go_wp2_with fail
  refine (K1.out _).mono ?_
  rintro e w4 ⟨v4, rfl, o4, h4⟩
  obtain ⟨a4, c4, rfl, r4⟩ := Row.own o4
  rw [List.length_map, E0.out] at o4 r4 ⊢
  have hnil4 := own_hnil o4
  have O4 := Lib.hid r4
  have Q4 := Lib.hid (Q3.out.below h4)
  have R4 := Lib.hid (R3.out.below h4)
  have V4 := Lib.hid (V3.out.below h4)
  have H4 := Lib.hid (H3.out.then h4)
  clear c0 o4 r4 h4 Q3 R3 V3 H3
  have c1 := V4.out.c1
  go_wp2_with fail
  refine (K2.out _).mono ?_
  rintro e w5 ⟨v5, rfl, o5, h5⟩
  obtain ⟨a5, c5, rfl, r5⟩ := Row.own o5
  rw [List.length_map, E1.out]
  have O5 := Lib.hid (O4.out.below h5)
  have Q5 := Lib.hid (Q4.out.below h5)
  have R5 := Lib.hid (R4.out.below h5)
  have V5 := Lib.hid (V4.out.below h5)
  have H5 := Lib.hid (H4.out.then h5)
  clear c1 o5 r5 h5 Q4 R4 V4 H4 O4
  have c0 := V5.out.c0
  have c1 := V5.out.c1
  have G1 := Lib.hid (owns_empty w5 5)
  have R6 := Lib.hid (O5.out.below ((Below.refl w5.heap.size w5).alloc (Nat.le_refl _) (.cells #[] 5)))
  have hcs : ((u : Int) ≤ (v : Int) ∧ ¬ (e1 : Int) < (e0 : Int)) ∨ ¬ (u : Int) ≤ (v : Int) := by
    by_cases h : u ≤ v
    · exact .inl ⟨by omega, by have := HMO.out h; omega⟩
    · exact .inr (by omega)
  have hW : ∀ Q : Exit → Act → World → Prop, True := fun _ => trivial
  clear hW
  rcases hcs with ⟨huv, hee⟩ | huv
  all_goals
    go_wp2_with (at_builtin; refine wpList_append_fresh rfl (.tmp 61) (.tmp 62) 27 rfl w5.heap.size 5 i0 (.int .u8 0) 1 Try.underlying27 hi hz0 hz1 hz2 rfl _ _ rfl G1.out a4 e0 c4 ((enc u).map bv) rfl R6.out hnil4 hone3 hb6 hb5 (by simp) ?_)
    intro g6 c6 w6 hg6 hmc6 hcm6 hrow6 hown6 h6
    have h6 := ((Below.refl w5.heap.size w5).alloc (Nat.le_refl _) (.cells #[] 5)).trans h6
    have P6 := Lib.hid hown6
    have R7 := Lib.hid (R5.out.below h6)
    have B6 := Lib.hid h6
    have S6 := Lib.hid h6.size
    clear hrow6 hown6 h6 hg6 hmc6 hcm6 G1 R6 c0 c1 hnil4
    go_wp2_with (at_builtin; refine wpList_append_copy rfl (.tmp 63) (.tmp 64) 27 rfl w5.heap.size 5 i0 (.int .u8 0) 1 Try.underlying27 hi hz0 hz1 hz2 rfl _ e0 ((enc u).map bv) rfl P6.out (some ⟨g, 0, none⟩) m c (xs.map bv) rfl R7.out (by simp) hone1 hb8 hb7 S6.out ?_)
    intro v7 w7 o7 h7 hn7
    obtain ⟨g7, c7, rfl, hc7⟩ := own_some o7 (fun h => by have := hn7 h; simp at this)
    have h57 := B6.out.trans h7
    have P7 := Lib.hid (Row.own o7)
    obtain ⟨_, _, e7, p7⟩ := P7.out
    simp only [Value.slice.injEq, true_and] at e7
    obtain ⟨rfl, rfl⟩ := e7
    rw [← List.map_append] at p7
    have P8 := Lib.hid p7
    have Q7 := Lib.hid (Q5.out.below h57)
    have R8 := Lib.hid (R5.out.below h57)
    have V7 := Lib.hid (V5.out.below h57)
    have H7 := Lib.hid (H5.out.then h57)
    clear o7 h7 hn7 hc7 h57 P7 p7 P6 R7 B6 S6 Q5 R5 V5 H5
    go_wp2_with fail
    refine (K4.out _ _ _ P8.out).mono ?_
    rintro e w8 ⟨rfl, h8⟩
    simp only [takeV]
    have Q8 := Lib.hid (Q7.out.below h8)
    have R9 := Lib.hid (R8.out.below h8)
    have V8 := Lib.hid (V7.out.below h8)
    have H8 := Lib.hid (H7.out.then h8)
    clear h8 Q7 R8 V7 H7 P8
    go_wp2_with fail
    refine (K3.out _ _ _ Q8.out).mono ?_
    rintro e w9 ⟨v9, rfl, o9, h9⟩
    obtain ⟨a9, c9, rfl, r9⟩ := Row.own o9
    rw [List.length_map, R0.out] at o9 r9 ⊢
    have hnil9 := own_hnil o9
    have Q9 := Lib.hid (Q8.out.below h9)
    have R10 := Lib.hid (R9.out.below h9)
    have V9 := Lib.hid (V8.out.below h9)
    have H9 := Lib.hid (H8.out.then h9)
    have G9 := Lib.hid (owns_empty w9 5)
    have O9 := Lib.hid (r9.below ((Below.refl w9.heap.size w9).alloc (Nat.le_refl _) (.cells #[] 5)))
    clear o9 r9 h9 Q8 R9 V8 H8
    go_wp2_with (at_builtin; refine wpList_append_fresh rfl (.tmp 73) (.tmp 74) 27 rfl w9.heap.size 5 i0 (.int .u8 0) 1 Try.underlying27 hi hz0 hz1 hz2 rfl _ _ rfl G9.out a9 r0 c9 ((rowB ls).map bv) rfl O9.out hnil9 hone4 hb10 hb9 (by simp) ?_)
    intro g10 c10 w10 hg10 hmc10 hcm10 hrow10 hown10 h10
    have h10 := ((Below.refl w9.heap.size w9).alloc (Nat.le_refl _) (.cells #[] 5)).trans h10
    have P10 := Lib.hid hown10
    have R11 := Lib.hid (R10.out.below h10)
    have B10 := Lib.hid h10
    have S10 := Lib.hid h10.size
    clear hrow10 hown10 h10 hg10 hmc10 hcm10 G9 O9 hnil9
    go_wp2_with (at_builtin; refine wpList_append_copy rfl (.tmp 75) (.tmp 76) 27 rfl w9.heap.size 5 i0 (.int .u8 0) 1 Try.underlying27 hi hz0 hz1 hz2 rfl _ r0 ((rowB ls).map bv) rfl P10.out (some ⟨g, 0, none⟩) m c (xs.map bv) rfl R11.out (by simp) hone1 hb12 hb11 S10.out ?_)
    intro v11 w11 o11 h11 hn11
    obtain ⟨g11, c11, rfl, hc11⟩ := own_some o11 (fun h => by have := hn11 h; simp at this)
    have h911 := B10.out.trans h11
    obtain ⟨_, _, e11, p11⟩ := Row.own o11
    simp only [Value.slice.injEq, true_and] at e11
    obtain ⟨rfl, rfl⟩ := e11
    rw [← List.map_append] at p11
    have P11 := Lib.hid p11
    have Q11 := Lib.hid (Q9.out.below h911)
    have V11 := Lib.hid (V9.out.below h911)
    have H11 := Lib.hid (H9.out.then h911)
    clear o11 h11 hn11 h911 p11 P10 R11 B10 S10 Q9 R10 V9 H9
    go_wp2_with fail
    refine (K5.out _ _ _ P11.out hc11).mono ?_
    rintro e w12 ⟨v12, rfl, o12, h12⟩
    obtain ⟨a12, c12, rfl, r12⟩ := Row.own o12
    have D12 := Lib.hid r12
    have Q12 := Lib.hid (Q11.out.below h12)
    have V12 := Lib.hid (V11.out.below h12)
    have H12 := Lib.hid (H11.out.then h12)
    clear o12 h12 r12 P11 Q11 V11 H11
    have c0 := V12.out.c0
    go_wp2_with fail
    refine (K6.out _ _ _ _ _ D12.out Q12.out).mono ?_
    rintro e w13 ⟨rfl, h13⟩
    have H13 := Lib.hid (H12.out.then h13)
    clear h13
    go_wp2
    go_ret
    exact ⟨by simp, H13.out⟩
end Go.Proofs.Ytnkndpgaoplamaa
