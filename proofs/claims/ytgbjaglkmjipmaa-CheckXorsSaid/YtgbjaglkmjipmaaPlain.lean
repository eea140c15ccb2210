namespace Go.Proofs.Ytgbjaglkmjipmaa.Crc
def poly : BitVec 32 := 0xEDB88320#32
def bit (r : BitVec 32) : BitVec 32 := (r >>> 1) ^^^ (if r.getLsbD 0 then poly else 0#32)
def bits8 (r : BitVec 32) : BitVec 32 := bit (bit (bit (bit (bit (bit (bit (bit r)))))))
def unbit (r : BitVec 32) : BitVec 32 := if r.msb then ((r ^^^ poly) <<< 1) ||| 1#32 else r <<< 1
def unbits8 (r : BitVec 32) : BitVec 32 := unbit (unbit (unbit (unbit (unbit (unbit (unbit (unbit r)))))))
def tab (n : BitVec 8) : BitVec 32 := bits8 (n.setWidth 32)
def step (r : BitVec 32) (x : BitVec 8) : BitVec 32 := (r >>> 8) ^^^ tab (r.setWidth 8 ^^^ x)
def frm (k : BitVec 8) : BitVec 8 := (unbits8 (k.setWidth 32 <<< 24)).setWidth 8
def top (r : BitVec 32) : BitVec 8 := (r >>> 24).setWidth 8
def und (r : BitVec 32) (x : BitVec 8) : BitVec 32 := ((r ^^^ tab (frm (top r))) <<< 8) ||| (frm (top r) ^^^ x).setWidth 32

theorem bit_xor (a b : BitVec 32) : bit (a ^^^ b) = bit a ^^^ bit b := by
  unfold bit
  rw [BitVec.getLsbD_xor, BitVec.ushiftRight_xor_distrib]
  generalize a >>> 1 = x
  generalize b >>> 1 = y
  generalize poly = p
  cases a.getLsbD 0 <;> cases b.getLsbD 0
  · simp
  · simp [BitVec.xor_assoc]
  · simp [BitVec.xor_assoc, BitVec.xor_comm y p]
  · simp [BitVec.xor_assoc]
    rw [BitVec.xor_comm y p, ← BitVec.xor_assoc p p y]; simp
theorem bits8_xor (a b : BitVec 32) : bits8 (a ^^^ b) = bits8 a ^^^ bits8 b := by
  unfold bits8; simp only [bit_xor]

theorem unbit_bit (r : BitVec 32) : unbit (bit r) = r := by
  unfold unbit bit
  have hp : poly.msb = true := by decide
  have h : ((r >>> 1) ^^^ (if r.getLsbD 0 then poly else 0#32)).msb = r.getLsbD 0 := by
    rw [BitVec.msb_xor]
    cases r.getLsbD 0 <;> simp [hp, BitVec.msb_ushiftRight]
  rw [h]
  cases h0 : r.getLsbD 0
  · simp
    ext i hi
    simp
    rcases i with _ | i
    · simpa using h0
    · simp [Nat.add_comm 1 i, BitVec.getLsbD_eq_getElem hi]
  · simp [BitVec.xor_assoc]
    ext i hi
    rcases i with _ | i
    · simpa using h0
    · simp [Nat.add_comm 1 i, BitVec.getLsbD_eq_getElem hi]
theorem bit_unbit (r : BitVec 32) : bit (unbit r) = r := by
  unfold unbit bit
  cases h : r.msb
  · simp
    ext i hi
    simp
    by_cases h2 : i = 31
    · subst h2
      rw [BitVec.msb_eq_getLsbD_last] at h
      simpa using h.symm
    · rw [decide_eq_true (by omega : 1 + i < 32), Bool.true_and, BitVec.getLsbD_eq_getElem hi]
  · have hp : poly.msb = true := by decide
    have hm : (r ^^^ poly).msb = false := by rw [BitVec.msb_xor, h, hp]; rfl
    generalize hq : r ^^^ poly = q at hm
    have hr : r = q ^^^ poly := by rw [← hq]; simp [BitVec.xor_assoc]
    rw [hr]
    have h1 : ((q <<< 1) ||| 1#32).getLsbD 0 = true := by simp
    have h2 : ((q <<< 1) ||| 1#32) >>> 1 = q := by
      ext i hi
      simp
      by_cases h2 : i = 31
      · subst h2
        rw [BitVec.msb_eq_getLsbD_last] at hm
        simpa using hm.symm
      · rw [decide_eq_true (by omega : 1 + i < 32), Bool.true_and, BitVec.getLsbD_eq_getElem hi]
    simp only [if_true]
    rw [h1, h2]; rfl
theorem unbits8_bits8 (r : BitVec 32) : unbits8 (bits8 r) = r := by unfold unbits8 bits8; simp only [unbit_bit]
theorem bits8_unbits8 (r : BitVec 32) : bits8 (unbits8 r) = r := by unfold unbits8 bits8; simp only [bit_unbit]
theorem bits8_inj {a b : BitVec 32} (h : bits8 a = bits8 b) : a = b := by rw [← unbits8_bits8 a, h, unbits8_bits8]
theorem bits8_zero : bits8 0#32 = 0#32 := by decide
theorem bit_even (r : BitVec 32) (h : r.getLsbD 0 = false) : bit r = r >>> 1 := by unfold bit; rw [h]; simp
theorem bits8_even (r : BitVec 32) (h : r.setWidth 8 = 0#8) : bits8 r = r >>> 8 := by
  have hb : ∀ i, i < 8 → r.getLsbD i = false := fun i hi => by
    have := congrArg (fun x => x.getLsbD i) h
    simp [hi] at this
    exact this
  have key : ∀ k, k < 8 → bit (r >>> k) = r >>> (k + 1) := fun k hk => by
    rw [bit_even _ (by simp [hb k hk]), BitVec.shiftRight_add]
  unfold bits8
  have h0 : bit r = r >>> 1 := bit_even _ (hb 0 (by omega))
  rw [h0, key 1 (by omega), key 2 (by omega), key 3 (by omega), key 4 (by omega), key 5 (by omega), key 6 (by omega), key 7 (by omega)]
theorem step_eq (r : BitVec 32) (x : BitVec 8) : step r x = bits8 (r ^^^ x.setWidth 32) := by
  have e : r ^^^ x.setWidth 32 = ((r >>> 8) <<< 8) ^^^ ((r.setWidth 8 ^^^ x).setWidth 32) := by
    ext i hi
    simp
    by_cases h : i < 8
    · simp [h, BitVec.getLsbD_eq_getElem hi]
    · have : 8 + (i - 8) = i := by omega
      simp [h, this, BitVec.getLsbD_eq_getElem hi]
  rw [e, bits8_xor, bits8_even]
  · unfold step tab
    congr 1
    ext i hi
    simp
    intro h1
    exact BitVec.lt_of_getLsbD h1
  · ext i hi; simp
theorem und_top (r : BitVec 32) : top (tab (frm (top r))) = top r := by
  have h : ∀ k : BitVec 8, top (tab (frm k)) = k := by decide +kernel
  exact h _
theorem frm_tab (n : BitVec 8) : frm (top (tab n)) = n := by
  have h : ∀ k : BitVec 8, frm (top (tab k)) = k := by decide +kernel
  exact h _
theorem step_und (r : BitVec 32) (x : BitVec 8) : step (und r x) x = r := by
  have ht := und_top r
  unfold step und
  generalize frm (top r) = n at *
  generalize htn : tab n = t at *
  have h1 : (((r ^^^ t) <<< 8 ||| (n ^^^ x).setWidth 32).setWidth 8) = n ^^^ x := by ext i hi; simp
  have hz : ∀ i, 24 ≤ i → (r ^^^ t).getLsbD i = false := fun i hi => by
    by_cases h32 : i < 32
    · have := congrArg (fun x => x.getLsbD (i - 24)) ht
      simp [top, show i - 24 < 8 by omega, show 24 + (i - 24) = i by omega] at this
      simp [this]
    · exact BitVec.getLsbD_of_ge _ _ (by omega)
  have h2 : ((r ^^^ t) <<< 8 ||| (n ^^^ x).setWidth 32) >>> 8 = r ^^^ t := by
    ext i hi
    by_cases h : i < 24
    · simp [show 8 + i < 32 by omega]
    · have := hz i (by omega)
      rw [BitVec.getLsbD_eq_getElem hi] at this
      rw [this]
      simp
      omega
  rw [h1, h2]
  have h3 : n ^^^ x ^^^ x = n := by simp [BitVec.xor_assoc]
  rw [h3, htn]
  simp [BitVec.xor_assoc]
theorem step_inj {a b : BitVec 32} {x : BitVec 8} (h : step a x = step b x) : a = b := by
  rw [step_eq, step_eq] at h
  have h := bits8_inj h
  have h' := congrArg (· ^^^ x.setWidth 32) h
  simpa [BitVec.xor_assoc] using h'
theorem und_eq (r : BitVec 32) (x : BitVec 8) : und r x = unbits8 r ^^^ x.setWidth 32 := by
  apply step_inj (x := x)
  rw [step_und, step_eq]
  simp [BitVec.xor_assoc, bits8_unbits8]
theorem und_step (r : BitVec 32) (x : BitVec 8) : und (step r x) x = r := by
  rw [und_eq, step_eq, unbits8_bits8]; simp [BitVec.xor_assoc]

/-! rows of bytes -/
def ext (r : BitVec 32) (l : List (BitVec 8)) : BitVec 32 := l.foldl step r
def back (r : BitVec 32) (l : List (BitVec 8)) : BitVec 32 := l.foldr (fun x r => und r x) r
def extend (s : BitVec 32) (l : List (BitVec 8)) : BitVec 32 := ~~~ ext (~~~ s) l
def undo (s : BitVec 32) (l : List (BitVec 8)) : BitVec 32 := ~~~ back (~~~ s) l
theorem back_ext (r : BitVec 32) (l : List (BitVec 8)) : back (ext r l) l = r := by
  induction l generalizing r with
  | nil => rfl
  | cons x l ih => show und (back (ext (step r x) l) l) x = r; rw [ih, und_step]
theorem ext_back (r : BitVec 32) (l : List (BitVec 8)) : ext (back r l) l = r := by
  induction l generalizing r with
  | nil => rfl
  | cons x l ih => show ext (step (und (back r l) x) x) l = r; rw [step_und, ih]
theorem undo_extend (s : BitVec 32) (l : List (BitVec 8)) : undo (extend s l) l = s := by
  unfold undo extend; simp [back_ext]
theorem extend_undo (s : BitVec 32) (l : List (BitVec 8)) : extend (undo s l) l = s := by
  unfold undo extend; simp [ext_back]
theorem ext_append (r : BitVec 32) (a b : List (BitVec 8)) : ext r (a ++ b) = ext (ext r a) b := by unfold ext; rw [List.foldl_append]
theorem extend_append (s : BitVec 32) (a b : List (BitVec 8)) : extend (extend s a) b = extend s (a ++ b) := by
  unfold extend; simp [ext_append]
theorem undo_append (s : BitVec 32) (a b : List (BitVec 8)) : undo (extend s (a ++ b)) b = extend s a := by
  rw [← extend_append, undo_extend]

/-! linear -/
theorem step_xor (a b : BitVec 32) (x y : BitVec 8) : step (a ^^^ b) (x ^^^ y) = step a x ^^^ step b y := by
  rw [step_eq, step_eq, step_eq, ← bits8_xor]
  congr 1
  rw [BitVec.setWidth_xor]
  ac_rfl
theorem ext_xor (a b : BitVec 32) (l m : List (BitVec 8)) (h : l.length = m.length) : ext (a ^^^ b) (List.zipWith (· ^^^ ·) l m) = ext a l ^^^ ext b m := by
  induction l generalizing a b m with
  | nil => cases m <;> simp_all [ext]
  | cons x l ih =>
    cases m with
    | nil => simp at h
    | cons y m =>
      simp at h
      show ext (step (a ^^^ b) (x ^^^ y)) _ = ext (step a x) l ^^^ ext (step b y) m
      rw [step_xor, ih _ _ _ h]
theorem ext_zeros_inj (r : BitVec 32) (n : Nat) (h : ext r (List.replicate n 0#8) = 0#32) : r = 0#32 := by
  induction n generalizing r with
  | zero => exact h
  | succ n ih =>
    have := ih _ h
    have h0 : step 0#32 0#8 = 0#32 := by decide
    exact step_inj (this.trans h0.symm)
theorem ext_zeros (n : Nat) : ext 0#32 (List.replicate n 0#8) = 0#32 := by
  induction n with
  | zero => rfl
  | succ n ih => exact ih
/-- xoring a place in. -/
theorem extend_xors (a b c : List (BitVec 8)) (h1 : a.length = b.length) (h2 : b.length = c.length) :
    extend 0#32 (List.zipWith (· ^^^ ·) (List.zipWith (· ^^^ ·) a b) c) = extend 0#32 a ^^^ extend 0#32 b ^^^ extend 0#32 c := by
  unfold extend
  have e : (~~~ 0#32 : BitVec 32) = (~~~ 0#32 ^^^ ~~~ 0#32) ^^^ ~~~ 0#32 := by decide
  have hl : (List.zipWith (· ^^^ ·) a b).length = c.length := by simp; omega
  conv => lhs; rw [e, ext_xor _ _ _ _ hl, ext_xor _ _ _ _ h1]
  generalize ext (~~~ 0#32) a = x
  generalize ext (~~~ 0#32) b = y
  generalize ext (~~~ 0#32) c = z
  ext i hi
  simp
/-- the four bytes of a number, the lowest first. -/
def four (x : BitVec 32) : List (BitVec 8) := [x.setWidth 8, (x >>> 8).setWidth 8, (x >>> 16).setWidth 8, (x >>> 24).setWidth 8]
theorem bits8_split (y : BitVec 32) : bits8 y = (y >>> 8) ^^^ bits8 ((y.setWidth 8).setWidth 32) := by
  have := step_eq y 0#8
  simp [step, tab] at this
  exact this.symm
theorem ext_four (x : BitVec 32) (h : ext 0#32 (four x) = 0#32) : x = 0#32 := by
  have h0 : ext 0#32 (four x) = bits8 (bits8 (bits8 (bits8 x))) := by
    show step (step (step (step 0#32 _) _) _) _ = _
    rw [step_eq, step_eq, step_eq, step_eq]
    simp only [bits8_xor, BitVec.zero_xor]
    have k : ∀ y : BitVec 32, bits8 ((y.setWidth 8).setWidth 32) = bits8 y ^^^ (y >>> 8) := fun y => by
      rw [bits8_split y]; generalize bits8 ((y.setWidth 8).setWidth 32) = p; generalize y >>> 8 = q
      ext i hi; simp; (cases p[i] <;> cases q[i] <;> rfl)
    have e1 : ∀ y : BitVec 32, (y >>> 8) >>> 8 = y >>> 16 := fun y => by rw [← BitVec.shiftRight_add]
    have e2 : ∀ y : BitVec 32, (y >>> 16) >>> 8 = y >>> 24 := fun y => by rw [← BitVec.shiftRight_add]
    have e3 : ∀ y : BitVec 32, (y >>> 24) >>> 8 = 0#32 := fun y => by rw [← BitVec.shiftRight_add]; ext i hi; simp
    rw [k, k, k, k, e1, e2, e3]
    simp only [bits8_xor]
    generalize bits8 (bits8 (bits8 (bits8 x))) = p1
    generalize bits8 (bits8 (bits8 (x >>> 8))) = p2
    generalize bits8 (bits8 (x >>> 16)) = p3
    generalize bits8 (x >>> 24) = p4
    ext i hi; simp
  rw [h0] at h
  have z := bits8_zero
  exact bits8_inj ((bits8_inj ((bits8_inj ((bits8_inj (h.trans z.symm)).trans z.symm)).trans z.symm)).trans z.symm)
/-- xoring a number into four bytes that follow each other is seen. -/
theorem near (p m q : List (BitVec 8)) (x : BitVec 32) (hm : m.length = 4)
    (h : extend 0#32 (p ++ List.zipWith (· ^^^ ·) m (four x) ++ q) = extend 0#32 (p ++ m ++ q)) : x = 0#32 := by
  unfold extend at h
  have h := BitVec.not_inj.1 h
  have hz : ∀ l : List (BitVec 8), List.zipWith (· ^^^ ·) l (List.replicate l.length 0#8) = l := by
    intro l; induction l with
    | nil => rfl
    | cons a l ih => simp [List.replicate_succ, ih]
  rw [ext_append, ext_append, ext_append, ext_append] at h
  generalize ext (~~~ 0#32) p = r at h
  have e : ext r (List.zipWith (· ^^^ ·) m (four x)) = ext r m ^^^ ext 0#32 (four x) := by
    have := ext_xor r 0#32 m (four x) (by simp [hm, four])
    simpa using this
  have e2 : ext (ext r m ^^^ ext 0#32 (four x)) q = ext (ext r m) q ^^^ ext (ext 0#32 (four x)) (List.replicate q.length 0#8) := by
    have := ext_xor (ext r m) (ext 0#32 (four x)) q (List.replicate q.length 0#8) (by simp)
    rwa [hz] at this
  rw [e, e2] at h
  apply ext_four
  apply ext_zeros_inj _ q.length
  have h' := congrArg (ext (ext r m) q ^^^ ·) h
  simpa [← BitVec.xor_assoc] using h'
end Go.Proofs.Ytgbjaglkmjipmaa.Crc
