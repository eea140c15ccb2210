/- Text walked. -/
import Derived.Test.YtjhlpmigkbaegaaDoorSline
import Derived.Deep.RegionHeld3
namespace Go.Proofs.YtjhlpmigkbaegaaDoor
open Go.RowKit
set_option linter.unusedVariables false
@[go_sem] theorem as53_53 (v : Value) (w : World) : (Instr.typeAssert (.iface 53 v) 29 53 true).run Tryd.prog w = .ok (.tuple #[v, .bool true]) w := by kernel_rfl
@[go_sem] theorem as56_53 (v : Value) (w : World) : (Instr.typeAssert (.iface 56 v) 29 53 true).run Tryd.prog w = .ok (.tuple #[.agg #[.int .i64 0, .int .i64 0, .int .i64 0, .int .i64 0, .int .u64 0], .bool false]) w := by kernel_rfl
@[go_sem] theorem as56_56 (v : Value) (w : World) : (Instr.typeAssert (.iface 56 v) 29 56 true).run Tryd.prog w = .ok (.tuple #[v, .bool true]) w := by kernel_rfl
@[go_sem] theorem as58_53 (v : Value) (w : World) : (Instr.typeAssert (.iface 58 v) 29 53 true).run Tryd.prog w = .ok (.tuple #[.agg #[.int .i64 0, .int .i64 0, .int .i64 0, .int .i64 0, .int .u64 0], .bool false]) w := by kernel_rfl
@[go_sem] theorem as58_56 (v : Value) (w : World) : (Instr.typeAssert (.iface 58 v) 29 56 true).run Tryd.prog w = .ok (.tuple #[.agg #[.int .i64 0, .int .i64 0, .int .i64 0, .int .i64 0, .int .u64 0, .int .i64 0], .bool false]) w := by kernel_rfl
@[go_sem] theorem as58_58 (v : Value) (w : World) : (Instr.typeAssert (.iface 58 v) 29 58 true).run Tryd.prog w = .ok (.tuple #[v, .bool true]) w := by kernel_rfl
@[go_sem] theorem as61_53 (v : Value) (w : World) : (Instr.typeAssert (.iface 61 v) 29 53 true).run Tryd.prog w = .ok (.tuple #[.agg #[.int .i64 0, .int .i64 0, .int .i64 0, .int .i64 0, .int .u64 0], .bool false]) w := by kernel_rfl
@[go_sem] theorem as61_56 (v : Value) (w : World) : (Instr.typeAssert (.iface 61 v) 29 56 true).run Tryd.prog w = .ok (.tuple #[.agg #[.int .i64 0, .int .i64 0, .int .i64 0, .int .i64 0, .int .u64 0, .int .i64 0], .bool false]) w := by kernel_rfl
@[go_sem] theorem as61_58 (v : Value) (w : World) : (Instr.typeAssert (.iface 61 v) 29 58 true).run Tryd.prog w = .ok (.tuple #[.agg #[.int .i64 0, .bool false, .string ⟨#[]⟩, .int .u64 0, .int .i64 0], .bool false]) w := by kernel_rfl
@[go_sem] theorem as61_61 (v : Value) (w : World) : (Instr.typeAssert (.iface 61 v) 29 61 true).run Tryd.prog w = .ok (.tuple #[v, .bool true]) w := by kernel_rfl
@[go_sem] theorem as64_53 (v : Value) (w : World) : (Instr.typeAssert (.iface 64 v) 29 53 true).run Tryd.prog w = .ok (.tuple #[.agg #[.int .i64 0, .int .i64 0, .int .i64 0, .int .i64 0, .int .u64 0], .bool false]) w := by kernel_rfl
@[go_sem] theorem as64_56 (v : Value) (w : World) : (Instr.typeAssert (.iface 64 v) 29 56 true).run Tryd.prog w = .ok (.tuple #[.agg #[.int .i64 0, .int .i64 0, .int .i64 0, .int .i64 0, .int .u64 0, .int .i64 0], .bool false]) w := by kernel_rfl
@[go_sem] theorem as64_58 (v : Value) (w : World) : (Instr.typeAssert (.iface 64 v) 29 58 true).run Tryd.prog w = .ok (.tuple #[.agg #[.int .i64 0, .bool false, .string ⟨#[]⟩, .int .u64 0, .int .i64 0], .bool false]) w := by kernel_rfl
@[go_sem] theorem as64_61 (v : Value) (w : World) : (Instr.typeAssert (.iface 64 v) 29 61 true).run Tryd.prog w = .ok (.tuple #[.agg #[], .bool false]) w := by kernel_rfl
@[go_sem] theorem as64_64 (v : Value) (w : World) : (Instr.typeAssert (.iface 64 v) 29 64 true).run Tryd.prog w = .ok (.tuple #[v, .bool true]) w := by kernel_rfl
@[go_sem] theorem as66_53 (v : Value) (w : World) : (Instr.typeAssert (.iface 66 v) 29 53 true).run Tryd.prog w = .ok (.tuple #[.agg #[.int .i64 0, .int .i64 0, .int .i64 0, .int .i64 0, .int .u64 0], .bool false]) w := by kernel_rfl
@[go_sem] theorem as66_56 (v : Value) (w : World) : (Instr.typeAssert (.iface 66 v) 29 56 true).run Tryd.prog w = .ok (.tuple #[.agg #[.int .i64 0, .int .i64 0, .int .i64 0, .int .i64 0, .int .u64 0, .int .i64 0], .bool false]) w := by kernel_rfl
@[go_sem] theorem as66_58 (v : Value) (w : World) : (Instr.typeAssert (.iface 66 v) 29 58 true).run Tryd.prog w = .ok (.tuple #[.agg #[.int .i64 0, .bool false, .string ⟨#[]⟩, .int .u64 0, .int .i64 0], .bool false]) w := by kernel_rfl
@[go_sem] theorem as66_61 (v : Value) (w : World) : (Instr.typeAssert (.iface 66 v) 29 61 true).run Tryd.prog w = .ok (.tuple #[.agg #[], .bool false]) w := by kernel_rfl
@[go_sem] theorem as66_64 (v : Value) (w : World) : (Instr.typeAssert (.iface 66 v) 29 64 true).run Tryd.prog w = .ok (.tuple #[.agg #[.string ⟨#[]⟩, .int .i64 0, .slice none 0 0], .bool false]) w := by kernel_rfl
@[go_sem] theorem as66_66 (v : Value) (w : World) : (Instr.typeAssert (.iface 66 v) 29 66 true).run Tryd.prog w = .ok (.tuple #[v, .bool true]) w := by kernel_rfl
@[go_sem] theorem as69_53 (v : Value) (w : World) : (Instr.typeAssert (.iface 69 v) 29 53 true).run Tryd.prog w = .ok (.tuple #[.agg #[.int .i64 0, .int .i64 0, .int .i64 0, .int .i64 0, .int .u64 0], .bool false]) w := by kernel_rfl
@[go_sem] theorem as69_56 (v : Value) (w : World) : (Instr.typeAssert (.iface 69 v) 29 56 true).run Tryd.prog w = .ok (.tuple #[.agg #[.int .i64 0, .int .i64 0, .int .i64 0, .int .i64 0, .int .u64 0, .int .i64 0], .bool false]) w := by kernel_rfl
@[go_sem] theorem as69_58 (v : Value) (w : World) : (Instr.typeAssert (.iface 69 v) 29 58 true).run Tryd.prog w = .ok (.tuple #[.agg #[.int .i64 0, .bool false, .string ⟨#[]⟩, .int .u64 0, .int .i64 0], .bool false]) w := by kernel_rfl
@[go_sem] theorem as69_61 (v : Value) (w : World) : (Instr.typeAssert (.iface 69 v) 29 61 true).run Tryd.prog w = .ok (.tuple #[.agg #[], .bool false]) w := by kernel_rfl
@[go_sem] theorem as69_64 (v : Value) (w : World) : (Instr.typeAssert (.iface 69 v) 29 64 true).run Tryd.prog w = .ok (.tuple #[.agg #[.string ⟨#[]⟩, .int .i64 0, .slice none 0 0], .bool false]) w := by kernel_rfl
@[go_sem] theorem as69_66 (v : Value) (w : World) : (Instr.typeAssert (.iface 69 v) 29 66 true).run Tryd.prog w = .ok (.tuple #[.agg #[.string ⟨#[]⟩, .int .i64 0, .int .i64 0], .bool false]) w := by kernel_rfl
@[go_sem] theorem as69_69 (v : Value) (w : World) : (Instr.typeAssert (.iface 69 v) 29 69 true).run Tryd.prog w = .ok (.tuple #[v, .bool true]) w := by kernel_rfl
@[go_sem] theorem asn_53 (w : World) : (Instr.typeAssert .nilIface 29 53 true).run Tryd.prog w = .ok (.tuple #[.agg #[.int .i64 0, .int .i64 0, .int .i64 0, .int .i64 0, .int .u64 0], .bool false]) w := by kernel_rfl
@[go_sem] theorem asn_56 (w : World) : (Instr.typeAssert .nilIface 29 56 true).run Tryd.prog w = .ok (.tuple #[.agg #[.int .i64 0, .int .i64 0, .int .i64 0, .int .i64 0, .int .u64 0, .int .i64 0], .bool false]) w := by kernel_rfl
@[go_sem] theorem asn_58 (w : World) : (Instr.typeAssert .nilIface 29 58 true).run Tryd.prog w = .ok (.tuple #[.agg #[.int .i64 0, .bool false, .string ⟨#[]⟩, .int .u64 0, .int .i64 0], .bool false]) w := by kernel_rfl
@[go_sem] theorem asn_61 (w : World) : (Instr.typeAssert .nilIface 29 61 true).run Tryd.prog w = .ok (.tuple #[.agg #[], .bool false]) w := by kernel_rfl
@[go_sem] theorem asn_64 (w : World) : (Instr.typeAssert .nilIface 29 64 true).run Tryd.prog w = .ok (.tuple #[.agg #[.string ⟨#[]⟩, .int .i64 0, .slice none 0 0], .bool false]) w := by kernel_rfl
@[go_sem] theorem asn_66 (w : World) : (Instr.typeAssert .nilIface 29 66 true).run Tryd.prog w = .ok (.tuple #[.agg #[.string ⟨#[]⟩, .int .i64 0, .int .i64 0], .bool false]) w := by kernel_rfl
@[go_sem] theorem asn_69 (w : World) : (Instr.typeAssert .nilIface 29 69 true).run Tryd.prog w = .ok (.tuple #[.agg #[.slice none 0 0], .bool false]) w := by kernel_rfl
/-- What fits into sixty-four bits. -/
def I64 (x : Int) : Prop := -9223372036854775808 ≤ x ∧ x ≤ 9223372036854775807
theorem row_new (W : World) (s : Nat) (hs : W.heap.size = s) (l : List Int) : Row (W.alloc (.cells (l.map i64v).toArray 2)) (some ⟨s, 0, none⟩) l.length (l.map i64v) := by
  subst hs
  refine ⟨by simp, fun i x hx => ⟨W.heap.size, 0, rfl, ?_, by simp⟩⟩
  have h1 := cell_of_row (W.alloc (.cells (l.map i64v).toArray 2)) W.heap.size (0 + i) _ _ _ (heap_alloc_new W _)
  refine h1.trans ?_
  rw [Nat.zero_add, List.getElem?_toArray]; exact hx
theorem wrap64_I64 (x : Int) : I64 (wrap64 x) := by unfold I64; unfold wrap64; omega
/-- A number that went through sixty-four bits without a sign. -/
def turn (x : Int) : Int := wrap64 (IntKind.u64.wrap x)
/-- A digit to base sixteen, and bytes by such. -/
def dig (n : Nat) : ByteArray := (⟨#[48, 49, 50, 51, 52, 53, 54, 55, 56, 57, 97, 98, 99, 100, 101, 102]⟩ : ByteArray).extract n (n + 1)
def hexS (l : List Nat) : ByteArray := l.foldl (fun s n => s ++ (dig (n / 16) ++ dig (n % 16))) ⟨#[]⟩
/-- A command's text. -/
def textC : Cmd → ByteArray
  | .create [x0, x1, x2, x3, x4] => lineS ⟨#[99, 114, 101, 97, 116, 101]⟩ [x0, x1, x2, x3, turn x4]
  | .create _ => ⟨#[]⟩
  | .open_ [x0, x1, x2, x3, x4] => lineS ⟨#[119, 105, 110, 100, 111, 119]⟩ [x0, x1, x2, turn x3, x4]
  | .open_ _ => ⟨#[]⟩
  | .add r => lineS ((lineS ⟨#[97, 100, 100]⟩ [r.h] ++ ⟨#[32]⟩) ++ (if r.named then (⟨#[34]⟩ ++ r.name) ++ ⟨#[34]⟩ else numS (wrap64 r.key))) [r.d]
  | .tick => ⟨#[116, 105, 99, 107]⟩
  | .query s h l => lineS (lineS s [h]) l
  | .pair s a b => lineS s [a, b]
  | .imp l => (⟨#[105, 109, 112, 111, 114, 116, 32]⟩ : ByteArray) ++ hexS l
set_option maxRecDepth 100000 in
set_option maxHeartbeats 1000000 in
theorem text_nil (w : World) : Calls Tryd.prog 11 #[.nilIface] w (TPost w ⟨#[]⟩) := by
  go_enter Tryd.func11, Tryd.ntmps11
  go_wp2_with fail
  go_ret
  exact ⟨rfl, Below.refl _ _⟩
set_option maxRecDepth 100000 in
set_option maxHeartbeats 1000000 in
theorem text_tick (w : World) : Calls Tryd.prog 11 #[.iface 61 (.agg #[])] w (TPost w (textC .tick)) := by
  go_enter Tryd.func11, Tryd.ntmps11
  go_wp2_with fail
  go_ret
  exact ⟨rfl, (Below.refl _ _).alloc (Nat.le_refl _) _⟩
theorem line_new (v : ByteArray) (l : List Int) (W : World) (s n : Nat) (hn : l.length = n) (cs : Array Value) (hcs : cs = (l.map i64v).toArray) (hs : W.heap.size = s) (hT : Tabs W) (hl : l.length ≤ 1048576) (hvs : v.size ≤ 1099511627776) (hb : ∀ x ∈ l, I64 x) :
    Calls Tryd.prog 26 #[.string v, .slice (some ⟨s, 0, none⟩) n n] (W.alloc (.cells cs 2)) (TPost W (lineS v l)) := by
  subst hn; subst hcs
  have hbl : Below W.heap.size W (W.alloc (.cells (l.map i64v).toArray 2)) := (Below.refl _ _).alloc (Nat.le_refl _) _
  exact (line_any v l _ _ _ (hT.below hbl) (row_new W s hs l) hl hvs hb).mono fun _ _ h => ⟨h.1, hbl.then h.2⟩
set_option maxRecDepth 100000 in
set_option maxHeartbeats 1000000 in
theorem text_create (w : World) (hT : Tabs w) (x0 x1 x2 x3 x4 : Int) (h0 : I64 x0) (h1 : I64 x1) (h2 : I64 x2) (h3 : I64 x3) : Calls Tryd.prog 11 #[.iface 53 (.agg #[.int .i64 x0, .int .i64 x1, .int .i64 x2, .int .i64 x3, .int .u64 (IntKind.u64.wrap x4)])] w (TPost w (textC (.create [x0, x1, x2, x3, x4]))) := by
  have HN := Lib.hid ((Below.refl w.heap.size w).alloc (Nat.le_refl _) (.cells #[.int .i64 x0, .int .i64 x1, .int .i64 x2, .int .i64 x3, .int .u64 (IntKind.u64.wrap x4)] 53))
  have KL := Lib.hid (line_new ⟨#[99, 114, 101, 97, 116, 101]⟩ [x0, x1, x2, x3, turn x4] (w.alloc (.cells #[.int .i64 x0, .int .i64 x1, .int .i64 x2, .int .i64 x3, .int .u64 (IntKind.u64.wrap x4)] 53)) (w.heap.size + 1) 5 rfl _ rfl (by simp) (hT.below ((Below.refl w.heap.size w).alloc (Nat.le_refl _) (.cells #[.int .i64 x0, .int .i64 x1, .int .i64 x2, .int .i64 x3, .int .u64 (IntKind.u64.wrap x4)] 53))) (by simp) (by decide) (by simp; exact ⟨h0, h1, h2, h3, wrap64_I64 _⟩))
  clear hT
  go_enter Tryd.func11, Tryd.ntmps11
  go_wp2_with fail
  refine KL.out.mono ?_
  rintro e w1 ⟨rfl, hb1⟩
  have HB1 := Lib.hid (HN.out.then hb1)
  clear hb1
  go_wp2_with fail
  go_ret
  exact ⟨rfl, HB1.out⟩
set_option maxRecDepth 100000 in
set_option maxHeartbeats 1000000 in
theorem text_open (w : World) (hT : Tabs w) (x0 x1 x2 x3 x4 : Int) (h0 : I64 x0) (h1 : I64 x1) (h2 : I64 x2) (h4 : I64 x4) : Calls Tryd.prog 11 #[.iface 56 (.agg #[.int .i64 x0, .int .i64 x1, .int .i64 x2, .int .i64 1, .int .u64 (IntKind.u64.wrap x3), .int .i64 x4])] w (TPost w (textC (.open_ [x0, x1, x2, x3, x4]))) := by
  have HN := Lib.hid ((Below.refl w.heap.size w).alloc (Nat.le_refl _) (.cells #[.int .i64 x0, .int .i64 x1, .int .i64 x2, .int .i64 1, .int .u64 (IntKind.u64.wrap x3), .int .i64 x4] 56))
  have KL := Lib.hid (line_new ⟨#[119, 105, 110, 100, 111, 119]⟩ [x0, x1, x2, turn x3, x4] (w.alloc (.cells #[.int .i64 x0, .int .i64 x1, .int .i64 x2, .int .i64 1, .int .u64 (IntKind.u64.wrap x3), .int .i64 x4] 56)) (w.heap.size + 1) 5 rfl _ rfl (by simp) (hT.below ((Below.refl w.heap.size w).alloc (Nat.le_refl _) (.cells #[.int .i64 x0, .int .i64 x1, .int .i64 x2, .int .i64 1, .int .u64 (IntKind.u64.wrap x3), .int .i64 x4] 56))) (by simp) (by decide) (by simp; exact ⟨h0, h1, h2, wrap64_I64 _, h4⟩))
  clear hT
  go_enter Tryd.func11, Tryd.ntmps11
  go_wp2_with fail
  refine KL.out.mono ?_
  rintro e w1 ⟨rfl, hb1⟩
  have HB1 := Lib.hid (HN.out.then hb1)
  clear hb1
  go_wp2_with fail
  go_ret
  exact ⟨rfl, HB1.out⟩
set_option maxRecDepth 100000 in
set_option maxHeartbeats 1000000 in
theorem text_pair (w : World) (hT : Tabs w) (s : ByteArray) (a b : Int) (hs : s.size ≤ 1048576) (h0 : I64 a) (h1 : I64 b) : Calls Tryd.prog 11 #[.iface 66 (.agg #[.string s, .int .i64 a, .int .i64 b])] w (TPost w (textC (.pair s a b))) := by
  have HN := Lib.hid ((Below.refl w.heap.size w).alloc (Nat.le_refl _) (.cells #[.string s, .int .i64 a, .int .i64 b] 66))
  have KL := Lib.hid (line_new s [a, b] (w.alloc (.cells #[.string s, .int .i64 a, .int .i64 b] 66)) (w.heap.size + 1) 2 rfl _ rfl (by simp) (hT.below ((Below.refl w.heap.size w).alloc (Nat.le_refl _) (.cells #[.string s, .int .i64 a, .int .i64 b] 66))) (by simp) (by omega) (by simp; exact ⟨h0, h1⟩))
  clear hT
  go_enter Tryd.func11, Tryd.ntmps11
  go_wp2_with fail
  refine KL.out.mono ?_
  rintro e w1 ⟨rfl, hb1⟩
  have HB1 := Lib.hid (HN.out.then hb1)
  clear hb1
  go_wp2_with fail
  go_ret
  exact ⟨rfl, HB1.out⟩
theorem line_newd (v : ByteArray) (l : List Int) (W : World) (s n : Nat) (hn : l.length = n) (cs : Array Value) (hcs : cs = (l.map i64v).toArray) (hs : W.heap.size = s) (hT : Tabs W) (hl : l.length ≤ 1048576) (hvs : v.size ≤ 1099511627776) (hb : ∀ x ∈ l, I64 x) :
    Calls Tryd.prog 26 #[.string v, .slice (some ⟨s, 0, none⟩) n n] (W.alloc (.cells cs 2)).drew (TPost W (lineS v l)) := by
  subst hn; subst hcs
  have hbl : Below W.heap.size W (W.alloc (.cells (l.map i64v).toArray 2)).drew := below_drewN ((Below.refl _ _).alloc (Nat.le_refl _) _) 1
  exact (line_any v l _ _ _ (hT.below hbl) ((row_new W s hs l).below (below_drewN (Below.refl _ _) 1)) hl hvs hb).mono fun _ _ h => ⟨h.1, hbl.then h.2⟩
theorem lineS_size (v : ByteArray) (l : List Int) (hb : ∀ x ∈ l, I64 x) : (lineS v l).size ≤ v.size + 22 * l.length := by
  induction l generalizing v with
  | nil => simp [lineS]
  | cons x l ih =>
    have h1 := ih (v ++ ((⟨#[32]⟩ : ByteArray) ++ numS x)) (fun y hy => hb y (List.mem_cons_of_mem _ hy))
    have h2 := Lib.itoa_length_le x (hb x (List.mem_cons_self)).1 (hb x (List.mem_cons_self)).2
    have h3 : (v ++ ((⟨#[32]⟩ : ByteArray) ++ numS x)).size = v.size + (1 + (Lib.itoa x).length) := by
      simp only [ByteArray.size_append]; rfl
    simp only [lineS, List.length_cons]
    omega
/-- What the cells of a query's block read. -/
theorem qkeep_below {w W w1 : World} {B : Nat} {x y z : Value} (H : W.cell? ⟨B, 0, none⟩ = some x ∧ W.cell? ⟨B, 1, none⟩ = some y ∧ W.cell? ⟨B, 2, none⟩ = some z ∧ B < W.heap.size ∧ Below w.heap.size w W) (hn : Below W.heap.size W w1) :
    w1.cell? ⟨B, 0, none⟩ = some x ∧ w1.cell? ⟨B, 1, none⟩ = some y ∧ w1.cell? ⟨B, 2, none⟩ = some z ∧ B < w1.heap.size ∧ Below w.heap.size w w1 := by
  obtain ⟨h0, h1, h2, hl, hb⟩ := H
  exact ⟨by rw [hn.cell (p := ⟨B, 0, none⟩) hl]; exact h0, by rw [hn.cell (p := ⟨B, 1, none⟩) hl]; exact h1, by rw [hn.cell (p := ⟨B, 2, none⟩) hl]; exact h2, Nat.lt_of_lt_of_le hl hn.size, hb.then hn⟩
theorem qkeep_alloc {w W : World} {B : Nat} {x y z : Value} {o : Obj} (H : W.cell? ⟨B, 0, none⟩ = some x ∧ W.cell? ⟨B, 1, none⟩ = some y ∧ W.cell? ⟨B, 2, none⟩ = some z ∧ B < W.heap.size ∧ Below w.heap.size w W) :
    (W.alloc o).cell? ⟨B, 0, none⟩ = some x ∧ (W.alloc o).cell? ⟨B, 1, none⟩ = some y ∧ (W.alloc o).cell? ⟨B, 2, none⟩ = some z ∧ B < (W.alloc o).heap.size ∧ Below w.heap.size w (W.alloc o) :=
  qkeep_below H ((Below.refl _ _).alloc (Nat.le_refl _) o)
theorem qkeep_drew {w W : World} {B : Nat} {x y z : Value} (H : W.cell? ⟨B, 0, none⟩ = some x ∧ W.cell? ⟨B, 1, none⟩ = some y ∧ W.cell? ⟨B, 2, none⟩ = some z ∧ B < W.heap.size ∧ Below w.heap.size w W) :
    W.drew.cell? ⟨B, 0, none⟩ = some x ∧ W.drew.cell? ⟨B, 1, none⟩ = some y ∧ W.drew.cell? ⟨B, 2, none⟩ = some z ∧ B < W.drew.heap.size ∧ Below w.heap.size w W.drew := qkeep_below H (below_drewN (Below.refl _ _) 1)
theorem query_k1 (w : World) (hT : Tabs w) (B : Nat) (x y z : Value) (v : ByteArray) (h : Int) (hv : v.size ≤ 1099511627776) (hh : I64 h) (W : World) (s : Nat)
    (H : W.cell? ⟨B, 0, none⟩ = some x ∧ W.cell? ⟨B, 1, none⟩ = some y ∧ W.cell? ⟨B, 2, none⟩ = some z ∧ B < W.heap.size ∧ Below w.heap.size w W) (hc : W.cell? ⟨s, 0, none⟩ = some (.int .i64 h)) (hs : s < W.heap.size) :
    Calls Tryd.prog 26 #[.string v, .slice (some ⟨s, 0, none⟩) 1 1] W (fun e w1 => e = .returned (.string (lineS v [h])) ∧ (w1.cell? ⟨B, 0, none⟩ = some x ∧ w1.cell? ⟨B, 1, none⟩ = some y ∧ w1.cell? ⟨B, 2, none⟩ = some z ∧ B < w1.heap.size ∧ Below w.heap.size w w1)) := by
  have hr : Row W (some ⟨s, 0, none⟩) [h].length ([h].map i64v) := by
    refine ⟨rfl, fun i y hy => ⟨s, 0, rfl, ?_, hs⟩⟩
    match i, hy with
    | 0, hy => cases hy; exact hc
  exact (line_any v [h] _ 1 W (hT.below H.2.2.2.2) hr (by simp) hv (by simpa [I64] using hh)).mono fun e w1 q => ⟨q.1, qkeep_below H q.2⟩
theorem query_k2 (w : World) (hT : Tabs w) (B : Nat) (x y z : Value) (v : ByteArray) (l : List Int) (a : Option Addr) (c : Nat) (hr : Row w a l.length (l.map i64v)) (hs : v.size ≤ 1099511627776) (hl : l.length ≤ 1048576) (hb : ∀ x ∈ l, I64 x) (W : World)
    (H : W.cell? ⟨B, 0, none⟩ = some x ∧ W.cell? ⟨B, 1, none⟩ = some y ∧ W.cell? ⟨B, 2, none⟩ = some z ∧ B < W.heap.size ∧ Below w.heap.size w W) :
    Calls Tryd.prog 26 #[.string v, .slice a l.length c] W (fun e w1 => e = .returned (.string (lineS v l)) ∧ (w1.cell? ⟨B, 0, none⟩ = some x ∧ w1.cell? ⟨B, 1, none⟩ = some y ∧ w1.cell? ⟨B, 2, none⟩ = some z ∧ B < w1.heap.size ∧ Below w.heap.size w w1)) :=
  (line_any v l a c W (hT.below H.2.2.2.2) (hr.below H.2.2.2.2) hl hs hb).mono (fun e w2 q => ⟨q.1, qkeep_below H q.2⟩)
set_option maxRecDepth 100000 in
set_option maxHeartbeats 2000000 in
theorem text_query (w : World) (hT : Tabs w) (s : ByteArray) (h : Int) (l : List Int) (a : Option Addr) (c : Nat) (hr : Row w a l.length (l.map i64v)) (hs : s.size ≤ 1048576) (h0 : I64 h) (hl : l.length ≤ 1048576) (hb : ∀ x ∈ l, I64 x) :
    Calls Tryd.prog 11 #[.iface 64 (.agg #[.string s, .int .i64 h, .slice a l.length c])] w (TPost w (textC (.query s h l))) := by
  have hs1 := lineS_size s [h] (by simpa using h0)
  simp only [List.length_singleton] at hs1
  have KL1 := query_k1 w hT w.heap.size (.string s) (.int .i64 h) (.slice a l.length c) s h (by omega) h0
  have KL2 := query_k2 w hT w.heap.size (.string s) (.int .i64 h) (.slice a l.length c) (lineS s [h]) l a c hr (by omega) hl hb
  have KL1 := Lib.hid KL1
  have KL2 := Lib.hid KL2
  have hS : (w.alloc (.cells #[.string s, .int .i64 h, .slice a l.length c] 64)).cell? ⟨w.heap.size, 0, none⟩ = some (.string s) ∧ (w.alloc (.cells #[.string s, .int .i64 h, .slice a l.length c] 64)).cell? ⟨w.heap.size, 1, none⟩ = some (.int .i64 h) ∧ (w.alloc (.cells #[.string s, .int .i64 h, .slice a l.length c] 64)).cell? ⟨w.heap.size, 2, none⟩ = some (.slice a l.length c) ∧ w.heap.size < (w.alloc (.cells #[.string s, .int .i64 h, .slice a l.length c] 64)).heap.size ∧ Below w.heap.size w (w.alloc (.cells #[.string s, .int .i64 h, .slice a l.length c] 64)) :=
    ⟨cell_of_row _ _ _ _ _ _ (heap_alloc_new w _), cell_of_row _ _ _ _ _ _ (heap_alloc_new w _), cell_of_row _ _ _ _ _ _ (heap_alloc_new w _), by simp, (Below.refl w.heap.size w).alloc (Nat.le_refl _) _⟩
  clear hT hr hb hs1
  show Calls _ _ _ _ (TPost w (lineS (lineS s [h]) l))
  generalize lineS s [h] = s1 at *
  generalize lineS s1 l = s2 at *
  have HS := Lib.hid hS; clear hS
  go_enter Tryd.func11, Tryd.ntmps11
  go_wp2_with fail
  have hS := HS.out
  clear HS
  generalize w.alloc (.cells #[.string s, .int .i64 h, .slice a l.length c] 64) = w2 at *
  go_region_held3 (fun w' => w'.cell? ⟨w.heap.size, 0, none⟩ = some (.string s) ∧ w'.cell? ⟨w.heap.size, 1, none⟩ = some (.int .i64 h) ∧ w'.cell? ⟨w.heap.size, 2, none⟩ = some (.slice a l.length c) ∧ w.heap.size < w'.heap.size ∧ Below w.heap.size w w')
    (first | assumption | exact qkeep_drew (by assumption) | exact qkeep_alloc (by assumption) | exact qkeep_drew (qkeep_alloc (by assumption)))
    (first
      | (go_at_call 26; with_reducible refine Calls.mono (KL1.out _ _ ?_ ?_ ?_) ?_; (· assumption); (· go_simp); (· go_simp); rintro e w1 ⟨rfl, hS1⟩)
      | (go_at_call 26; with_reducible refine Calls.mono (KL2.out _ ?_) ?_; (· assumption); rintro e w1 ⟨rfl, hS1⟩))
  all_goals (go_wp2_with fail; go_ret)
  all_goals exact ⟨rfl, hS1.2.2.2.2⟩
end Go.Proofs.YtjhlpmigkbaegaaDoor
