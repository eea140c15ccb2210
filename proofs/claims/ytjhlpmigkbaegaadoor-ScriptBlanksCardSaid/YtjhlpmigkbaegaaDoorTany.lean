/- Text of any command; first words; what the small case tells. -/
import Derived.Test.YtjhlpmigkbaegaaDoorTadd
import Derived.Test.YtjhlpmigkbaegaaDoorTimp
namespace Go.Proofs.YtjhlpmigkbaegaaDoor
open Go.RowKit
set_option linter.unusedVariables false
/-- A command whose parts fit. -/
def Cmd.Ok : Cmd → Prop
  | .create l => ∀ x ∈ l, I64 x
  | .open_ l => ∀ x ∈ l, I64 x
  | .add r => I64 r.h ∧ I64 r.d ∧ r.name.size ≤ 1048576
  | .tick => True
  | .query s h l => s.size ≤ 1048576 ∧ I64 h ∧ l.length ≤ 1048576 ∧ ∀ x ∈ l, I64 x
  | .pair s a b => s.size ≤ 1048576 ∧ I64 a ∧ I64 b
  | .imp l => l.length ≤ 1048576 ∧ ∀ x ∈ l, x < 256
def textO : Option Cmd → ByteArray
  | none => ⟨#[]⟩
  | some k => textC k
theorem text_cmd (w : World) (hT : Tabs w) (v : Value) (k : Cmd) (hv : CmdV w v k) (hk : k.Ok) : Calls Tryd.prog 11 #[v] w (TPost w (textC k)) := by
  cases k with
  | create l =>
    obtain ⟨x0, x1, x2, x3, x4, rfl, rfl⟩ := hv
    exact text_create w hT x0 x1 x2 x3 x4 (hk _ (by simp)) (hk _ (by simp)) (hk _ (by simp)) (hk _ (by simp))
  | open_ l =>
    obtain ⟨x0, x1, x2, x3, x4, rfl, rfl⟩ := hv
    exact text_open w hT x0 x1 x2 x3 x4 (hk _ (by simp)) (hk _ (by simp)) (hk _ (by simp)) (hk _ (by simp))
  | add r =>
    obtain rfl : v = .iface 58 (addV r) := hv
    obtain ⟨h, nm, name, key, d, a, b⟩ := r
    cases nm with
    | true => exact text_add_yes w hT h d key name hk.1 hk.2.1 hk.2.2 _ _ _ rfl rfl rfl
    | false => exact text_add_no w hT h d key name hk.1 hk.2.1 hk.2.2 _ _ _ rfl rfl rfl
  | tick =>
    obtain rfl : v = .iface 61 (.agg #[]) := hv
    exact text_tick w
  | query s h l =>
    obtain ⟨a, c, rfl, hr⟩ := hv
    exact text_query w hT s h l a c hr hk.1 hk.2.1 hk.2.2.1 hk.2.2.2
  | pair s a b =>
    obtain rfl : v = .iface 66 (.agg #[.string s, .int .i64 a, .int .i64 b]) := hv
    exact text_pair w hT s a b hk.1 hk.2.1 hk.2.2
  | imp l =>
    obtain ⟨a, c, rfl, hr⟩ := hv
    exact text_imp w l a c hr hk.1 hk.2
theorem text_any (w : World) (hT : Tabs w) (v : Value) (k : Option Cmd) (hv : CmdO w v k) (hk : ∀ c, k = some c → c.Ok) : Calls Tryd.prog 11 #[v] w (TPost w (textO k)) := by
  cases k with
  | none =>
    obtain rfl : v = .nilIface := hv
    exact text_nil w
  | some c => exact text_cmd w hT v c hv (hk c rfl)
/-- A command's first word. -/
def verbC : Cmd → ByteArray
  | .create _ => ⟨#[99, 114, 101, 97, 116, 101]⟩
  | .open_ _ => ⟨#[119, 105, 110, 100, 111, 119]⟩
  | .add _ => ⟨#[97, 100, 100]⟩
  | .tick => ⟨#[116, 105, 99, 107]⟩
  | .query s _ _ => s
  | .pair s _ _ => s
  | .imp _ => ⟨#[105, 109, 112, 111, 114, 116]⟩
@[go_sem] theorem meth53 (v : Value) (w : World) : (_root_.Go.method 242 53 v "Verb").run Tryd.prog w = .ok (84, v) w := by kernel_rfl
@[go_sem] theorem nila53 (v : Value) (w : World) : (_root_.Go.nilAhead 242 53 v "Verb").run Tryd.prog w = .ok (some false) w := by kernel_rfl
@[go_sem] theorem meth56 (v : Value) (w : World) : (_root_.Go.method 242 56 v "Verb").run Tryd.prog w = .ok (85, v) w := by kernel_rfl
@[go_sem] theorem nila56 (v : Value) (w : World) : (_root_.Go.nilAhead 242 56 v "Verb").run Tryd.prog w = .ok (some false) w := by kernel_rfl
@[go_sem] theorem meth58 (v : Value) (w : World) : (_root_.Go.method 242 58 v "Verb").run Tryd.prog w = .ok (86, v) w := by kernel_rfl
@[go_sem] theorem nila58 (v : Value) (w : World) : (_root_.Go.nilAhead 242 58 v "Verb").run Tryd.prog w = .ok (some false) w := by kernel_rfl
@[go_sem] theorem meth61 (v : Value) (w : World) : (_root_.Go.method 242 61 v "Verb").run Tryd.prog w = .ok (87, v) w := by kernel_rfl
@[go_sem] theorem nila61 (v : Value) (w : World) : (_root_.Go.nilAhead 242 61 v "Verb").run Tryd.prog w = .ok (some false) w := by kernel_rfl
@[go_sem] theorem meth64 (v : Value) (w : World) : (_root_.Go.method 242 64 v "Verb").run Tryd.prog w = .ok (88, v) w := by kernel_rfl
@[go_sem] theorem nila64 (v : Value) (w : World) : (_root_.Go.nilAhead 242 64 v "Verb").run Tryd.prog w = .ok (some false) w := by kernel_rfl
@[go_sem] theorem meth66 (v : Value) (w : World) : (_root_.Go.method 242 66 v "Verb").run Tryd.prog w = .ok (89, v) w := by kernel_rfl
@[go_sem] theorem nila66 (v : Value) (w : World) : (_root_.Go.nilAhead 242 66 v "Verb").run Tryd.prog w = .ok (some false) w := by kernel_rfl
@[go_sem] theorem meth69 (v : Value) (w : World) : (_root_.Go.method 242 69 v "Verb").run Tryd.prog w = .ok (90, v) w := by kernel_rfl
@[go_sem] theorem nila69 (v : Value) (w : World) : (_root_.Go.nilAhead 242 69 v "Verb").run Tryd.prog w = .ok (some false) w := by kernel_rfl
theorem verb_create (w : World) (x0 x1 x2 x3 x4 : Int) : Calls Tryd.prog 84 #[.agg #[.int .i64 x0, .int .i64 x1, .int .i64 x2, .int .i64 x3, .int .u64 x4]] w (TPost w (⟨#[99, 114, 101, 97, 116, 101]⟩)) := by
  go_enter Tryd.func84, Tryd.ntmps84
  go_wp2_with fail
  go_ret
  exact ⟨rfl, (Below.refl _ _).alloc (Nat.le_refl _) _⟩
theorem verb_open (w : World) (x0 x1 x2 x3 x4 x5 : Int) : Calls Tryd.prog 85 #[.agg #[.int .i64 x0, .int .i64 x1, .int .i64 x2, .int .i64 x3, .int .u64 x4, .int .i64 x5]] w (TPost w (⟨#[119, 105, 110, 100, 111, 119]⟩)) := by
  go_enter Tryd.func85, Tryd.ntmps85
  go_wp2_with fail
  go_ret
  exact ⟨rfl, (Below.refl _ _).alloc (Nat.le_refl _) _⟩
theorem verb_add (w : World) (r : AddR) : Calls Tryd.prog 86 #[addV r] w (TPost w (⟨#[97, 100, 100]⟩)) := by
  unfold addV
  go_enter Tryd.func86, Tryd.ntmps86
  go_wp2_with fail
  go_ret
  exact ⟨rfl, (Below.refl _ _).alloc (Nat.le_refl _) _⟩
theorem verb_tick (w : World)  : Calls Tryd.prog 87 #[.agg #[]] w (TPost w (⟨#[116, 105, 99, 107]⟩)) := by
  go_enter Tryd.func87, Tryd.ntmps87
  go_wp2_with fail
  go_ret
  exact ⟨rfl, (Below.refl _ _).alloc (Nat.le_refl _) _⟩
theorem verb_query (w : World) (s : ByteArray) (h : Int) (a : Option Addr) (n c : Nat) : Calls Tryd.prog 88 #[.agg #[.string s, .int .i64 h, .slice a n c]] w (TPost w (s)) := by
  go_enter Tryd.func88, Tryd.ntmps88
  go_wp2_with fail
  go_ret
  exact ⟨rfl, (Below.refl _ _).alloc (Nat.le_refl _) _⟩
theorem verb_pair (w : World) (s : ByteArray) (a b : Int) : Calls Tryd.prog 89 #[.agg #[.string s, .int .i64 a, .int .i64 b]] w (TPost w (s)) := by
  go_enter Tryd.func89, Tryd.ntmps89
  go_wp2_with fail
  go_ret
  exact ⟨rfl, (Below.refl _ _).alloc (Nat.le_refl _) _⟩
theorem verb_import (w : World) (a : Option Addr) (n c : Nat) : Calls Tryd.prog 90 #[.agg #[.slice a n c]] w (TPost w (⟨#[105, 109, 112, 111, 114, 116]⟩)) := by
  go_enter Tryd.func90, Tryd.ntmps90
  go_wp2_with fail
  go_ret
  exact ⟨rfl, (Below.refl _ _).alloc (Nat.le_refl _) _⟩
set_option maxRecDepth 100000 in
theorem parse_a : parseV ⟨#[32, 32]⟩ = (none, 0, 0) := by kernel_rfl
set_option maxRecDepth 100000 in
theorem parse_b : parseV ⟨#[97, 100, 100, 32, 51, 32, 48, 55, 32, 49]⟩ = (none, 6, 12) := by kernel_rfl
end Go.Proofs.YtjhlpmigkbaegaaDoor
