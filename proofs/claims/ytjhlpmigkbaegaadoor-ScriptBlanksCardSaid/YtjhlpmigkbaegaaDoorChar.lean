/- char of the reference walked. -/
import Derived.Test.YtjhlpmigkbaegaaDoorChr
namespace Go.Proofs.YtjhlpmigkbaegaaDoor
open Go.RowKit
set_option linter.unusedVariables false

theorem get_byte (s : ByteArray) (i : Nat) (h : i < s.size) : (s[i]'h).toNat = (s.get! i).toNat := by
  have := get_at s i h
  rw [Nat.add_zero] at this
  rw [this]
set_option maxRecDepth 100000 in
set_option maxHeartbeats 400000 in
theorem char_ascii (s : ByteArray) (i : Nat) (w : World) (hs : s.size ≤ 1048576) (hi : i < s.size) (h0 : (s.get! i).toNat < 128) :
    Calls Tryd.prog 20 #[.string s, .int .i64 i] w fun e w' => e = .returned (.tuple #[.int .i64 ((s.get! i).toNat : Nat), .int .i64 1]) ∧ w = w' := by
  have hb := get_byte s i hi
  have hin : (i : Int) < (s.size : Int) := by omega
  have hi0 : (0 : Int) ≤ (i : Int) := by omega
  generalize (s.get! i).toNat = b0 at *
  go_enter Tryd.func20, Tryd.ntmps20
  go_wp2
  go_ret2
  exact ⟨rfl, rfl⟩
set_option maxRecDepth 100000 in
set_option maxHeartbeats 400000 in
theorem char_bad (s : ByteArray) (i : Nat) (w : World) (hs : s.size ≤ 1048576) (hi : i < s.size) (h0 : 128 ≤ (s.get! i).toNat) (h1 : (s.get! i).toNat < 192 ∨ 248 ≤ (s.get! i).toNat) :
    Calls Tryd.prog 20 #[.string s, .int .i64 i] w fun e w' => e = .returned (.tuple #[.int .i64 0, .int .i64 0]) ∧ w = w' := by
  have hb := get_byte s i hi
  have hin : (i : Int) < (s.size : Int) := by omega
  have hi0 : (0 : Int) ≤ (i : Int) := by omega
  have hbl := (s.get! i).toNat_lt
  generalize (s.get! i).toNat = b0 at *
  have g0 : decide ((b0 : Int) < 128) = false := by simp; omega
  rcases h1 with h1 | h1
  · have g1 : decide (192 ≤ (b0 : Int)) = false := by simp; omega
    have g2 : decide (224 ≤ (b0 : Int)) = false := by simp; omega
    have g3 : decide (240 ≤ (b0 : Int)) = false := by simp; omega
    go_enter Tryd.func20, Tryd.ntmps20
    go_wp2
    go_ret2
    exact ⟨rfl, rfl⟩
  · have g1 : decide ((b0 : Int) < 224) = false := by simp; omega
    have g2 : decide ((b0 : Int) < 240) = false := by simp; omega
    have g3 : decide ((b0 : Int) < 248) = false := by simp; omega
    go_enter Tryd.func20, Tryd.ntmps20
    go_wp2
    go_ret2
    exact ⟨rfl, rfl⟩
def Rel2 (b0 b1 : Nat) (u9 u10 : Value) : Prop := (u10 = .int .i64 1 ∧ ∃ C : Int, u9 = .int .i64 C ∧ 0 ≤ C ∧ C < 32 ∧ C = ((b0 : Int) - 192)) ∨ (u10 = .int .i64 2 ∧ ∃ C : Int, u9 = .int .i64 C ∧ 0 ≤ C ∧ C < 2048 ∧ C = (((b0 : Int) - 192) * 64 + (b1 : Int) - 128) ∧ 128 ≤ b1 ∧ b1 < 192)
set_option maxRecDepth 100000 in
set_option maxHeartbeats 2000000 in
theorem char_two (s : ByteArray) (i : Nat) (w : World) (hs : s.size ≤ 1048576) (hi : i < s.size) (h0 : 192 ≤ (s.get! i).toNat) (h1 : (s.get! i).toNat < 224) (c n : Nat) (hv : chV s i = (c, n)) :
    Calls Tryd.prog 20 #[.string s, .int .i64 i] w fun e w' => e = .returned (.tuple #[.int .i64 c, .int .i64 n]) ∧ w = w' := by
  have hb := get_byte s i hi
  have hin : (i : Int) < (s.size : Int) := by omega
  have hi0 : (0 : Int) ≤ (i : Int) := by omega
  rw [chV_N] at hv
  have l1 := (s.get! (i + 1)).toNat_lt
  have l2 := (s.get! (i + 2)).toNat_lt
  have l3 := (s.get! (i + 3)).toNat_lt
  obtain ⟨v1, v2⟩ := chN_two (n := s.size - i) (b2 := (s.get! (i + 2)).toNat) (b3 := (s.get! (i + 3)).toNat) h0 h1 l1
  rw [hv] at v1 v2
  have hb1 : ∀ h : i + 1 < s.size, (s[i + 1]'h).toNat = (s.get! (i + 1)).toNat := get_byte s (i + 1)
  generalize (s.get! (i)).toNat = b0 at *
  generalize (s.get! (i + 1)).toNat = b1 at *
  generalize (s.get! (i + 2)).toNat = b2 at *
  generalize (s.get! (i + 3)).toNat = b3 at *
  clear l2
  clear l3
  have V1 := Lib.hid v1
  have V2 := Lib.hid v2
  clear v1 v2 hv
  by_cases hn : 2 ≤ s.size - i
  · have hy1 := hb1 (by omega)
    clear hb1
    have hin1 : (i : Int) + 1 < (s.size : Int) := by omega
    have g9 : decide ((s.size : Int) < (i : Int) + 2) = false := by simp; omega
    have k321183 : decide ((b0 : Int) < 128) = false := by simp; omega
    have k720292 : decide (192 ≤ (b0 : Int)) = true := by simp; omega
    have k624307 : decide ((b0 : Int) < 224) = true := by simp; omega
    have k50975 : decide (224 ≤ (b0 : Int)) = false := by simp; omega
    have k809862 : decide ((b0 : Int) < 240) = true := by simp; omega
    have k448263 : decide (240 ≤ (b0 : Int)) = false := by simp; omega
    have k233637 : decide ((b0 : Int) < 248) = true := by simp; omega
    go_enter Tryd.func20, Tryd.ntmps20
    go_wp2
    go_loop [9, 10] (fun u9 u10 => Rel2 b0 b1 u9 u10) (fun _ u10 => 3 - (intOf u10).toNat)
    case atStart => exact .inl ⟨rfl, _, rfl, by omega, by omega, rfl⟩
    case round =>
      rcases hrel with ⟨rfl, C, rfl, hC1, hC2, hc⟩ | ⟨rfl, C, rfl, hC1, hC2, hc⟩
      · have HC := Lib.hid hc; clear hc
        by_cases t1 : b1 < 128
        · have g1 : decide ((b1 : Int) < 128) = true := by simp; omega
          have V := Lib.hid (V2.out (by omega))
          go_wp2
          go_ret2
          exact ⟨by have := V.out; simp at this; rw [this.1, this.2]; rfl, rfl⟩
        · have g1 : decide ((b1 : Int) < 128) = false := by simp; omega
          by_cases t2 : 192 ≤ b1
          · have g2 : decide (192 ≤ (b1 : Int)) = true := by simp; omega
            have V := Lib.hid (V2.out (by omega))
            go_wp2
            go_ret2
            exact ⟨by have := V.out; simp at this; rw [this.1, this.2]; rfl, rfl⟩
          · have g2 : decide (192 ≤ (b1 : Int)) = false := by simp; omega
            have q1 : 128 ≤ (b1 : Int) := by omega
            have q2 : (b1 : Int) < 192 := by omega
            clear t1 t2
            go_wp2
            go_round
            case rel => exact .inr (⟨rfl, _, rfl, by omega, by omega, by have := HC.out; omega⟩)
            case measure => simp [intOf]
      · have HC := Lib.hid hc; clear hc
        obtain ⟨D, rfl⟩ := Int.eq_ofNat_of_zero_le hC1
        have hD : D = ((b0 - 192) * 64 + (b1 - 128)) := by have := HC.out; omega
        rw [← hD] at V1 V2
        have HD := Lib.hid hD
        have HCC := Lib.hid HC.out
        clear hD HC
        by_cases t1 : D < 128
        · have g1 : decide ((D : Int) < 128) = true := by simp; omega
          have V := Lib.hid (V2.out (by omega))
          go_wp2
          go_ret2
          exact ⟨by have := V.out; simp at this; rw [this.1, this.2]; rfl, rfl⟩
        · have g1 : decide ((D : Int) < 128) = false := by simp; omega
          have g2 : decide (1114111 < (D : Int)) = false := by simp; omega
          have g3 : decide (55296 ≤ (D : Int)) = false := by simp; omega
          have V := Lib.hid (V1.out (by have := HCC.out; omega))
          go_wp2
          go_ret2
          exact ⟨by have := V.out; simp at this; rw [this.1, this.2]; rfl, rfl⟩
  · have g9 : decide ((s.size : Int) < (i : Int) + 2) = true := by simp; omega
    have V := Lib.hid (V2.out (by omega))
    go_enter Tryd.func20, Tryd.ntmps20
    go_wp2
    go_ret2
    exact ⟨by have := V.out; simp at this; rw [this.1, this.2]; rfl, rfl⟩
def Rel3 (b0 b1 b2 : Nat) (u9 u10 : Value) : Prop := (u10 = .int .i64 1 ∧ ∃ C : Int, u9 = .int .i64 C ∧ 0 ≤ C ∧ C < 16 ∧ C = ((b0 : Int) - 224)) ∨ (u10 = .int .i64 2 ∧ ∃ C : Int, u9 = .int .i64 C ∧ 0 ≤ C ∧ C < 1024 ∧ C = (((b0 : Int) - 224) * 64 + (b1 : Int) - 128) ∧ 128 ≤ b1 ∧ b1 < 192) ∨ (u10 = .int .i64 3 ∧ ∃ C : Int, u9 = .int .i64 C ∧ 0 ≤ C ∧ C < 65536 ∧ C = ((((b0 : Int) - 224) * 64 + (b1 : Int) - 128) * 64 + (b2 : Int) - 128) ∧ 128 ≤ b1 ∧ b1 < 192 ∧ 128 ≤ b2 ∧ b2 < 192)
set_option maxRecDepth 100000 in
set_option maxHeartbeats 2000000 in
theorem char_three (s : ByteArray) (i : Nat) (w : World) (hs : s.size ≤ 1048576) (hi : i < s.size) (h0 : 224 ≤ (s.get! i).toNat) (h1 : (s.get! i).toNat < 240) (c n : Nat) (hv : chV s i = (c, n)) :
    Calls Tryd.prog 20 #[.string s, .int .i64 i] w fun e w' => e = .returned (.tuple #[.int .i64 c, .int .i64 n]) ∧ w = w' := by
  have hb := get_byte s i hi
  have hin : (i : Int) < (s.size : Int) := by omega
  have hi0 : (0 : Int) ≤ (i : Int) := by omega
  rw [chV_N] at hv
  have l1 := (s.get! (i + 1)).toNat_lt
  have l2 := (s.get! (i + 2)).toNat_lt
  have l3 := (s.get! (i + 3)).toNat_lt
  obtain ⟨v1, v2⟩ := chN_three (n := s.size - i) (b3 := (s.get! (i + 3)).toNat) h0 h1 l1 l2 rfl
  rw [hv] at v1 v2
  have hb1 : ∀ h : i + 1 < s.size, (s[i + 1]'h).toNat = (s.get! (i + 1)).toNat := get_byte s (i + 1)
  have hb2 : ∀ h : i + 2 < s.size, (s[i + 2]'h).toNat = (s.get! (i + 2)).toNat := get_byte s (i + 2)
  generalize (s.get! (i)).toNat = b0 at *
  generalize (s.get! (i + 1)).toNat = b1 at *
  generalize (s.get! (i + 2)).toNat = b2 at *
  generalize (s.get! (i + 3)).toNat = b3 at *
  clear l3
  have V1 := Lib.hid v1
  have V2 := Lib.hid v2
  clear v1 v2 hv
  by_cases hn : 3 ≤ s.size - i
  · have hy1 := hb1 (by omega)
    clear hb1
    have hy2 := hb2 (by omega)
    clear hb2
    have hin1 : (i : Int) + 1 < (s.size : Int) := by omega
    have hin2 : (i : Int) + 2 < (s.size : Int) := by omega
    have g9 : decide ((s.size : Int) < (i : Int) + 3) = false := by simp; omega
    have k321183 : decide ((b0 : Int) < 128) = false := by simp; omega
    have k720292 : decide (192 ≤ (b0 : Int)) = true := by simp; omega
    have k624307 : decide ((b0 : Int) < 224) = false := by simp; omega
    have k50975 : decide (224 ≤ (b0 : Int)) = true := by simp; omega
    have k809862 : decide ((b0 : Int) < 240) = true := by simp; omega
    have k448263 : decide (240 ≤ (b0 : Int)) = false := by simp; omega
    have k233637 : decide ((b0 : Int) < 248) = true := by simp; omega
    go_enter Tryd.func20, Tryd.ntmps20
    go_wp2
    go_loop [9, 10] (fun u9 u10 => Rel3 b0 b1 b2 u9 u10) (fun _ u10 => 4 - (intOf u10).toNat)
    case atStart => exact .inl ⟨rfl, _, rfl, by omega, by omega, rfl⟩
    case round =>
      rcases hrel with ⟨rfl, C, rfl, hC1, hC2, hc⟩ | ⟨rfl, C, rfl, hC1, hC2, hc⟩ | ⟨rfl, C, rfl, hC1, hC2, hc⟩
      · have HC := Lib.hid hc; clear hc
        by_cases t1 : b1 < 128
        · have g1 : decide ((b1 : Int) < 128) = true := by simp; omega
          have V := Lib.hid (V2.out (by omega))
          go_wp2
          go_ret2
          exact ⟨by have := V.out; simp at this; rw [this.1, this.2]; rfl, rfl⟩
        · have g1 : decide ((b1 : Int) < 128) = false := by simp; omega
          by_cases t2 : 192 ≤ b1
          · have g2 : decide (192 ≤ (b1 : Int)) = true := by simp; omega
            have V := Lib.hid (V2.out (by omega))
            go_wp2
            go_ret2
            exact ⟨by have := V.out; simp at this; rw [this.1, this.2]; rfl, rfl⟩
          · have g2 : decide (192 ≤ (b1 : Int)) = false := by simp; omega
            have q1 : 128 ≤ (b1 : Int) := by omega
            have q2 : (b1 : Int) < 192 := by omega
            clear t1 t2
            go_wp2
            go_round
            case rel => exact .inr (.inl ⟨rfl, _, rfl, by omega, by omega, by have := HC.out; omega⟩)
            case measure => simp [intOf]
      · have HC := Lib.hid hc; clear hc
        by_cases t1 : b2 < 128
        · have g1 : decide ((b2 : Int) < 128) = true := by simp; omega
          have V := Lib.hid (V2.out (by omega))
          go_wp2
          go_ret2
          exact ⟨by have := V.out; simp at this; rw [this.1, this.2]; rfl, rfl⟩
        · have g1 : decide ((b2 : Int) < 128) = false := by simp; omega
          by_cases t2 : 192 ≤ b2
          · have g2 : decide (192 ≤ (b2 : Int)) = true := by simp; omega
            have V := Lib.hid (V2.out (by omega))
            go_wp2
            go_ret2
            exact ⟨by have := V.out; simp at this; rw [this.1, this.2]; rfl, rfl⟩
          · have g2 : decide (192 ≤ (b2 : Int)) = false := by simp; omega
            have q1 : 128 ≤ (b2 : Int) := by omega
            have q2 : (b2 : Int) < 192 := by omega
            clear t1 t2
            go_wp2
            go_round
            case rel => exact .inr (.inr (⟨rfl, _, rfl, by omega, by omega, by have := HC.out; omega⟩))
            case measure => simp [intOf]
      · have HC := Lib.hid hc; clear hc
        obtain ⟨D, rfl⟩ := Int.eq_ofNat_of_zero_le hC1
        have hD : D = (((b0 - 224) * 64 + (b1 - 128)) * 64 + (b2 - 128)) := by have := HC.out; omega
        rw [← hD] at V1 V2
        have HD := Lib.hid hD
        have HCC := Lib.hid HC.out
        clear hD HC
        by_cases t1 : D < 2048
        · have g1 : decide ((D : Int) < 2048) = true := by simp; omega
          have V := Lib.hid (V2.out (by omega))
          go_wp2
          go_ret2
          exact ⟨by have := V.out; simp at this; rw [this.1, this.2]; rfl, rfl⟩
        · have g1 : decide ((D : Int) < 2048) = false := by simp; omega
          have g2 : decide (1114111 < (D : Int)) = false := by simp; omega
          by_cases t2 : 55296 ≤ D
          · have g3 : decide (55296 ≤ (D : Int)) = true := by simp; omega
            by_cases t3 : D ≤ 57343
            · have g4 : decide ((D : Int) ≤ 57343) = true := by simp; omega
              have V := Lib.hid (V2.out (by omega))
              go_wp2
              go_ret2
              exact ⟨by have := V.out; simp at this; rw [this.1, this.2]; rfl, rfl⟩
            · have g4 : decide ((D : Int) ≤ 57343) = false := by simp; omega
              have V := Lib.hid (V1.out (by have := HCC.out; omega))
              go_wp2
              go_ret2
              exact ⟨by have := V.out; simp at this; rw [this.1, this.2]; rfl, rfl⟩
          · have g3 : decide (55296 ≤ (D : Int)) = false := by simp; omega
            have V := Lib.hid (V1.out (by have := HCC.out; omega))
            go_wp2
            go_ret2
            exact ⟨by have := V.out; simp at this; rw [this.1, this.2]; rfl, rfl⟩
  · have g9 : decide ((s.size : Int) < (i : Int) + 3) = true := by simp; omega
    have V := Lib.hid (V2.out (by omega))
    go_enter Tryd.func20, Tryd.ntmps20
    go_wp2
    go_ret2
    exact ⟨by have := V.out; simp at this; rw [this.1, this.2]; rfl, rfl⟩
def Rel4 (b0 b1 b2 b3 : Nat) (u9 u10 : Value) : Prop := (u10 = .int .i64 1 ∧ ∃ C : Int, u9 = .int .i64 C ∧ 0 ≤ C ∧ C < 8 ∧ C = ((b0 : Int) - 240)) ∨ (u10 = .int .i64 2 ∧ ∃ C : Int, u9 = .int .i64 C ∧ 0 ≤ C ∧ C < 512 ∧ C = (((b0 : Int) - 240) * 64 + (b1 : Int) - 128) ∧ 128 ≤ b1 ∧ b1 < 192) ∨ (u10 = .int .i64 3 ∧ ∃ C : Int, u9 = .int .i64 C ∧ 0 ≤ C ∧ C < 32768 ∧ C = ((((b0 : Int) - 240) * 64 + (b1 : Int) - 128) * 64 + (b2 : Int) - 128) ∧ 128 ≤ b1 ∧ b1 < 192 ∧ 128 ≤ b2 ∧ b2 < 192) ∨ (u10 = .int .i64 4 ∧ ∃ C : Int, u9 = .int .i64 C ∧ 0 ≤ C ∧ C < 2097152 ∧ C = (((((b0 : Int) - 240) * 64 + (b1 : Int) - 128) * 64 + (b2 : Int) - 128) * 64 + (b3 : Int) - 128) ∧ 128 ≤ b1 ∧ b1 < 192 ∧ 128 ≤ b2 ∧ b2 < 192 ∧ 128 ≤ b3 ∧ b3 < 192)
set_option maxRecDepth 100000 in
set_option maxHeartbeats 2000000 in
theorem char_four (s : ByteArray) (i : Nat) (w : World) (hs : s.size ≤ 1048576) (hi : i < s.size) (h0 : 240 ≤ (s.get! i).toNat) (h1 : (s.get! i).toNat < 248) (c n : Nat) (hv : chV s i = (c, n)) :
    Calls Tryd.prog 20 #[.string s, .int .i64 i] w fun e w' => e = .returned (.tuple #[.int .i64 c, .int .i64 n]) ∧ w = w' := by
  have hb := get_byte s i hi
  have hin : (i : Int) < (s.size : Int) := by omega
  have hi0 : (0 : Int) ≤ (i : Int) := by omega
  rw [chV_N] at hv
  have l1 := (s.get! (i + 1)).toNat_lt
  have l2 := (s.get! (i + 2)).toNat_lt
  have l3 := (s.get! (i + 3)).toNat_lt
  obtain ⟨v1, v2⟩ := chN_four (n := s.size - i) h0 h1 l1 l2 l3 rfl
  rw [hv] at v1 v2
  have hb1 : ∀ h : i + 1 < s.size, (s[i + 1]'h).toNat = (s.get! (i + 1)).toNat := get_byte s (i + 1)
  have hb2 : ∀ h : i + 2 < s.size, (s[i + 2]'h).toNat = (s.get! (i + 2)).toNat := get_byte s (i + 2)
  have hb3 : ∀ h : i + 3 < s.size, (s[i + 3]'h).toNat = (s.get! (i + 3)).toNat := get_byte s (i + 3)
  generalize (s.get! (i)).toNat = b0 at *
  generalize (s.get! (i + 1)).toNat = b1 at *
  generalize (s.get! (i + 2)).toNat = b2 at *
  generalize (s.get! (i + 3)).toNat = b3 at *
  have V1 := Lib.hid v1
  have V2 := Lib.hid v2
  clear v1 v2 hv
  by_cases hn : 4 ≤ s.size - i
  · have hy1 := hb1 (by omega)
    clear hb1
    have hy2 := hb2 (by omega)
    clear hb2
    have hy3 := hb3 (by omega)
    clear hb3
    have hin1 : (i : Int) + 1 < (s.size : Int) := by omega
    have hin2 : (i : Int) + 2 < (s.size : Int) := by omega
    have hin3 : (i : Int) + 3 < (s.size : Int) := by omega
    have g9 : decide ((s.size : Int) < (i : Int) + 4) = false := by simp; omega
    have k321183 : decide ((b0 : Int) < 128) = false := by simp; omega
    have k720292 : decide (192 ≤ (b0 : Int)) = true := by simp; omega
    have k624307 : decide ((b0 : Int) < 224) = false := by simp; omega
    have k50975 : decide (224 ≤ (b0 : Int)) = true := by simp; omega
    have k809862 : decide ((b0 : Int) < 240) = false := by simp; omega
    have k448263 : decide (240 ≤ (b0 : Int)) = true := by simp; omega
    have k233637 : decide ((b0 : Int) < 248) = true := by simp; omega
    go_enter Tryd.func20, Tryd.ntmps20
    go_wp2
    go_loop [9, 10] (fun u9 u10 => Rel4 b0 b1 b2 b3 u9 u10) (fun _ u10 => 5 - (intOf u10).toNat)
    case atStart => exact .inl ⟨rfl, _, rfl, by omega, by omega, rfl⟩
    case round =>
      rcases hrel with ⟨rfl, C, rfl, hC1, hC2, hc⟩ | ⟨rfl, C, rfl, hC1, hC2, hc⟩ | ⟨rfl, C, rfl, hC1, hC2, hc⟩ | ⟨rfl, C, rfl, hC1, hC2, hc⟩
      · have HC := Lib.hid hc; clear hc
        by_cases t1 : b1 < 128
        · have g1 : decide ((b1 : Int) < 128) = true := by simp; omega
          have V := Lib.hid (V2.out (by omega))
          go_wp2
          go_ret2
          exact ⟨by have := V.out; simp at this; rw [this.1, this.2]; rfl, rfl⟩
        · have g1 : decide ((b1 : Int) < 128) = false := by simp; omega
          by_cases t2 : 192 ≤ b1
          · have g2 : decide (192 ≤ (b1 : Int)) = true := by simp; omega
            have V := Lib.hid (V2.out (by omega))
            go_wp2
            go_ret2
            exact ⟨by have := V.out; simp at this; rw [this.1, this.2]; rfl, rfl⟩
          · have g2 : decide (192 ≤ (b1 : Int)) = false := by simp; omega
            have q1 : 128 ≤ (b1 : Int) := by omega
            have q2 : (b1 : Int) < 192 := by omega
            clear t1 t2
            go_wp2
            go_round
            case rel => exact .inr (.inl ⟨rfl, _, rfl, by omega, by omega, by have := HC.out; omega⟩)
            case measure => simp [intOf]
      · have HC := Lib.hid hc; clear hc
        by_cases t1 : b2 < 128
        · have g1 : decide ((b2 : Int) < 128) = true := by simp; omega
          have V := Lib.hid (V2.out (by omega))
          go_wp2
          go_ret2
          exact ⟨by have := V.out; simp at this; rw [this.1, this.2]; rfl, rfl⟩
        · have g1 : decide ((b2 : Int) < 128) = false := by simp; omega
          by_cases t2 : 192 ≤ b2
          · have g2 : decide (192 ≤ (b2 : Int)) = true := by simp; omega
            have V := Lib.hid (V2.out (by omega))
            go_wp2
            go_ret2
            exact ⟨by have := V.out; simp at this; rw [this.1, this.2]; rfl, rfl⟩
          · have g2 : decide (192 ≤ (b2 : Int)) = false := by simp; omega
            have q1 : 128 ≤ (b2 : Int) := by omega
            have q2 : (b2 : Int) < 192 := by omega
            clear t1 t2
            go_wp2
            go_round
            case rel => exact .inr (.inr (.inl ⟨rfl, _, rfl, by omega, by omega, by have := HC.out; omega⟩))
            case measure => simp [intOf]
      · have HC := Lib.hid hc; clear hc
        by_cases t1 : b3 < 128
        · have g1 : decide ((b3 : Int) < 128) = true := by simp; omega
          have V := Lib.hid (V2.out (by omega))
          go_wp2
          go_ret2
          exact ⟨by have := V.out; simp at this; rw [this.1, this.2]; rfl, rfl⟩
        · have g1 : decide ((b3 : Int) < 128) = false := by simp; omega
          by_cases t2 : 192 ≤ b3
          · have g2 : decide (192 ≤ (b3 : Int)) = true := by simp; omega
            have V := Lib.hid (V2.out (by omega))
            go_wp2
            go_ret2
            exact ⟨by have := V.out; simp at this; rw [this.1, this.2]; rfl, rfl⟩
          · have g2 : decide (192 ≤ (b3 : Int)) = false := by simp; omega
            have q1 : 128 ≤ (b3 : Int) := by omega
            have q2 : (b3 : Int) < 192 := by omega
            clear t1 t2
            go_wp2
            go_round
            case rel => exact .inr (.inr (.inr (⟨rfl, _, rfl, by omega, by omega, by have := HC.out; omega⟩)))
            case measure => simp [intOf]
      · have HC := Lib.hid hc; clear hc
        obtain ⟨D, rfl⟩ := Int.eq_ofNat_of_zero_le hC1
        have hD : D = ((((b0 - 240) * 64 + (b1 - 128)) * 64 + (b2 - 128)) * 64 + (b3 - 128)) := by have := HC.out; omega
        rw [← hD] at V1 V2
        have HD := Lib.hid hD
        have HCC := Lib.hid HC.out
        clear hD HC
        by_cases t1 : D < 65536
        · have g1 : decide ((D : Int) < 65536) = true := by simp; omega
          have V := Lib.hid (V2.out (by omega))
          go_wp2
          go_ret2
          exact ⟨by have := V.out; simp at this; rw [this.1, this.2]; rfl, rfl⟩
        · have g1 : decide ((D : Int) < 65536) = false := by simp; omega
          by_cases t2 : 1114111 < D
          · have g2 : decide (1114111 < (D : Int)) = true := by simp; omega
            have V := Lib.hid (V2.out (by omega))
            go_wp2
            go_ret2
            exact ⟨by have := V.out; simp at this; rw [this.1, this.2]; rfl, rfl⟩
          · have g2 : decide (1114111 < (D : Int)) = false := by simp; omega
            have g3 : decide (55296 ≤ (D : Int)) = true := by simp; omega
            have g4 : decide ((D : Int) ≤ 57343) = false := by simp; omega
            have V := Lib.hid (V1.out (by have := HCC.out; omega))
            go_wp2
            go_ret2
            exact ⟨by have := V.out; simp at this; rw [this.1, this.2]; rfl, rfl⟩
  · have g9 : decide ((s.size : Int) < (i : Int) + 4) = true := by simp; omega
    have V := Lib.hid (V2.out (by omega))
    go_enter Tryd.func20, Tryd.ntmps20
    go_wp2
    go_ret2
    exact ⟨by have := V.out; simp at this; rw [this.1, this.2]; rfl, rfl⟩
theorem char_any (s : ByteArray) (i : Nat) (w : World) (hs : s.size ≤ 1048576) (hi : i < s.size) :
    Calls Tryd.prog 20 #[.string s, .int .i64 i] w fun e w' => e = .returned (.tuple #[.int .i64 ((chV s i).1 : Nat), .int .i64 ((chV s i).2 : Nat)]) ∧ w = w' := by
  have hl := (s.get! i).toNat_lt
  by_cases h1 : (s.get! i).toNat < 128
  · have e : chV s i = ((s.get! i).toNat, 1) := by rw [chV_N]; exact chN_ascii h1
    rw [e]
    exact char_ascii s i w hs hi h1
  · by_cases h2 : (s.get! i).toNat < 192 ∨ 248 ≤ (s.get! i).toNat
    · have e : chV s i = (0, 0) := by rw [chV_N]; exact chN_bad (by omega) h2 hl
      rw [e]
      exact char_bad s i w hs hi (by omega) h2
    · by_cases h3 : (s.get! i).toNat < 224
      · exact char_two s i w hs hi (by omega) h3 _ _ rfl
      · by_cases h4 : (s.get! i).toNat < 240
        · exact char_three s i w hs hi (by omega) h4 _ _ rfl
        · exact char_four s i w hs hi (by omega) (by omega) _ _ rfl
end Go.Proofs.YtjhlpmigkbaegaaDoor
