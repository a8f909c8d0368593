/- Package crc at one byte, over a text, sealed; and the reference's. -/
import Derived.Test.YtemogefcbemjfaaBase
import Derived.Lib.ConvBytes
import Derived.Laws.IdiomStrings
import Derived.Laws.Concat
namespace Go.Proofs.Ytemogefcbemjfaa
open Go.RowKit

/-- One bit of the sum. -/
def cs (n : Nat) : Nat := n / 2 ^^^ (if n % 2 = 1 then 3988292384 else 0)
def csk : Nat → Nat → Nat
  | 0, n => n
  | k + 1, n => cs (csk k n)
theorem cs_lt (n : Nat) (h : n < 4294967296) : cs n < 4294967296 := by
  unfold cs
  refine Nat.xor_lt_two_pow (n := 32) (by omega) ?_
  split <;> decide
theorem csk_lt (k n : Nat) (h : n < 4294967296) : csk k n < 4294967296 := by
  induction k with
  | zero => exact h
  | succ k ih => exact cs_lt _ ih
theorem x32 (a b : Nat) (ha : a < 4294967296) (hb : b < 4294967296) : bits .xor .u32 (a : Int) (b : Int) = ((a ^^^ b : Nat) : Int) := u32_xor_nat a b ha hb
theorem x32_lt (a b : Nat) (ha : a < 4294967296) (hb : b < 4294967296) : a ^^^ b < 4294967296 := Nat.xor_lt_two_pow (n := 32) ha hb
theorem ret_u32 {a b : Int} (h : a = b) : Ending.returned (.int .u32 a) = .returned (.int .u32 b) := by rw [h]

/-- One byte is taken. -/
def tk (n b : Nat) : Nat := csk 8 (n ^^^ b)
theorem tk_lt (n b : Nat) (h : n < 4294967296) (hb : b < 256) : tk n b < 4294967296 := csk_lt 8 _ (x32_lt n b h (by omega))

theorem cs_eq (y : Nat) (h : y < 4294967296) : bits .xor .u32 ((y : Int) / 2) (bits .and .u32 3988292384 (-bits .and .u32 (y : Int) 1 % 4294967296)) = ((cs y : Nat) : Int) := by
  have h1 : bits .and .u32 (y : Int) 1 = ((y % 2 : Nat) : Int) := by
    have := u32_and_nat y 1 h (by decide)
    rw [Nat.and_one_is_mod] at this; exact this
  rw [h1]
  have h2 : (y : Int) / 2 = ((y / 2 : Nat) : Int) := by omega
  rw [h2]
  unfold cs
  rcases Nat.mod_two_eq_zero_or_one y with h0 | h0
  · rw [h0]
    have e : bits .and .u32 3988292384 (-((0 : Nat) : Int) % 4294967296) = ((0 : Nat) : Int) := by decide +kernel
    rw [e, x32 _ _ (by omega) (by decide)]; simp
  · rw [h0]
    have e : bits .and .u32 3988292384 (-((1 : Nat) : Int) % 4294967296) = ((3988292384 : Nat) : Int) := by decide +kernel
    rw [e, x32 _ _ (by omega) (by decide)]; simp

theorem cs_xor (x y : Nat) : cs (x ^^^ y) = (if x % 2 = y % 2 then x / 2 ^^^ y / 2 else (x / 2 ^^^ 3988292384) ^^^ y / 2) := by
  unfold cs
  rw [Nat.xor_div_two]
  by_cases h : x % 2 = y % 2
  · have : ¬ (x ^^^ y) % 2 = 1 := by rw [Nat.xor_mod_two_eq_one]; omega
    rw [if_neg this, if_pos h, Nat.xor_zero]
  · have : (x ^^^ y) % 2 = 1 := by rw [Nat.xor_mod_two_eq_one]; omega
    rw [if_pos this, if_neg h, Nat.xor_assoc, Nat.xor_comm (y / 2), ← Nat.xor_assoc]

set_option maxHeartbeats 800000 in
theorem take_any (n b : Nat) (w : World) (hn : n < 4294967296) (hb : b < 256) :
    Calls Try.prog 85 #[.int .u32 n, .int .u8 b] w fun e w' => e = .returned (.int .u32 (tk n b : Nat)) ∧ w = w' := by
  have hx := x32 n b hn (by omega)
  have hl := x32_lt n b hn (by omega)
  have e : tk n b = csk 8 (n ^^^ b) := rfl
  generalize n ^^^ b = z at hx hl e
  have E := Lib.hid e; clear e
  go_enter Try.func85, Try.ntmps85
  go_wp2_with fail
  go_loop [0, 9] (fun m i => ∃ k : Nat, k ≤ 8 ∧ i = .int .i64 k ∧ m = .int .u32 (csk k z : Nat)) (fun _ i => 8 - (intOf i).toNat)
  case atStart => exact ⟨0, by omega, rfl, rfl⟩
  case round =>
    obtain ⟨k, hk, rfl, rfl⟩ := hrel
    by_cases h8 : k < 8
    · have hlk := csk_lt k z hl
      have hs : csk (k + 1) z = cs (csk k z) := rfl
      generalize csk k z = y at *
      have hls := cs_lt y hlk
      have HS := Lib.hid hs; clear hs
      go_wp2_with fail
      go_round
      case rel => exact ⟨k + 1, by omega, by go_num, by rw [HS.out, cs_eq y hlk]⟩
      case measure => simp [intOf]; omega
    · obtain rfl : k = 8 := by omega
      go_wp2_with fail
      go_ret
      exact ⟨ret_u32 (by rw [E.out]), rfl⟩

theorem step_byte (x y k n b : Nat) (h : x ^^^ y = csk k (n ^^^ b) ∧ y = b / 2 ^ k) :
    (x % 2 = y % 2 → (x / 2) ^^^ (y / 2) = csk (k + 1) (n ^^^ b) ∧ y / 2 = b / 2 ^ (k + 1)) ∧ (x % 2 ≠ y % 2 → (x / 2 ^^^ 3988292384) ^^^ (y / 2) = csk (k + 1) (n ^^^ b) ∧ y / 2 = b / 2 ^ (k + 1)) := by
  obtain ⟨h1, h2⟩ := h
  have e1 : csk (k + 1) (n ^^^ b) = cs (x ^^^ y) := by rw [h1]; rfl
  have e2 : y / 2 = b / 2 ^ (k + 1) := by rw [h2, Nat.div_div_eq_div_mul, Nat.pow_succ]
  rw [e1, cs_xor]
  exact ⟨fun h => ⟨by rw [if_pos h], e2⟩, fun h => ⟨by rw [if_neg h], e2⟩⟩

set_option maxHeartbeats 800000 in
theorem crcByte_any (n b : Nat) (w : World) (hn : n < 4294967296) (hb : b < 256) :
    Calls Try.prog 84 #[.int .u32 n, .int .u8 b] w fun e w' => e = .returned (.int .u32 (tk n b : Nat)) ∧ w = w' := by
  go_enter Try.func84, Try.ntmps84
  go_wp2_with fail
  go_loop [0, 1, 5, 6] (fun m c _ i => ∃ k x y : Nat, k ≤ 8 ∧ i = .int .i64 k ∧ m = .int .u32 (x : Nat) ∧ c = .int .u8 (y : Nat) ∧ Hid (x ^^^ y = csk k (n ^^^ b) ∧ y = b / 2 ^ k) ∧ x < 4294967296 ∧ y < 256) (fun _ _ _ i => 8 - (intOf i).toNat)
  case atStart => exact ⟨0, n, b, by omega, rfl, rfl, rfl, ⟨rfl, by simp⟩, hn, hb⟩
  case round =>
    obtain ⟨k, x, y, hk, rfl, rfl, rfl, hI, hx, hy⟩ := hrel
    by_cases h8 : k < 8
    · obtain ⟨s1, s2⟩ := step_byte x y k n b hI
      have H1 := Lib.hid s1
      have H2 := Lib.hid s2
      have hxx := x32 (x / 2) 3988292384 (by omega) (by decide)
      have hxl := x32_lt (x / 2) 3988292384 (by omega) (by decide)
      have HXX := Lib.hid hxx
      have HXL := Lib.hid hxl
      clear s1 s2 hI hxx hxl
      by_cases hp : x % 2 = y % 2
      · have hP := Lib.hid hp
        have hb1 : ((x : Int) % 2 == 1) = ((y : Int) % 2 == 1) := by
          rw [Bool.eq_iff_iff]; simp; omega
        generalize hq : ((y : Int) % 2 == 1) = q at hb1
        clear hp
        have h2 : ((x : Int) % 2 == 1) = q := hb1
        cases q
        all_goals
          go_wp2_with fail
          go_round
          case rel => exact ⟨k + 1, x / 2, y / 2, by omega, by go_num, by go_num, by go_num, H1.out hP.out, by omega, by omega⟩
          case measure => simp [intOf]; omega
      · have hP := Lib.hid hp
        have hb1 : ((x : Int) % 2 == 1) = !((y : Int) % 2 == 1) := by
          rw [Bool.eq_iff_iff]; simp; omega
        generalize hq : ((y : Int) % 2 == 1) = q at hb1
        clear hp
        cases q
        all_goals
          simp only [Bool.not_false, Bool.not_true] at hb1
          go_wp2_with fail
          go_round
          case rel => exact ⟨k + 1, x / 2 ^^^ 3988292384, y / 2, by omega, by go_num, by have := HXX.out; rw [← this]; go_num, by go_num, H2.out hP.out, HXL.out, by omega⟩
          case measure => simp [intOf]; omega
    · obtain rfl : k = 8 := by omega
      go_wp2_with fail
      go_ret
      refine ⟨ret_u32 ?_, rfl⟩
      obtain ⟨h1, h2⟩ := hI.out
      have hy0 : y = 0 := by rw [h2]; exact Nat.div_eq_of_lt hb
      rw [hy0, Nat.xor_zero] at h1
      rw [h1]; rfl
end Go.Proofs.Ytemogefcbemjfaa
