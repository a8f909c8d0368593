/- Package mark and the reference's mixes, at one number: both give the same natural number. -/
import Derived.Test.YtibknlfadoeglaaBase
namespace Go.Proofs.Ytibknlfadoeglaa
set_option linter.all false
open Go.RowKit

def xsh (X s : Nat) : Nat := X ^^^ X / s
def mxA (n : Nat) : Nat := (n + 11400714819323198485) % 18446744073709551616
def mxB (n : Nat) : Nat := xsh (mxA n) 1073741824 * 13787848793156543929 % 18446744073709551616
def mxC (n : Nat) : Nat := xsh (mxB n) 134217728 * 10723151780598845931 % 18446744073709551616
def mx (n : Nat) : Nat := xsh (mxC n) 2147483648
theorem xsh_lt (X s : Nat) (h : X < 18446744073709551616) : xsh X s < 18446744073709551616 := by
  have hd : X / s ≤ X := Nat.div_le_self _ _
  exact Nat.xor_lt_two_pow (n := 64) h (by omega)
theorem mxA_lt (n : Nat) : mxA n < 18446744073709551616 := Nat.mod_lt _ (by decide)
theorem mxB_lt (n : Nat) : mxB n < 18446744073709551616 := Nat.mod_lt _ (by decide)
theorem mxC_lt (n : Nat) : mxC n < 18446744073709551616 := Nat.mod_lt _ (by decide)
theorem mx_lt (n : Nat) : mx n < 18446744073709551616 := xsh_lt _ _ (mxC_lt n)
theorem mxA_eq (n : Nat) : IntKind.u64.wrap ((n : Int) + 11400714819323198485) = (mxA n : Int) := by
  rw [IntKind.wrap_u64]; unfold mxA; rw [Int.natCast_emod, Int.natCast_add]; rfl
theorem xor_eq (X s : Nat) (h : X < 18446744073709551616) : bits .xor .u64 (X : Int) ((X : Int) / (s : Int)) = (xsh X s : Int) := xorShift_u64 X s h
theorem mxB_eq (n : Nat) : IntKind.u64.wrap (bits .xor .u64 (mxA n : Int) ((mxA n : Int) / 1073741824) * 13787848793156543929) = (mxB n : Int) := mixStep_u64 _ 1073741824 13787848793156543929 (mxA_lt n)
theorem mxC_eq (n : Nat) : IntKind.u64.wrap (bits .xor .u64 (mxB n : Int) ((mxB n : Int) / 134217728) * 10723151780598845931) = (mxC n : Int) := mixStep_u64 _ 134217728 10723151780598845931 (mxB_lt n)


theorem t64_step (a b P Q : Nat) (p : Int) (hp : p = (P : Int)) (hQ : Q = P * 65536) :
    IntKind.u64.wrap ((b : Int) * ((a : Int) % p) % 18446744073709551616 + IntKind.u64.wrap (IntKind.u64.wrap ((b : Int) * ((a : Int) / p % 65536)) * p)) = ((b * (a % Q) % 18446744073709551616 : Nat) : Int) := by
  subst hp hQ
  simp only [IntKind.wrap_u64]
  have e : ((b : Int) * ((a : Int) % (P : Int)) % 18446744073709551616 + ((b : Int) * ((a : Int) / (P : Int) % 65536)) % 18446744073709551616 * (P : Int) % 18446744073709551616) % 18446744073709551616 = (((b * (a % P) % 18446744073709551616 + (b * (a / P % 65536)) % 18446744073709551616 * P % 18446744073709551616) % 18446744073709551616 : Nat) : Int) := by simp only [Int.natCast_emod, Int.natCast_add, Int.natCast_mul, Int.natCast_ediv]; rfl
  rw [e]
  congr 1
  simp only [Nat.add_mod_mod, Nat.mod_add_mod, Nat.mod_mul_mod]
  congr 1
  rw [Nat.mod_mul, Nat.mul_add, Nat.mul_assoc, Nat.mul_comm P]
theorem t64_first (a b : Nat) : IntKind.u64.wrap (IntKind.u64.wrap (IntKind.u64.wrap ((b : Int) * ((a : Int) % 65536)))) = ((b * (a % 65536) % 18446744073709551616 : Nat) : Int) := by
  simp only [IntKind.wrap_u64, Int.emod_emod]
  simp only [Int.natCast_emod, Int.natCast_mul]; rfl

set_option maxHeartbeats 800000 in
theorem mix_any (n : Nat) (w : World) :
    Calls Try.prog 163 #[.int .u64 n] w fun e w' => e = .returned (.int .u64 (mx n)) ∧ w = w' := by
  go_enter Try.func163, Try.ntmps163
  go_wp2
  go_ret
  refine ⟨ret_u64 ?_, rfl⟩
  rw [mxA_eq, mxB_eq, mxC_eq]
  exact xor_eq (mxC n) 2147483648 (mxC_lt n)

set_option maxHeartbeats 800000 in
theorem times_any (a b : Nat) (ha : a < 18446744073709551616) (w : World) :
    Calls Try.prog 202 #[.int .u64 a, .int .u64 b] w fun e w' => e = .returned (.int .u64 (b * a % 18446744073709551616 : Nat)) ∧ w = w' := by
  go_enter Try.func202, Try.ntmps202
  go_wp2_with fail
  go_loop [5, 8] (fun o i => ∃ k : Nat, k ≤ 4 ∧ i = .int .i64 k ∧ o = .int .u64 (b * (a % 2 ^ (16 * k)) % 18446744073709551616 : Nat)) (fun _ i => 4 - (intOf i).toNat)
  case atStart => exact ⟨0, by omega, rfl, by simp [Nat.mod_one]⟩
  case round =>
    obtain ⟨k, hk, rfl, rfl⟩ := hrel
    by_cases h4 : k = 4
    · subst h4
      go_wp2_with fail
      go_ret
      refine ⟨ret_u64 ?_, rfl⟩
      rfl
    · have hk4 : k = 0 ∨ k = 1 ∨ k = 2 ∨ k = 3 := by omega
      clear hk h4
      rcases hk4 with rfl | rfl | rfl | rfl
      all_goals
        go_wp2_with fail
        go_round
        case measure => simp [intOf]
      case rel => exact ⟨1, by omega, rfl, congrArg (Value.int .u64) (t64_first a b)⟩
      case rel => exact ⟨2, by omega, rfl, congrArg (Value.int .u64) (t64_step a b 65536 _ _ rfl (by decide))⟩
      case rel => exact ⟨3, by omega, rfl, congrArg (Value.int .u64) (t64_step a b 4294967296 _ _ rfl (by decide))⟩
      case rel => exact ⟨4, by omega, rfl, congrArg (Value.int .u64) (t64_step a b 281474976710656 _ _ rfl (by decide))⟩

theorem xorq_eq (X S : Nat) (s : Int) (hs : s = (S : Int)) (h : X < 18446744073709551616) : bits .xor .u64 (X : Int) (IntKind.u64.wrap ((X : Int).tdiv s)) = (xsh X S : Int) := by
  subst hs
  have e : IntKind.u64.wrap ((X : Int).tdiv (S : Int)) = (X : Int) / (S : Int) := by
    rw [Int.tdiv_eq_ediv_of_nonneg (by omega), ← Int.natCast_ediv, IntKind.wrap_u64]
    have hd : X / S ≤ X := Nat.div_le_self _ _
    generalize X / S = q at hd
    omega
  rw [e]; exact xor_eq X S h
theorem xorw_eq (X S : Nat) (s : Int) (hs : s = (S : Int)) (h : X < 18446744073709551616) : bits .xor .u64 (X : Int) (IntKind.u64.wrap ((X : Int) / s)) = (xsh X S : Int) := by
  rw [← xorq_eq X S s hs h, Int.tdiv_eq_ediv_of_nonneg (by omega)]
set_option maxHeartbeats 800000 in
theorem mixed_any (n : Nat) (w : World) :
    Calls Try.prog 164 #[.int .u64 n] w fun e w' => e = .returned (.int .u64 (mx n)) ∧ w = w' := by
  go_enter Try.func164, Try.ntmps164
  go_wp2_with fail
  rw [mxA_eq, xorq_eq (mxA n) 1073741824 1073741824 rfl (mxA_lt n)]
  refine (times_any _ 13787848793156543929 (xsh_lt _ _ (mxA_lt n)) _).mono ?_
  rintro e w' ⟨rfl, rfl⟩
  rw [show (13787848793156543929 * xsh (mxA n) 1073741824 % 18446744073709551616) = mxB n from by rw [Nat.mul_comm]; rfl]
  go_wp2_with fail
  rw [xorw_eq (mxB n) 134217728 134217728 rfl (mxB_lt n)]
  refine (times_any _ 10723151780598845931 (xsh_lt _ _ (mxB_lt n)) _).mono ?_
  rintro e w' ⟨rfl, rfl⟩
  rw [show (10723151780598845931 * xsh (mxB n) 134217728 % 18446744073709551616) = mxC n from by rw [Nat.mul_comm]; rfl]
  go_wp2_with fail
  go_ret
  exact ⟨ret_u64 (xorw_eq (mxC n) 2147483648 2147483648 rfl (mxC_lt n)), rfl⟩

theorem xorN (a b : Nat) (ha : a < 18446744073709551616) (hb : b < 18446744073709551616) : bits .xor .u64 (a : Int) (b : Int) = ((a ^^^ b : Nat) : Int) := bits_xor_u64_nat a b ha hb
theorem xorN_lt (a b : Nat) (ha : a < 18446744073709551616) (hb : b < 18446744073709551616) : a ^^^ b < 18446744073709551616 := Nat.xor_lt_two_pow (n := 64) ha hb
set_option maxHeartbeats 800000 in
theorem turn_any (m n : Nat) (hm : m < 18446744073709551616) (w : World) :
    Calls Try.prog 205 #[.int .u64 m, .int .u64 n] w fun e w' => e = .returned (.int .u64 (m ^^^ mx n : Nat)) ∧ w = w' := by
  have h := xorN m (mx n) hm (mx_lt n)
  have H := Lib.hid h; clear h hm
  go_enter Try.func205, Try.ntmps205
  go_wp2_with (go_at_call 163; refine (mix_any _ _).mono ?_; rintro e w' ⟨rfl, rfl⟩)
  go_ret
  exact ⟨ret_u64 H.out, rfl⟩
end Go.Proofs.Ytibknlfadoeglaa
