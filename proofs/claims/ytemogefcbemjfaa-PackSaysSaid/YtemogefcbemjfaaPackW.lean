/- Package pack: numbers of as many bytes as they need: Put, Fold, Unfold; the reference's. -/
import Derived.Test.YtemogefcbemjfaaCrcS
import Derived.Lib.Zigzag
import Derived.Laws.BytesString
namespace Go.Proofs.Ytemogefcbemjfaa
open Go.RowKit

def I64' (n : Int) : Prop := -9223372036854775808 ≤ n ∧ n ≤ 9223372036854775807
def packF : Nat → Nat → List UInt8
  | 0, n => [UInt8.ofNat n]
  | f + 1, n => if n < 128 then [UInt8.ofNat n] else UInt8.ofNat (128 + n % 128) :: packF f (n / 128)
def packB (n : Nat) : List UInt8 := packF 9 n
def packS (n : Nat) : ByteArray := ⟨(packB n).toArray⟩
theorem packF_len (f n : Nat) : 1 ≤ (packF f n).length ∧ (packF f n).length ≤ f + 1 := by
  induction f generalizing n with
  | zero => simp [packF]
  | succ f ih =>
    have := ih (n / 128)
    simp only [packF]; split <;> simp <;> omega
theorem packS_size (n : Nat) : 1 ≤ (packS n).size ∧ (packS n).size ≤ 10 := by
  have := packF_len 9 n
  show 1 ≤ (packF 9 n).toArray.size ∧ (packF 9 n).toArray.size ≤ 10
  simpa using this
theorem packF_small (f n : Nat) (h : n < 128) : packF f n = [UInt8.ofNat n] := by cases f <;> simp [packF, h]

def foldN (n : Int) : Nat := if 0 ≤ n then (2 * n).toNat else (2 * (-(n + 1)) + 1).toNat
def unfN (n : Nat) : Int := if n % 2 = 0 then (n / 2 : Nat) else -((n / 2 : Nat) : Int) - 1
theorem foldN_lt (n : Int) (h : I64' n) : foldN n < 18446744073709551616 := by unfold I64' at h; unfold foldN; split <;> omega

theorem ret_u64 {a b : Int} (h : a = b) : Ending.returned (.int .u64 a) = .returned (.int .u64 b) := by rw [h]
theorem ret_i64p {a b : Int} (h : a = b) : Ending.returned (.int .i64 a) = .returned (.int .i64 b) := by rw [h]
theorem xor_ones (a : Nat) (h : a < 18446744073709551616) : bits .xor .u64 (a : Int) (18446744073709551615 : Int) = ((18446744073709551615 - a : Nat) : Int) := by
  have e1 : (18446744073709551615 : Int) = ((18446744073709551615 : Nat) : Int) := rfl
  rw [e1, u64_xor_nat a _ h (by decide)]
  congr 1
  have e3 := congrArg BitVec.toNat (BitVec.xor_allOnes (x := BitVec.ofNat 64 a))
  rw [BitVec.toNat_xor, BitVec.toNat_not, BitVec.toNat_ofNat, BitVec.toNat_allOnes, Nat.mod_eq_of_lt (show a < 2 ^ 64 from h)] at e3
  exact e3
theorem xor_zero64 (a : Nat) (h : a < 18446744073709551616) : bits .xor .u64 (a : Int) (0 : Int) = (a : Int) := by
  have e1 : (0 : Int) = ((0 : Nat) : Int) := rfl
  rw [e1, u64_xor_nat a _ h (by decide)]
  simp
theorem xor_i64_ones (x : Nat) (hx : x < 9223372036854775808) : bits .xor .i64 (x : Int) (-1) = -(x : Int) - 1 := by
  show IntKind.i64.wrap ((BitVec.ofInt 64 (x : Int) ^^^ BitVec.ofInt 64 (-1)).toNat : Int) = _
  rw [BitVec.xor_comm]
  exact Lib.i64_not x hx
theorem xor_i64_zero (x : Nat) (hx : x < 9223372036854775808) : bits .xor .i64 (x : Int) 0 = (x : Int) := by
  show IntKind.i64.wrap ((BitVec.ofInt 64 (x : Int) ^^^ BitVec.ofInt 64 0).toNat : Int) = _
  rw [show BitVec.ofInt 64 0 = 0#64 from by decide, BitVec.xor_zero, BitVec.ofInt_natCast, BitVec.toNat_ofNat, IntKind.wrap_i64]
  omega
set_option maxHeartbeats 800000 in
theorem fold_any (n : Int) (h : I64' n) (w : World) :
    Calls Try.prog 69 #[.int .i64 n] w fun e w' => e = .returned (.int .u64 (foldN n : Nat)) ∧ w = w' := by
  unfold I64' at h
  go_enter Try.func69, Try.ntmps69
  go_wp2_with fail
  go_returns
  refine ⟨ret_u64 ?_, rfl⟩
  unfold foldN
  simp only [IntKind.wrap_u64]
  by_cases h0 : 0 ≤ n
  · rw [if_pos h0, show n / 9223372036854775808 % 18446744073709551616 = 0 from by omega, show n % 18446744073709551616 * 2 % 18446744073709551616 = (((2 * n).toNat : Nat) : Int) from by omega, xor_zero64 _ (by omega)]
  · rw [if_neg h0, show n / 9223372036854775808 % 18446744073709551616 = 18446744073709551615 from by omega, show n % 18446744073709551616 * 2 % 18446744073709551616 = (((2 * n + 18446744073709551616).toNat : Nat) : Int) from by omega, xor_ones _ (by omega)]
    omega
set_option maxHeartbeats 800000 in
theorem folded_any (n : Int) (h : I64' n) (w : World) :
    Calls Try.prog 70 #[.int .i64 n] w fun e w' => e = .returned (.int .u64 (foldN n : Nat)) ∧ w = w' := by
  unfold I64' at h
  by_cases h0 : 0 ≤ n
  · go_enter Try.func70, Try.ntmps70
    go_wp2_with fail
    go_returns
    refine ⟨ret_u64 ?_, rfl⟩
    unfold foldN; rw [if_pos h0]; omega
  · go_enter Try.func70, Try.ntmps70
    go_wp2_with fail
    go_returns
    refine ⟨ret_u64 ?_, rfl⟩
    unfold foldN; rw [if_neg (by omega)]; omega
set_option maxHeartbeats 800000 in
theorem unfold_any (n : Nat) (h : n < 18446744073709551616) (w : World) :
    Calls Try.prog 71 #[.int .u64 n] w fun e w' => e = .returned (.int .i64 (unfN n)) ∧ w = w' := by
  go_enter Try.func71, Try.ntmps71
  go_wp2_with fail
  go_returns
  refine ⟨ret_i64p ?_, rfl⟩
  rw [Lib.u64_and1 _ (by omega) (by omega)]
  unfold unfN wrap64
  by_cases h0 : n % 2 = 0
  · rw [if_pos h0, show ((n : Int) % 2) = 0 from by omega, show ((n : Int) / 2) = ((n / 2 : Nat) : Int) from by omega]
    exact xor_i64_zero _ (by omega)
  · rw [if_neg h0, show ((n : Int) % 2) = 1 from by omega, show ((n : Int) / 2) = ((n / 2 : Nat) : Int) from by omega]
    exact xor_i64_ones _ (by omega)
set_option maxHeartbeats 800000 in
theorem unfolded_any (n : Nat) (h : n < 18446744073709551616) (w : World) :
    Calls Try.prog 72 #[.int .u64 n] w fun e w' => e = .returned (.int .i64 (unfN n)) ∧ w = w' := by
  by_cases h0 : n % 2 = 0
  · go_enter Try.func72, Try.ntmps72
    go_wp2_with fail
    go_returns
    refine ⟨ret_i64p ?_, rfl⟩
    unfold unfN; rw [if_pos h0]; omega
  · go_enter Try.func72, Try.ntmps72
    go_wp2_with fail
    go_returns
    refine ⟨ret_i64p ?_, rfl⟩
    unfold unfN; rw [if_neg (by omega)]; omega
end Go.Proofs.Ytemogefcbemjfaa
