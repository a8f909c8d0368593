/- Numbers of 32 bits: what the machine leaves, as plain naturals. -/
import Derived.Test.YtibknlfadoeglaaAmT
import Derived.Test.YtibknlfadoeglaaVoteM
namespace Go.Proofs.Ytibknlfadoeglaa
set_option linter.all false
open Go.RowKit
theorem wrap_u32 (n : Int) (h1 : 0 ≤ n) (h2 : n < 4294967296) : IntKind.u32.wrap n = n := by
  unfold IntKind.wrap
  simp only [IntKind.bits, IntKind.signed, Bool.false_and, Bool.false_eq_true, if_false]
  show n % (2 ^ 32 : Int) = n
  omega
theorem u_and (a b : Nat) (ha : a < 4294967296) (hb : b < 4294967296) : bits .and .u32 (a : Int) (b : Int) = ((a &&& b : Nat) : Int) := by
  show IntKind.u32.wrap ((BitVec.ofInt 32 (a : Int) &&& BitVec.ofInt 32 (b : Int)).toNat : Nat) = _
  rw [BitVec.toNat_and, BitVec.ofInt_natCast, BitVec.ofInt_natCast, BitVec.toNat_ofNat, BitVec.toNat_ofNat, Nat.mod_eq_of_lt (show a < 2 ^ 32 by omega), Nat.mod_eq_of_lt (show b < 2 ^ 32 by omega)]
  have : a &&& b ≤ a := Nat.and_le_left
  exact wrap_u32 _ (by omega) (by omega)
theorem u_or (a b : Nat) (ha : a < 4294967296) (hb : b < 4294967296) : bits .or .u32 (a : Int) (b : Int) = ((a ||| b : Nat) : Int) := by
  show IntKind.u32.wrap ((BitVec.ofInt 32 (a : Int) ||| BitVec.ofInt 32 (b : Int)).toNat : Nat) = _
  rw [BitVec.toNat_or, BitVec.ofInt_natCast, BitVec.ofInt_natCast, BitVec.toNat_ofNat, BitVec.toNat_ofNat, Nat.mod_eq_of_lt (show a < 2 ^ 32 by omega), Nat.mod_eq_of_lt (show b < 2 ^ 32 by omega)]
  have : a ||| b < 2 ^ 32 := Nat.or_lt_two_pow (by omega) (by omega)
  exact wrap_u32 _ (by omega) (by omega)
theorem u_andNot (a b : Nat) (ha : a < 4294967296) (hb : b < 4294967296) : bits .andNot .u32 (a : Int) (b : Int) = ((a &&& (4294967295 - b) : Nat) : Int) := by
  show IntKind.u32.wrap ((BitVec.ofInt 32 (a : Int) &&& ~~~(BitVec.ofInt 32 (b : Int))).toNat : Nat) = _
  rw [BitVec.toNat_and, BitVec.toNat_not, BitVec.ofInt_natCast, BitVec.ofInt_natCast, BitVec.toNat_ofNat, BitVec.toNat_ofNat, Nat.mod_eq_of_lt (show a < 2 ^ 32 by omega), Nat.mod_eq_of_lt (show b < 2 ^ 32 by omega)]
  have : a &&& (2 ^ 32 - 1 - b) ≤ a := Nat.and_le_left
  exact wrap_u32 _ (by omega) (by omega)
theorem fdiv_pow (m k B : Nat) (hk : k ≤ B) : (m : Int).fdiv (2 ^ min k B) = ((m / 2 ^ k : Nat) : Int) := by
  rw [Nat.min_eq_left hk, Int.fdiv_eq_ediv_of_nonneg _ (Int.le_of_lt (Int.pow_pos (by decide)))]
  simp
theorem u_shl1 (k : Nat) (hk : k < 32) : IntKind.u32.wrap (1 * 2 ^ min k IntKind.u32.bits) = ((2 ^ k : Nat) : Int) := by
  obtain ⟨h1, h2⟩ := pow31 k hk
  rw [show IntKind.u32.bits = 32 from rfl, Nat.min_eq_left (by omega), Int.one_mul]
  have : ((2 : Int) ^ k) = ((2 ^ k : Nat) : Int) := by simp
  rw [this, wrap_u32 _ (by omega) (by omega)]
theorem u_shr (m k : Nat) (hk : k < 32) : (m : Int).fdiv (2 ^ min k IntKind.u32.bits) = ((m / 2 ^ k : Nat) : Int) := fdiv_pow m k _ (by show k ≤ 32; omega)
/-- The test of a bit. -/
theorem u_bit (m k : Nat) (hm : m < 4294967296) (hk : k < 32) : decide (bits .and .u32 ((m : Int).fdiv (2 ^ min k IntKind.u32.bits)) 1 = 1) = bitB m k := by
  rw [u_shr m k hk]
  have h1 : m / 2 ^ k ≤ m := Nat.div_le_self _ _
  have := u_and (m / 2 ^ k) 1 (by omega) (by omega)
  rw [show ((1 : Nat) : Int) = 1 from rfl] at this
  rw [this, Nat.and_one_is_mod]
  unfold bitB
  rw [Bool.eq_iff_iff]
  simp only [decide_eq_true_eq, beq_iff_eq]
  omega
end Go.Proofs.Ytibknlfadoeglaa
