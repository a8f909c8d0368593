/- Package crc, in plain Lean: what a byte of noughts does with a sum is linear. -/
import Derived.Test.YtemogefcbemjfaaCrcS
namespace Go.Proofs.Ytemogefcbemjfaa
open Go.RowKit
structure Lin (f : Nat → Nat) : Prop where
  lt : ∀ x, x < 4294967296 → f x < 4294967296
  xor : ∀ x y, x < 4294967296 → y < 4294967296 → f (x ^^^ y) = f x ^^^ f y
theorem Lin.zero {f : Nat → Nat} (h : Lin f) : f 0 = 0 := by
  have := h.xor 0 0 (by decide) (by decide)
  simpa using this
theorem Lin.comp {f g : Nat → Nat} (hf : Lin f) (hg : Lin g) : Lin (fun x => f (g x)) :=
  ⟨fun x hx => hf.lt _ (hg.lt x hx), fun x y hx hy => by rw [hg.xor x y hx hy, hf.xor _ _ (hg.lt x hx) (hg.lt y hy)]⟩
theorem cs_lin : Lin cs := by
  refine ⟨cs_lt, fun x y hx hy => ?_⟩
  rw [cs_xor]
  unfold cs
  rcases Nat.mod_two_eq_zero_or_one x with a | a <;> rcases Nat.mod_two_eq_zero_or_one y with b | b <;> simp only [a, b, if_true, if_false, Nat.xor_zero, Nat.zero_ne_one, Nat.one_ne_zero]
  · rw [Nat.xor_assoc, Nat.xor_comm (y / 2)]
  · rw [Nat.xor_assoc, ← Nat.xor_assoc 3988292384 (y / 2), Nat.xor_comm 3988292384 (y / 2), Nat.xor_assoc (y / 2), Nat.xor_self, Nat.xor_zero]
theorem csk_lin (k : Nat) : Lin (csk k) := by
  induction k with
  | zero => exact ⟨fun _ h => h, fun _ _ _ _ => rfl⟩
  | succ k ih => exact cs_lin.comp ih
theorem csk_add (a b n : Nat) : csk (a + b) n = csk a (csk b n) := by
  induction a with
  | zero => rw [Nat.zero_add]; rfl
  | succ a ih => rw [show a + 1 + b = (a + b) + 1 from by omega]; show cs (csk (a + b) n) = cs (csk a (csk b n)); rw [ih]
/-- Two starts, one text. -/
theorem tks_two (l : List UInt8) : ∀ x y, x < 4294967296 → y < 4294967296 → tks x l ^^^ tks y l = csk (8 * l.length) (x ^^^ y) := by
  induction l with
  | nil => intro x y _ _; rfl
  | cons b l ih =>
    intro x y hx hy
    have hb := UInt8.toNat_lt b
    have e : ∀ z, tks z (b :: l) = tks (tk z b.toNat) l := fun _ => rfl
    rw [e, e, ih _ _ (tk_lt x _ hx hb) (tk_lt y _ hy hb)]
    unfold tk
    rw [← (csk_lin 8).xor _ _ (x32_lt _ _ hx (by omega)) (x32_lt _ _ hy (by omega)), ← csk_add, List.length_cons]
    have e2 : x ^^^ b.toNat ^^^ (y ^^^ b.toNat) = x ^^^ y := by
      rw [Nat.xor_comm y, ← Nat.xor_assoc, Nat.xor_assoc x, Nat.xor_self, Nat.xor_zero]
    rw [e2, show 8 * l.length + 8 = 8 * (l.length + 1) from by omega]
theorem not_xor (n : Nat) (h : n < 4294967296) : 4294967295 - n = 4294967295 ^^^ n := by
  have e2 : (BitVec.ofNat 32 4294967295 ^^^ BitVec.ofNat 32 n) = ~~~(BitVec.ofNat 32 n) := by
    have : BitVec.ofNat 32 4294967295 = BitVec.allOnes 32 := by decide
    rw [this, BitVec.allOnes_xor]
  have e3 := congrArg BitVec.toNat e2
  rw [BitVec.toNat_xor, BitVec.toNat_not, BitVec.toNat_ofNat, BitVec.toNat_ofNat, Nat.mod_eq_of_lt (show n < 2 ^ 32 from h)] at e3
  exact e3.symm
/-- Of two texts what is told of both. -/
theorem crc_join (a b : List UInt8) : crcM 0 (a ++ b) = csk (8 * b.length) (crcM 0 a) ^^^ crcM 0 b := by
  unfold crcM
  rw [tks_app]
  have hl : ∀ l : List UInt8, tks (4294967295 - 0) l < 4294967296 := fun l => tks_lt l _ (by decide)
  have ha := hl a
  have hb := hl b
  have hab := tks_lt b _ ha
  have h2 := tks_two b (tks (4294967295 - 0) a) (4294967295 - 0) ha (by decide)
  rw [not_xor _ ha, not_xor _ hb, not_xor _ hab]
  have e : (4294967295 : Nat) - 0 = 4294967295 := rfl
  rw [e] at *
  rw [Nat.xor_comm 4294967295 (tks 4294967295 a), ← h2]
  generalize tks (tks 4294967295 a) b = p
  generalize tks 4294967295 b = q
  rw [Nat.xor_assoc p, Nat.xor_comm 4294967295 q, ← Nat.xor_assoc q, Nat.xor_self, Nat.zero_xor, Nat.xor_comm]
theorem odd_xor (q : Nat) : (2 * q) ^^^ 1 = 2 * q + 1 := by
  have h1 : ((2 * q) ^^^ 1) / 2 = q := by rw [Nat.xor_div_two]; simp
  have h2 : ((2 * q) ^^^ 1) % 2 = 1 := by rw [Nat.xor_mod_two_eq_one]; omega
  omega
theorem mul_xor (a b i : Nat) : (a ^^^ b) * 2 ^ i = (a * 2 ^ i) ^^^ (b * 2 ^ i) := by
  rw [← Nat.shiftLeft_eq, ← Nat.shiftLeft_eq, ← Nat.shiftLeft_eq, Nat.shiftLeft_xor_distrib]
/-- The lowest bit is taken off. -/
theorem Lin.bit {f : Nat → Nat} (h : Lin f) (n i : Nat) (hn : n * 2 ^ i < 4294967296) : f (n * 2 ^ i) = (if n % 2 = 1 then f (2 ^ i) else 0) ^^^ f (n / 2 * 2 ^ (i + 1)) := by
  have hd := Nat.div_add_mod n 2
  have hp : n / 2 * 2 ^ (i + 1) = (2 * (n / 2)) * 2 ^ i := by rw [Nat.pow_succ, Nat.mul_comm 2 (n / 2), Nat.mul_assoc, Nat.mul_comm 2 (2 ^ i)]
  have hle : (2 * (n / 2)) * 2 ^ i ≤ n * 2 ^ i := Nat.mul_le_mul_right _ (by omega)
  rcases Nat.mod_two_eq_zero_or_one n with h0 | h1
  · rw [if_neg (by omega), Nat.zero_xor, hp]; congr 2; omega
  · have h2 : 1 * 2 ^ i ≤ n * 2 ^ i := Nat.mul_le_mul_right _ (by omega)
    rw [if_pos h1, hp, Nat.xor_comm, ← h.xor _ _ (by omega) (by omega)]
    have e : n = 2 * (n / 2) ^^^ 1 := by rw [odd_xor]; omega
    conv => lhs; rw [e, mul_xor, Nat.one_mul]
theorem tm_eq (out c n : Nat) (ho : out < 4294967296) (hc : c < 4294967296) (hn : n < 4294967296) : bits .xor .u32 (out : Int) (bits .and .u32 (c : Int) (-bits .and .u32 (n : Int) 1 % 4294967296)) = ((out ^^^ (if n % 2 = 1 then c else 0) : Nat) : Int) := by
  have h1 : bits .and .u32 (n : Int) 1 = ((n % 2 : Nat) : Int) := by
    have := u32_and_nat n 1 hn (by decide)
    rw [Nat.and_one_is_mod] at this; exact this
  rw [h1]
  rcases Nat.mod_two_eq_zero_or_one n with h0 | h0
  · rw [h0, show (-((0 : Nat) : Int) % 4294967296) = ((0 : Nat) : Int) from rfl, u32_and_nat c 0 hc (by decide), Nat.and_zero, x32 _ _ ho (by decide)]; simp
  · rw [h0, show (-((1 : Nat) : Int) % 4294967296) = ((4294967295 : Nat) : Int) from by decide, u32_and_nat c 4294967295 hc (by decide), show c &&& 4294967295 = c from by
      have := Nat.and_two_pow_sub_one_eq_mod c 32
      rw [show (2 : Nat) ^ 32 - 1 = 4294967295 from rfl] at this
      rw [this]; exact Nat.mod_eq_of_lt hc, x32 _ _ ho hc]; simp
end Go.Proofs.Ytemogefcbemjfaa
