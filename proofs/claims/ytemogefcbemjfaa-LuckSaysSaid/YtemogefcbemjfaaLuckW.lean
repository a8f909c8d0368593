/- Package luck and the reference's: numbers alone. -/
import Derived.Test.YtemogefcbemjfaaBase
namespace Go.Proofs.Ytemogefcbemjfaa
open Go.RowKit

def nx (s : Nat) : Nat := (1664525 * s + 1013904223) % 4294967296
theorem nx_lt (s : Nat) : nx s < 4294967296 := Nat.mod_lt _ (by decide)
/-- n steps of a number, as a factor and a summand. -/
def lF : Nat → Nat
  | 0 => 1
  | n + 1 => lF n * 1664525 % 4294967296
def lA : Nat → Nat
  | 0 => 0
  | n + 1 => (lA n * 1664525 + 1013904223) % 4294967296
theorem lF_lt (n : Nat) : lF n < 4294967296 := by cases n <;> (unfold lF; omega)
theorem lA_lt (n : Nat) : lA n < 4294967296 := by cases n <;> (unfold lA; omega)
theorem lF_add (m n : Nat) : lF (m + n) = lF m * lF n % 4294967296 := by
  induction n with
  | zero => simp only [lF, Nat.add_zero, Nat.mul_one]; exact (Nat.mod_eq_of_lt (lF_lt m)).symm
  | succ n ih => rw [← Nat.add_assoc, lF, ih, lF, Nat.mod_mul_mod, Nat.mul_mod_mod, Nat.mul_assoc]
theorem lA_add (m n : Nat) : lA (m + n) = (lA m * lF n + lA n) % 4294967296 := by
  induction n with
  | zero => simp only [lA, lF, Nat.add_zero, Nat.mul_one]; exact (Nat.mod_eq_of_lt (lA_lt m)).symm
  | succ n ih =>
    have e : (lA m * lF n + lA n) % 4294967296 * 1664525 % 4294967296 = (lA m * (lF n * 1664525) + lA n * 1664525) % 4294967296 := by
      rw [Nat.mod_mul_mod, Nat.add_mul, Nat.mul_assoc]
    rw [← Nat.add_assoc, lA, ih, lA, lF, ← Nat.mod_add_mod, e, Nat.mod_add_mod, Nat.add_mod_mod, ← Nat.mod_add_mod (lA m * (lF n * 1664525 % 4294967296)), Nat.mul_mod_mod, Nat.mod_add_mod, Nat.add_assoc]

theorem u32w (n : Nat) : IntKind.u32.wrap (n : Int) = ((n % 4294967296 : Nat) : Int) := by
  rw [IntKind.wrap_u32]; omega
theorem ret_i {k : IntKind} {a b : Int} (h : a = b) : Ending.returned (.int k a) = .returned (.int k b) := by rw [h]

theorem nmul_bd (x y M N K : Nat) (hx : x ≤ M) (hy : y ≤ N) (hK : M * N = K) : (0 : Int) ≤ (x : Int) * (y : Int) ∧ (x : Int) * (y : Int) ≤ (K : Int) := by
  subst hK
  have h : x * y ≤ M * N := Nat.mul_le_mul hx hy
  have e : ((x * y : Nat) : Int) = (x : Int) * (y : Int) := by push_cast; rfl
  omega

set_option maxHeartbeats 800000 in
theorem next_any (s : Nat) (w : World) (hs : s < 4294967296) :
    Calls Try.prog 41 #[.int .u32 s] w fun e w' => e = .returned (.int .u32 (nx s : Nat)) ∧ w = w' := by
  go_enter Try.func41, Try.ntmps41
  go_wp2_with fail
  go_ret
  refine ⟨ret_i ?_, rfl⟩
  unfold nx; omega
set_option maxHeartbeats 800000 in
theorem luckNext_any (s : Nat) (w : World) (hs : s < 4294967296) :
    Calls Try.prog 42 #[.int .u32 s] w fun e w' => e = .returned (.int .u32 (nx s : Nat)) ∧ w = w' := by
  go_enter Try.func42, Try.ntmps42
  go_wp2_with fail
  go_ret
  refine ⟨ret_i ?_, rfl⟩
  unfold nx; omega
def bk (s : Nat) : Nat := 4276115653 * ((s + 3281063073) % 4294967296) % 4294967296
theorem bk_lt (s : Nat) : bk s < 4294967296 := Nat.mod_lt _ (by decide)
theorem nx_bk (s : Nat) (hs : s < 4294967296) : nx (bk s) = s := by
  unfold nx bk
  omega
set_option maxHeartbeats 800000 in
theorem back_any (s : Nat) (w : World) (hs : s < 4294967296) :
    Calls Try.prog 43 #[.int .u32 s] w fun e w' => e = .returned (.int .u32 (bk s : Nat)) ∧ w = w' := by
  go_enter Try.func43, Try.ntmps43
  go_wp2_with fail
  go_ret
  refine ⟨ret_i ?_, rfl⟩
  unfold bk; omega
theorem mod32_eq (a b : Nat) : ((a % 65536 * b + a / 65536 * b % 65536 * 65536) % 4294967296) = a * b % 4294967296 := by
  have e : a * b = a % 65536 * b + a / 65536 * b * 65536 := by
    have h := Nat.div_add_mod a 65536
    have h2 : (65536 * (a / 65536) + a % 65536) * b = a * b := by rw [h]
    rw [Nat.add_mul, Nat.mul_assoc, Nat.mul_comm 65536] at h2
    omega
  rw [e]
  generalize a / 65536 * b = q
  generalize a % 65536 * b = r
  omega
set_option maxHeartbeats 800000 in
theorem mod32_any (a b : Nat) (w : World) (ha : a < 4294967296) (hb : b < 4294967296) :
    Calls Try.prog 92 #[.int .i64 a, .int .i64 b] w fun e w' => e = .returned (.int .i64 (a * b % 4294967296 : Nat)) ∧ w = w' := by
  have hp := nmul_bd (a % 65536) b 65536 4294967296 281474976710656 (by omega) (by omega) (by decide)
  have hq := nmul_bd (a / 65536) b 65536 4294967296 281474976710656 (by omega) (by omega) (by decide)
  rw [Int.natCast_emod] at hp
  rw [Int.natCast_ediv] at hq
  have h1 : (0 : Int) ≤ (a : Int) % 65536 * (b : Int) := hp.1
  have h2 : (a : Int) % 65536 * (b : Int) ≤ 281474976710656 := hp.2
  have h3 : (0 : Int) ≤ (a : Int) / 65536 * (b : Int) := hq.1
  have h4 : (a : Int) / 65536 * (b : Int) ≤ 281474976710656 := hq.2
  clear hp hq
  have e := mod32_eq a b
  have E := Lib.hid e; clear e
  go_enter Try.func92, Try.ntmps92
  go_wp2_with fail
  go_ret
  refine ⟨ret_i ?_, rfl⟩
  rw [← E.out, Int.natCast_emod, Int.natCast_add, Int.natCast_mul, Int.natCast_mul, Int.natCast_emod, Int.natCast_emod, Int.natCast_mul, Int.natCast_ediv]
  rfl
set_option maxHeartbeats 800000 in
set_option maxRecDepth 20000 in
theorem pick_any (s n : Nat) (w : World) (hs : s < 4294967296) (h1 : 1 ≤ n) (h2 : n ≤ 65536) :
    Calls Try.prog 39 #[.int .u32 s, .int .i64 n] w fun e w' => e = .returned (.tuple #[.int .i64 (nx s / 65536 * n / 65536 : Nat), .int .u32 (nx s : Nat), .int .i64 0]) ∧ w = w' := by
  have hl := nx_lt s
  have hq := nmul_bd (nx s / 65536) n 65536 65536 4294967296 (by omega) (by omega) (by decide)
  rw [Int.natCast_ediv] at hq
  have h3 : (0 : Int) ≤ (nx s : Int) / 65536 * (n : Int) := hq.1
  have h4 : (nx s : Int) / 65536 * (n : Int) ≤ 4294967296 := hq.2
  clear hq
  have g1 : decide ((n : Int) < 1) = false := by simp; omega
  have g2 : decide ((65536 : Int) < (n : Int)) = false := by simp; omega
  go_enter Try.func39, Try.ntmps39
  go_wp2_with (go_at_call 41; refine (next_any _ _ hs).mono ?_; rintro e w' ⟨rfl, rfl⟩)
  go_ret3
  refine ⟨?_, rfl⟩
  rw [Int.natCast_ediv, Int.natCast_mul, Int.natCast_ediv]
  rfl
set_option maxHeartbeats 800000 in
theorem luck_any (s n : Nat) (w : World) (hs : s < 4294967296) (h1 : 1 ≤ n) (h2 : n ≤ 65536) :
    Calls Try.prog 45 #[.int .u32 s, .int .i64 n] w fun e w' => e = .returned (.tuple #[.int .i64 (nx s / 65536 * n / 65536 : Nat), .int .u32 (nx s : Nat)]) ∧ w = w' := by
  have hl := nx_lt s
  have hq := nmul_bd (nx s / 65536) n 65536 65536 4294967296 (by omega) (by omega) (by decide)
  rw [Int.natCast_ediv] at hq
  have h3 : (0 : Int) ≤ (nx s : Int) / 65536 * (n : Int) := hq.1
  have h4 : (nx s : Int) / 65536 * (n : Int) ≤ 4294967296 := hq.2
  clear hq
  go_enter Try.func45, Try.ntmps45
  go_wp2_with (go_at_call 42; refine (luckNext_any _ _ hs).mono ?_; rintro e w' ⟨rfl, rfl⟩)
  go_ret2
  refine ⟨?_, rfl⟩
  rw [Int.natCast_ediv, Int.natCast_mul, Int.natCast_ediv]
  rfl
end Go.Proofs.Ytemogefcbemjfaa
