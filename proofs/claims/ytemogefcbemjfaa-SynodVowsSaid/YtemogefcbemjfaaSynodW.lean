/- Package synod: vows; the reference's. -/
import Derived.Test.YtemogefcbemjfaaBase
import Derived.Deep.QuietTactic
import Derived.BigQuiet
namespace Go.Proofs.Ytemogefcbemjfaa
open Go.RowKit

structure Vow where
  p : Int
  b : Int
  v : Int
  deriving DecidableEq
def Vow.enc (x : Vow) : List Value := [.int .i64 x.p, .int .i64 x.b, .int .i64 x.v]
def Vow.val (x : Vow) : Value := .agg #[.int .i64 x.p, .int .i64 x.b, .int .i64 x.v]
def prepR (x : Vow) (n : Int) : Vow × Bool := if 1 ≤ n ∧ n ≤ 1000000 ∧ x.p < n then (⟨n, x.b, x.v⟩, true) else (x, false)
def accR (x : Vow) (n v : Int) : Vow × Bool := if 1 ≤ n ∧ n ≤ 1000000 ∧ x.p ≤ n then (⟨n, n, v⟩, true) else (x, false)

/-- How many of the first k bits of n are set. -/
def pcK (n : Nat) : Nat → Nat
  | 0 => 0
  | k + 1 => pcK n k + n / 2 ^ k % 2
theorem pcK_le (n : Nat) : ∀ k, pcK n k ≤ k
  | 0 => Nat.le_refl _
  | k + 1 => by have := pcK_le n k; have : n / 2 ^ k % 2 < 2 := Nat.mod_lt _ (by decide); simp only [pcK]; omega
theorem pop8_pc : ∀ m : Fin 256, Lib.pop8 (m.val : Int) = (pcK m.val 8 : Int) := by decide +kernel
theorem pop8_any (x : Nat) : Lib.pop8 ((x : Int) % 256) = (pcK x 8 : Int) := by
  have h := pop8_pc ⟨x % 256, Nat.mod_lt _ (by decide)⟩
  simp only at h
  rw [show ((x : Int) % 256) = ((x % 256 : Nat) : Int) from by omega, h]
  congr 1
  simp only [pcK]
  omega
theorem pcK_add (n a : Nat) : ∀ b, pcK n (a + b) = pcK n a + pcK (n / 2 ^ a) b
  | 0 => rfl
  | b + 1 => by
    show pcK n (a + b) + n / 2 ^ (a + b) % 2 = pcK n a + (pcK (n / 2 ^ a) b + n / 2 ^ a / 2 ^ b % 2)
    rw [pcK_add n a b, Nat.pow_add, Nat.div_div_eq_div_mul, Nat.add_assoc]
theorem pc32 (n : Nat) : pcK n 32 = pcK (n / 16777216) 8 + pcK (n / 65536) 8 + pcK (n / 256) 8 + pcK n 8 := by
  have e1 := pcK_add n 8 24
  have e2 := pcK_add (n / 2 ^ 8) 8 16
  have e3 := pcK_add (n / 2 ^ 8 / 2 ^ 8) 8 8
  simp only [Nat.div_div_eq_div_mul, ← Nat.pow_add, Nat.reduceAdd, Nat.reducePow, Nat.reduceMul] at e1 e2 e3
  omega
theorem pop4 (n : Nat) (hn : n < 4294967296) : (Lib.pop8 ((n : Int) / 16777216) + Lib.pop8 ((n : Int) / 65536 % 256) + Lib.pop8 ((n : Int) / 256 % 256) + Lib.pop8 ((n : Int) % 256)) % 256 = (pcK n 32 : Int) := by
  have e0 : ((n : Int) / 16777216) = ((n / 16777216 : Nat) : Int) % 256 := by omega
  have e1 : ((n : Int) / 65536) = ((n / 65536 : Nat) : Int) := by omega
  have e2 : ((n : Int) / 256) = ((n / 256 : Nat) : Int) := by omega
  rw [e0, e1, e2, pop8_any, pop8_any, pop8_any, pop8_any]
  have := pc32 n
  have := pcK_le n 32
  omega
theorem ret_i64 {a b : Int} (h : a = b) : Ending.returned (.int .i64 a) = .returned (.int .i64 b) := by rw [h]
set_option maxRecDepth 100000 in
set_option maxHeartbeats 800000 in
theorem cnt_any (n : Nat) (w : World) (hn : n < 4294967296) :
    Calls Try.prog 94 #[.int .u32 n] w fun e w' => e = .returned (.int .i64 (pcK n 32 : Nat)) ∧ w.drew = w' := by
    have p0 : (0:Int) ≤ (n:Int) / 16777216 := by omega
    have p1 : (n:Int) / 16777216 ≤ 255 := by omega
    have q0 : bits .and .u32 ((n:Int) / 65536) 255 = (n:Int) / 65536 % 256 := by
      rw [u32_and _ _ (by omega) (by omega) (by omega) (by omega), show ((255:Int).toNat) = 2^8 - 1 from rfl, Nat.and_two_pow_sub_one_eq_mod]
      omega
    have q1 : bits .and .u32 ((n:Int) / 256) 255 = (n:Int) / 256 % 256 := by
      rw [u32_and _ _ (by omega) (by omega) (by omega) (by omega), show ((255:Int).toNat) = 2^8 - 1 from rfl, Nat.and_two_pow_sub_one_eq_mod]
      omega
    have q2 : bits .and .u32 (n:Int) 255 = (n:Int) % 256 := by
      rw [u32_and _ _ (by omega) (by omega) (by omega) (by omega), show ((255:Int).toNat) = 2^8 - 1 from rfl, Nat.and_two_pow_sub_one_eq_mod]
      omega
    go_enter Try.func94, Try.ntmps94
    go_wp2
    go_region
    go_wp2
    go_ret
    all_goals (first | exact ⟨ret_i64 (pop4 n hn), rfl⟩ | rfl)
set_option maxHeartbeats 400000 in
theorem prep_any (x : Vow) (n : Int) (w : World) :
    Calls Try.prog 47 #[x.val, .int .i64 n] w fun e w' => e = .returned (.tuple #[(prepR x n).1.val, .bool (prepR x n).2]) ∧ Below w.heap.size w w' := by
  obtain ⟨p, b, v⟩ := x
  simp only [Vow.val]
  go_enter Try.func47, Try.ntmps47
  go_wp2
  all_goals (go_returns; refine ⟨?_, by go_grown⟩)
  all_goals (simp only [prepR]; first | (rw [if_pos (by omega)]) | (rw [if_neg (by omega)]))
set_option maxHeartbeats 400000 in
theorem acc_any (x : Vow) (n u : Int) (w : World) :
    Calls Try.prog 49 #[x.val, .int .i64 n, .int .i64 u] w fun e w' => e = .returned (.tuple #[(accR x n u).1.val, .bool (accR x n u).2]) ∧ Below w.heap.size w w' := by
  obtain ⟨p, b, v⟩ := x
  simp only [Vow.val]
  go_enter Try.func49, Try.ntmps49
  go_wp2
  all_goals (go_returns; refine ⟨?_, by go_grown⟩)
  all_goals (simp only [accR]; first | (rw [if_pos (by omega)]) | (rw [if_neg (by omega)]))
set_option maxHeartbeats 400000 in
theorem between_any (n a b : Int) (w : World) :
    Calls Try.prog 29 #[.int .i64 n, .int .i64 a, .int .i64 b] w fun e w' => e = .returned (.bool (decide (a ≤ n) && decide (n ≤ b))) ∧ w = w' := by
  go_enter Try.func29, Try.ntmps29
  go_wp2
  all_goals (go_returns; refine ⟨?_, rfl⟩)
  all_goals (congr 2; first | (simp; omega) | (simp; done) | skip)
set_option maxHeartbeats 400000 in
theorem vowed_any (x : Vow) (n : Int) (w : World) :
    Calls Try.prog 48 #[x.val, .int .i64 n] w fun e w' => e = .returned (.tuple #[(prepR x n).1.val, .bool (prepR x n).2]) ∧ Below w.heap.size w w' := by
  obtain ⟨p, b, v⟩ := x
  simp only [Vow.val]
  go_enter Try.func48, Try.ntmps48
  go_wp2_with fail
  all_goals (refine (between_any _ _ _ _).mono ?_; rintro e w' ⟨rfl, rfl⟩)
  all_goals (go_wp2_with fail)
  all_goals (go_returns; refine ⟨?_, by go_grown⟩)
  all_goals (simp only [prepR, accR])
  all_goals (try simp only [bne_iff_ne, bne_eq_false_iff_eq, ne_eq, Decidable.not_not] at *)
  all_goals (first | (rw [if_pos (by omega)]) | (rw [if_neg (by omega)]))
set_option maxHeartbeats 400000 in
theorem took_any (x : Vow) (n u : Int) (w : World) :
    Calls Try.prog 50 #[x.val, .int .i64 n, .int .i64 u] w fun e w' => e = .returned (.tuple #[(accR x n u).1.val, .bool (accR x n u).2]) ∧ Below w.heap.size w w' := by
  obtain ⟨p, b, v⟩ := x
  simp only [Vow.val]
  go_enter Try.func50, Try.ntmps50
  go_wp2_with fail
  all_goals (refine (between_any _ _ _ _).mono ?_; rintro e w' ⟨rfl, rfl⟩)
  all_goals (go_wp2_with fail)
  all_goals (go_returns; refine ⟨?_, by go_grown⟩)
  all_goals (simp only [prepR, accR])
  all_goals (try simp only [bne_iff_ne, bne_eq_false_iff_eq, ne_eq, Decidable.not_not] at *)
  all_goals (first | (rw [if_pos (by omega)]) | (rw [if_neg (by omega)]))
set_option maxHeartbeats 400000 in
theorem has_any (n k : Nat) (w : World) (hn : n < 4294967296) (hk : k < 32) :
    Calls Try.prog 103 #[.int .u32 n, .int .i64 k] w fun e w' => e = .returned (.bool (n / 2 ^ k % 2 == 1)) ∧ w = w' := by
  have hp1 : 2 ^ k ≤ 2 ^ 31 := Nat.pow_le_pow_right (by decide) (by omega)
  have hp0 : 0 < 2 ^ k := Nat.pow_pos (by decide)
  have hc : ((2:Int) ^ k) = ((2 ^ k : Nat) : Int) := by simp
  obtain ⟨p, hp⟩ : ∃ p : Nat, p = 2 ^ k := ⟨_, rfl⟩
  rw [← hp] at hp1 hp0 hc ⊢
  have hd : n / p ≤ n := Nat.div_le_self _ _
  have hW : wrap64 (2 ^ k) = (p : Int) := by rw [hc]; unfold wrap64; omega
  have hc2 : ((n : Int) / (p : Int)) = ((n / p : Nat) : Int) := by simp
  obtain ⟨q, hq⟩ : ∃ q : Nat, q = n / p := ⟨_, rfl⟩
  rw [← hq] at hc2 hd ⊢
  have hW2 : wrap64 ((n : Int) / (p : Int)) = (q : Int) := by rw [hc2]; clear hc2 hq hc hW; unfold wrap64; omega
  have hz : ¬ (p : Int) = 0 := by omega
  clear hc hc2 hp hq hd
  go_enter Try.func103, Try.ntmps103
  go_wp2_with fail
  refine (between_any _ _ _ _).mono ?_
  rintro e w' ⟨rfl, rfl⟩
  go_wp2_with fail
  all_goals (go_returns; refine ⟨?_, rfl⟩)
  show Ending.returned (.bool ((q : Int) % 2 == 1)) = _
  rw [show ((q : Int) % 2 == 1) = (q % 2 == 1) from by rw [Bool.eq_iff_iff, beq_iff_eq, beq_iff_eq]; omega]
end Go.Proofs.Ytemogefcbemjfaa
