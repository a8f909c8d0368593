/- Sets of players: how many; is one among them. -/
import Derived.Test.YtibknlfadoeglaaBetw
import Derived.BigQuiet
namespace Go.Proofs.Ytibknlfadoeglaa
set_option linter.all false
open Go.RowKit
/-- How many of the first k bits of n are set. -/
def pcK (n : Nat) : Nat → Nat
  | 0 => 0
  | k + 1 => pcK n k + n / 2 ^ k % 2
theorem pcK_le (n : Nat) : ∀ k, pcK n k ≤ k
  | 0 => Nat.le_refl _
  | k + 1 => by have := pcK_le n k; have : n / 2 ^ k % 2 < 2 := Nat.mod_lt _ (by decide); simp only [pcK]; omega
theorem pop8_pc : ∀ m : Fin 256, Lib.pop8 (m.val : Int) = (pcK m.val 8 : Int) := by decide +kernel
theorem pop8_any (x : Nat) : Lib.pop8 ((x : Int) % 256) = (pcK x 8 : Int) := by
  have h := pop8_pc ⟨x % 256, Nat.mod_lt _ (by decide)⟩
  simp only at h
  rw [show ((x : Int) % 256) = ((x % 256 : Nat) : Int) from by omega, h]
  congr 1
  simp only [pcK]
  omega
theorem pcK_add (n a : Nat) : ∀ b, pcK n (a + b) = pcK n a + pcK (n / 2 ^ a) b
  | 0 => rfl
  | b + 1 => by
    show pcK n (a + b) + n / 2 ^ (a + b) % 2 = pcK n a + (pcK (n / 2 ^ a) b + n / 2 ^ a / 2 ^ b % 2)
    rw [pcK_add n a b, Nat.pow_add, Nat.div_div_eq_div_mul, Nat.add_assoc]
theorem pc32 (n : Nat) : pcK n 32 = pcK (n / 16777216) 8 + pcK (n / 65536) 8 + pcK (n / 256) 8 + pcK n 8 := by
  have e1 := pcK_add n 8 24
  have e2 := pcK_add (n / 2 ^ 8) 8 16
  have e3 := pcK_add (n / 2 ^ 8 / 2 ^ 8) 8 8
  simp only [Nat.div_div_eq_div_mul, ← Nat.pow_add, Nat.reduceAdd, Nat.reducePow, Nat.reduceMul] at e1 e2 e3
  omega
theorem pop4 (n : Nat) (hn : n < 4294967296) : (Lib.pop8 ((n : Int) / 16777216) + Lib.pop8 ((n : Int) / 65536 % 256) + Lib.pop8 ((n : Int) / 256 % 256) + Lib.pop8 ((n : Int) % 256)) % 256 = (pcK n 32 : Int) := by
  have e0 : ((n : Int) / 16777216) = ((n / 16777216 : Nat) : Int) % 256 := by omega
  have e1 : ((n : Int) / 65536) = ((n / 65536 : Nat) : Int) := by omega
  have e2 : ((n : Int) / 256) = ((n / 256 : Nat) : Int) := by omega
  rw [e0, e1, e2, pop8_any, pop8_any, pop8_any, pop8_any]
  have := pc32 n
  have := pcK_le n 32
  omega
set_option maxRecDepth 100000 in
set_option maxHeartbeats 800000 in
theorem cnt_any (n : Nat) (w : World) (hn : n < 4294967296) :
    Calls Try.prog 196 #[.int .u32 n] w fun e w' => e = .returned (.int .i64 (pcK n 32 : Nat)) ∧ w.drew = w' := by
    have p0 : (0:Int) ≤ (n:Int) / 16777216 := by omega
    have p1 : (n:Int) / 16777216 ≤ 255 := by omega
    have q0 : bits .and .u32 ((n:Int) / 65536) 255 = (n:Int) / 65536 % 256 := by
      rw [u32_and _ _ (by omega) (by omega) (by omega) (by omega), show ((255:Int).toNat) = 2^8 - 1 from rfl, Nat.and_two_pow_sub_one_eq_mod]
      omega
    have q1 : bits .and .u32 ((n:Int) / 256) 255 = (n:Int) / 256 % 256 := by
      rw [u32_and _ _ (by omega) (by omega) (by omega) (by omega), show ((255:Int).toNat) = 2^8 - 1 from rfl, Nat.and_two_pow_sub_one_eq_mod]
      omega
    have q2 : bits .and .u32 (n:Int) 255 = (n:Int) % 256 := by
      rw [u32_and _ _ (by omega) (by omega) (by omega) (by omega), show ((255:Int).toNat) = 2^8 - 1 from rfl, Nat.and_two_pow_sub_one_eq_mod]
      omega
    go_enter Try.func196, Try.ntmps196
    go_wp2
    go_region
    go_wp2
    go_ret
    all_goals (first | exact ⟨ret_i64 (pop4 n hn), rfl⟩ | rfl)
set_option maxHeartbeats 400000 in
theorem has_any (n k : Nat) (w : World) (hn : n < 4294967296) (hk : k < 32) :
    Calls Try.prog 86 #[.int .u32 n, .int .i64 k] w fun e w' => e = .returned (.bool (n / 2 ^ k % 2 == 1)) ∧ w = w' := by
  have hp1 : 2 ^ k ≤ 2 ^ 31 := Nat.pow_le_pow_right (by decide) (by omega)
  have hp0 : 0 < 2 ^ k := Nat.pow_pos (by decide)
  have hc : ((2:Int) ^ k) = ((2 ^ k : Nat) : Int) := by simp
  obtain ⟨p, hp⟩ : ∃ p : Nat, p = 2 ^ k := ⟨_, rfl⟩
  rw [← hp] at hp1 hp0 hc ⊢
  have hd : n / p ≤ n := Nat.div_le_self _ _
  have hW : wrap64 (2 ^ k) = (p : Int) := by rw [hc]; unfold wrap64; omega
  have hc2 : ((n : Int) / (p : Int)) = ((n / p : Nat) : Int) := by simp
  obtain ⟨q, hq⟩ : ∃ q : Nat, q = n / p := ⟨_, rfl⟩
  rw [← hq] at hc2 hd ⊢
  have hW2 : wrap64 ((n : Int) / (p : Int)) = (q : Int) := by rw [hc2]; clear hc2 hq hc hW; unfold wrap64; omega
  have hz : ¬ (p : Int) = 0 := by omega
  clear hc hc2 hp hq hd
  go_enter Try.func86, Try.ntmps86
  go_wp2_with fail
  refine (between_z _ _ _ _).mono ?_
  rintro e w' ⟨rfl, rfl⟩
  go_wp2_with fail
  all_goals (go_returns; refine ⟨?_, rfl⟩)
  show Ending.returned (.bool ((q : Int) % 2 == 1)) = _
  rw [show ((q : Int) % 2 == 1) = (q % 2 == 1) from by rw [Bool.eq_iff_iff, beq_iff_eq, beq_iff_eq]; omega]
def hasB (n : Nat) (k : Int) : Bool := decide (0 ≤ k ∧ k < 32) && (n / 2 ^ k.toNat % 2 == 1)
set_option maxHeartbeats 400000 in
theorem has_z (n : Nat) (k : Int) (w : World) (hn : n < 4294967296) :
    Calls Try.prog 86 #[.int .u32 n, .int .i64 k] w fun e w' => e = .returned (.bool (hasB n k)) ∧ w = w' := by
  by_cases h : 0 ≤ k ∧ k < 32
  · obtain ⟨K, rfl⟩ := Int.eq_ofNat_of_zero_le h.1
    have hh := has_any n K w hn (by omega)
    have e : hasB n (K : Int) = (n / 2 ^ K % 2 == 1) := by simp [hasB]; intro; omega
    rw [e]; exact hh
  · have hb : (decide (0 ≤ k) && decide (k ≤ 31)) = false := by simp; omega
    have e : hasB n k = false := by simp [hasB]; omega
    rw [e]
    go_enter Try.func86, Try.ntmps86
    go_wp2_with fail
    refine (between_z _ _ _ _).mono ?_
    rintro e w' ⟨rfl, rfl⟩
    rw [hb]
    go_wp2_with fail
    go_returns
    exact ⟨rfl, rfl⟩
set_option maxRecDepth 20000 in
set_option maxHeartbeats 400000 in
theorem size_any (n : Nat) (w : World) (hn : n < 4294967296) :
    Calls Try.prog 157 #[.int .u32 n] w fun e w' => e = .returned (.int .i64 (pcK n 32 : Nat)) ∧ w = w' := by
  go_enter Try.func157, Try.ntmps157
  go_wp2_with fail
  go_loop [3, 5] (fun s i => ∃ k : Nat, k ≤ 32 ∧ i = .int .i64 k ∧ s = .int .i64 (pcK n k : Nat)) (fun _ i => 32 - (intOf i).toNat)
  case atStart => exact ⟨0, by omega, rfl, rfl⟩
  case round =>
    obtain ⟨k, hk, rfl, rfl⟩ := hrel
    by_cases hlt : k < 32
    · have hle := pcK_le n k
      obtain ⟨p, hp⟩ : ∃ p : Bool, p = (n / 2 ^ k % 2 == 1) := ⟨_, rfl⟩
      have hs : pcK n (k + 1) = pcK n k + if p = true then 1 else 0 := by
        simp only [pcK, hp, beq_iff_eq]
        have : n / 2 ^ k % 2 < 2 := Nat.mod_lt _ (by decide)
        split <;> omega
      go_wp2_with fail
      refine (has_any _ _ _ hn hlt).mono ?_
      rintro e w' ⟨rfl, rfl⟩
      rw [← hp]
      clear hp
      cases p
      · go_wp2_with fail
        go_round
        case rel => exact ⟨k + 1, by omega, by go_num, by rw [hs]; simp⟩
        case measure => simp [intOf]; omega
      · go_wp2_with fail
        go_round
        case rel => exact ⟨k + 1, by omega, by go_num, by rw [hs]; simp⟩
        case measure => simp [intOf]; omega
    · obtain rfl : k = 32 := by omega
      go_wp2_with fail
      go_ret
      exact ⟨rfl, rfl⟩
end Go.Proofs.Ytibknlfadoeglaa
