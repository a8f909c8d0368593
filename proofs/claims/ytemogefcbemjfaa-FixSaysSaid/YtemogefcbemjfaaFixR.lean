/- Walks of fix.Root and of the reference's RootOf: both return the whole number r whose square is at most n and the next one's is not. -/
import Derived.Test.YtemogefcbemjfaaFixW
import Derived.Test.YtemogefcbemjfaaShelf
namespace Go.Proofs.Ytemogefcbemjfaa
open Go.RowKit

theorem nat_of_int_le {a b : Nat} : ((a : Int) ≤ (b : Int)) ↔ a ≤ b := Int.ofNat_le

set_option maxHeartbeats 800000 in
theorem root_neg (a : Int) (w : World) (h0 : kp a < 0) :
    Calls Try.prog 32 #[.int .i64 a] w fun e w' => e = .returned (.tuple #[.int .i64 0, .int .i64 1]) ∧ w = w' := by
  go_enter Try.func32, Try.ntmps32
  go_wp2_with (go_at_call 33; refine (keep_any _ _).mono ?_; rintro e w' ⟨rfl, rfl⟩)
  go_ret2
  exact ⟨rfl, rfl⟩

def IsRoot (n : Nat) (r : Nat) : Prop := r * r ≤ n ∧ n < (r + 1) * (r + 1)
theorem isRoot_unique {n r s : Nat} (h : IsRoot n r) (k : IsRoot n s) : r = s := by
  obtain ⟨h1, h2⟩ := h
  obtain ⟨k1, k2⟩ := k
  rcases Nat.lt_trichotomy r s with hl | hl | hl
  · have := Nat.mul_le_mul (show r + 1 ≤ s from hl) (show r + 1 ≤ s from hl); omega
  · exact hl
  · have := Nat.mul_le_mul (show s + 1 ≤ r from hl) (show s + 1 ≤ r from hl); omega
theorem square_double (R B : Nat) : (R + 2 * B) * (R + 2 * B) = R * R + 4 * (R * B) + 4 * (B * B) := by
  rw [Nat.add_mul, Nat.mul_add, Nat.mul_add, Nat.mul_comm (2 * B) R, Nat.mul_left_comm R 2 B, Nat.mul_assoc 2 B (2 * B), Nat.mul_left_comm B 2 B]; omega

def RootInv (N R B : Nat) : Prop := R * R ≤ N ∧ ((∃ j, j ≤ 23 ∧ B = 2 ^ j ∧ R % 2 ^ (j + 1) = 0 ∧ N < (R + 2 * B) * (R + 2 * B)) ∨ (B = 0 ∧ N < (R + 1) * (R + 1)))
theorem half_pow (j : Nat) : 2 ^ (j + 1) / 2 = 2 ^ j := by rw [Nat.pow_succ]; omega
theorem RootInv.step {N R B X : Nat} (h : RootInv N R B) (hB : 0 < B) (hX : X = R + B) :
    (X * X ≤ N → RootInv N X (B / 2)) ∧ (¬ X * X ≤ N → RootInv N R (B / 2)) := by
  obtain ⟨h1, ⟨j, hj, rfl, hm, hlt⟩ | ⟨rfl, _⟩⟩ := h
  · subst hX
    have hp := Nat.two_pow_pos j
    cases j with
    | zero =>
      refine ⟨fun hx => ⟨hx, .inr ⟨by decide, by simpa using hlt⟩⟩, fun hx => ⟨h1, .inr ⟨by decide, by simpa using hx⟩⟩⟩
    | succ j =>
      have e : 2 * 2 ^ j = 2 ^ (j + 1) := by rw [Nat.pow_succ]; omega
      rw [half_pow]
      refine ⟨fun hx => ⟨hx, .inl ⟨j, by omega, rfl, ?_, ?_⟩⟩, fun hx => ⟨h1, .inl ⟨j, by omega, rfl, ?_, ?_⟩⟩⟩
      · rw [Nat.add_mod_right]; exact Nat.mod_eq_zero_of_dvd (Nat.dvd_trans (Nat.pow_dvd_pow 2 (by omega)) (Nat.dvd_of_mod_eq_zero hm))
      · rw [e, Nat.add_assoc, ← Nat.two_mul]; exact hlt
      · exact Nat.mod_eq_zero_of_dvd (Nat.dvd_trans (Nat.pow_dvd_pow 2 (by omega)) (Nat.dvd_of_mod_eq_zero hm))
      · rw [e]; omega
  · omega

set_option maxHeartbeats 800000 in
theorem root_any (a : Int) (w : World) (h0 : 0 ≤ kp a) :
    Calls Try.prog 32 #[.int .i64 a] w fun e w' => (∃ r : Nat, IsRoot (kp a * 65536).toNat r ∧ e = .returned (.tuple #[.int .i64 r, .int .i64 0])) ∧ w = w' := by
  have hk1 := kp_hi a
  obtain ⟨n, hn⟩ := Int.eq_ofNat_of_zero_le h0
  rw [hn] at hk1 ⊢
  rw [show (((n : Nat) : Int) * 65536).toNat = n * 65536 from by omega]
  have HN := Lib.hid hn; clear hn h0
  have hlen : Lib.bitLen (n * 65536) ≤ 47 := Lib.bitLen_le _ _ (by omega) (by omega)
  have hlt : n * 65536 < 2 ^ Lib.bitLen (n * 65536) := bitLen_lt _ (by omega)
  obtain ⟨L, hL⟩ : ∃ L, L = Lib.bitLen (n * 65536) := ⟨_, rfl⟩
  rw [← hL] at hlen hlt
  have HL := Lib.hid hL; clear hL
  have HT := Lib.hid hlt; clear hlt
  go_enter Try.func32, Try.ntmps32
  go_wp2_with fail
  refine (keep_any _ _).mono ?_; rintro e w' ⟨rfl, rfl⟩
  rw [HN.out]
  go_wp2_with fail
  refine (Try.bits_Len64 _ _ (by omega) (by omega)).mono ?_; rintro e w' ⟨rfl, rfl⟩
  rw [show (((n : Nat) : Int) * 65536).toNat = n * 65536 from by omega, ← HL.out]
  go_wp2_with fail
  go_loop [5, 6] (fun r b => ∃ R B : Nat, r = .int .u64 R ∧ b = .int .u64 B ∧ Hid (RootInv (n * 65536) R B)) (fun _ b => (intOf b).toNat)
  case atStart =>
    have hp : (2 : Nat) ^ (L / 2) ≤ 2 ^ 23 := Nat.pow_le_pow_right (by omega) (by omega)
    refine ⟨0, 2 ^ (L / 2), rfl, ?_, ?_, .inl ⟨L / 2, by omega, rfl, by simp, ?_⟩⟩
    · have e : ((2 ^ (L / 2) : Nat) : Int) = 2 ^ (L / 2) := by push_cast; rfl
      rw [← e, IntKind.wrap_u64]
      generalize (2 : Nat) ^ (L / 2) = q at hp
      congr 1
      omega
    · simp
    · have h1 := HT.out
      have h2 : (2 : Nat) ^ L ≤ 2 ^ (2 * (L / 2 + 1)) := Nat.pow_le_pow_right (by omega) (by omega)
      rw [Nat.two_mul, Nat.pow_add, Nat.pow_succ] at h2
      rw [Nat.zero_add, Nat.mul_comm 2]
      omega
  case round =>
    obtain ⟨R, B, rfl, rfl, hI⟩ := hrel
    rcases Nat.eq_zero_or_pos B with rfl | hB0
    · have hRb : R ≤ 12000000 := by
        rcases Nat.lt_or_ge R 12000000 with h | h
        · omega
        · have := Nat.mul_le_mul h h; have := hI.out.1; omega
      go_wp2
      go_ret2
      refine ⟨⟨R, ?_, rfl⟩, rfl⟩
      obtain ⟨h1, ⟨j, hj, hB, _⟩ | ⟨_, h⟩⟩ := hI
      · have := Nat.two_pow_pos j; omega
      · exact ⟨h1, h⟩
    · obtain ⟨hX1, hX2⟩ := RootInv.step (X := R + B) hI hB0 rfl
      obtain ⟨hRR, ⟨j, hj, hB, hm, hlt⟩ | ⟨rfl, _⟩⟩ := hI.out
      rotate_left
      · omega
      have hB23 : B ≤ 8388608 := by rw [hB]; exact Nat.pow_le_pow_right (by omega) hj
      have hRb : R ≤ 12000000 := by
        rcases Nat.lt_or_ge 12000000 R with h | h
        · have := Nat.mul_le_mul h h; omega
        · exact h
      have hor : bits .or .u64 (R : Int) (B : Int) = ((R + B : Nat) : Int) := by
        rw [u64_or_nat _ _ (by omega) (by omega)]; rw [nat_join (j+1) R B hm (by rw [hB]; exact Nat.pow_lt_pow_right (by omega) (by omega))]
      obtain ⟨X, hX⟩ : ∃ X, X = R + B := ⟨_, rfl⟩
      rw [← hX] at hor hX1 hX2
      have hXX : X * X ≤ 31000000 * 31000000 := Nat.mul_le_mul (by omega) (by omega)
      have e2 : ((X * X : Nat) : Int) = (X : Int) * X := by push_cast; rfl
      have hXi : (X : Int) * X ≤ 1000000000000000 := by omega
      have hXX0 : (0 : Int) ≤ (X : Int) * X := by omega
      have H1 := Lib.hid hX1
      have H2 := Lib.hid hX2
      have E2 := Lib.hid e2
      clear hX hRR hB hm hlt hX1 hX2 e2 hXX
      have hB0' : (0 : Int) < (B : Int) := by omega
      by_cases hc : (X : Int) * X ≤ (n : Int) * 65536
      · go_wp2
        go_round
        case rel => exact ⟨X, B / 2, rfl, by go_num, H1.out (by have := E2.out; omega)⟩
        case measure => simp [intOf]; omega
      · go_wp2
        go_round
        case rel => exact ⟨R, B / 2, rfl, by go_num, H2.out (by have := E2.out; omega)⟩
        case measure => simp [intOf]; omega

set_option maxHeartbeats 800000 in
theorem rootOf_any (n r : Nat) (w : World) (h0 : n ≤ 140737488289792) (hr : IsRoot n r) :
    Calls Try.prog 37 #[.int .i64 n] w fun e w' => e = .returned (.int .i64 r) ∧ w = w' := by
  have HR := Lib.hid hr; clear hr
  go_enter Try.func37, Try.ntmps37
  go_wp2_with fail
  go_loop [3, 4] (fun l h => ∃ L H : Nat, l = .int .i64 L ∧ h = .int .i64 H ∧ L ≤ H ∧ H ≤ 268435456 ∧ Hid (L ≤ r ∧ r ≤ H)) (fun l h => ((intOf h) - (intOf l)).toNat)
  case atStart =>
    refine ⟨0, 268435456, rfl, rfl, by omega, by omega, by omega, ?_⟩
    rcases Nat.lt_or_ge 268435456 r with h | h
    · have := Nat.mul_le_mul h h; have := HR.out.1; omega
    · exact h
  case round =>
    obtain ⟨L, H, rfl, rfl, hLH, hH, hI⟩ := hrel
    by_cases hlt : L < H
    · obtain ⟨M, hM⟩ : ∃ M, M = (L + H + 1) / 2 := ⟨_, rfl⟩
      have hMM : M * M ≤ 268435456 * 268435456 := Nat.mul_le_mul (by omega) (by omega)
      have e2 : ((M * M : Nat) : Int) = (M : Int) * M := by push_cast; rfl
      have hm : ((L : Int) + (H : Int) + 1) / 2 = (M : Int) := by omega
      have hMi : (M : Int) * M ≤ 72057594037927936 := by omega
      have hM0 : (0 : Int) ≤ (M : Int) * M := by omega
      have h1 : M * M ≤ n → M ≤ r := fun h => by
        rcases Nat.lt_or_ge r M with hx | hx
        · have := Nat.mul_le_mul (show r + 1 ≤ M from hx) (show r + 1 ≤ M from hx); have := HR.out.2; omega
        · exact hx
      have h2 : ¬ M * M ≤ n → r ≤ M - 1 := fun h => by
        rcases Nat.lt_or_ge r M with hx | hx
        · omega
        · have := Nat.mul_le_mul hx hx; have := HR.out.1; omega
      have H1 := Lib.hid h1
      have H2 := Lib.hid h2
      have E2 := Lib.hid e2
      have hMl : L < M := by omega
      have hMh : M ≤ H := by omega
      clear h1 h2 e2 hM hMM
      by_cases hc : (M : Int) * M ≤ (n : Int)
      · go_wp2
        go_round
        case rel => exact ⟨M, H, by rw [hm], rfl, by omega, by omega, H1.out (by have := E2.out; omega), hI.out.2⟩
        case measure => simp [intOf]; omega
      · go_wp2
        go_round
        case rel => exact ⟨L, M - 1, rfl, by go_num, by omega, by omega, hI.out.1, H2.out (by have := E2.out; omega)⟩
        case measure => simp [intOf]; omega
    · go_wp2
      go_ret
      exact ⟨ret_int (by have := hI.out; omega), rfl⟩
end Go.Proofs.Ytemogefcbemjfaa
