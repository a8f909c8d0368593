/- Walks of package fix and of the reference's fixed numbers: what each call returns, for all integers. -/
import Derived.Test.YtemogefcbemjfaaProg
import Derived.WalkKit
import Derived.WalkSpells
import Derived.WalkLawsBesides
import Derived.Lib.Hide
import Derived.Lib.BitFns
import Derived.Laws.BitsAllLaws

namespace Go.Proofs.Ytemogefcbemjfaa
open Go.RowKit

def kp (n : Int) : Int := if 2147483647 < n then 2147483647 else if n < -2147483647 then -2147483647 else n
theorem kp_lo (n : Int) : -2147483647 ≤ kp n := by unfold kp; split <;> (try split) <;> omega
theorem kp_hi (n : Int) : kp n ≤ 2147483647 := by unfold kp; split <;> (try split) <;> omega
theorem ret_int {k : IntKind} {a b : Int} (h : a = b) : Ending.returned (.int k a) = .returned (.int k b) := by rw [h]
theorem mul_bd (x y : Int) (M N : Nat) (hx : x.natAbs ≤ M) (hy : y.natAbs ≤ N) : x * y ≤ (M * N : Nat) ∧ -((M * N : Nat) : Int) ≤ x * y := by
  have h : (x * y).natAbs ≤ M * N := by rw [Int.natAbs_mul]; exact Nat.mul_le_mul hx hy
  omega
theorem kp_mul (a b : Int) : kp a * kp b ≤ 4611686014132420609 ∧ -4611686014132420609 ≤ kp a * kp b := by
  have ha := kp_lo a
  have ha' := kp_hi a
  have hb := kp_lo b
  have hb' := kp_hi b
  have := mul_bd (kp a) (kp b) 2147483647 2147483647 (by omega) (by omega)
  omega

theorem fdiv_of (a b q r : Int) (h : b * q + r = a) (hp : (0 < b ∧ 0 ≤ r ∧ r < b) ∨ (b < 0 ∧ r ≤ 0 ∧ b < r)) : a.fdiv b = q := by
  have hb : b ≠ 0 := by omega
  have e1 : a = r + q * b := by rw [Int.mul_comm q b]; omega
  rw [e1, Int.add_mul_fdiv_right _ _ hb]
  have : r.fdiv b = 0 := by
    rcases hp with ⟨h1, h2, h3⟩ | ⟨h1, h2, h3⟩
    · rw [Int.fdiv_eq_ediv_of_nonneg _ (by omega), Int.ediv_eq_zero_of_lt h2 h3]
    · rw [← Int.neg_fdiv_neg, Int.fdiv_eq_ediv_of_nonneg _ (by omega), Int.ediv_eq_zero_of_lt (by omega) (by omega)]
  omega

theorem tdiv_facts (a b : Int) (hb : b ≠ 0) : b * a.tdiv b + a.tmod b = a ∧ (0 ≤ a → 0 ≤ a.tmod b) ∧ (a ≤ 0 → a.tmod b ≤ 0) ∧ (a.tmod b).natAbs < b.natAbs := by
  refine ⟨Int.mul_tdiv_add_tmod a b, fun h => Int.tmod_nonneg b h, fun h => ?_, ?_⟩
  · have := Int.tmod_nonneg (a := -a) b (by omega)
    rw [Int.neg_tmod] at this; omega
  · rw [Int.natAbs_tmod]; exact Nat.mod_lt _ (by omega)
theorem tdiv_abs (a b : Int) : (a.tdiv b).natAbs ≤ a.natAbs := by rw [Int.natAbs_tdiv]; exact Nat.div_le_self _ _

theorem bitLenAux_lt : ∀ (f x : Nat), x < 2 ^ f → x < 2 ^ Lib.bitLenAux f x := by
  intro f
  induction f with
  | zero => intro x h; simpa [Lib.bitLenAux] using h
  | succ f ih =>
    intro x h
    by_cases h0 : x = 0
    · subst h0; exact Nat.two_pow_pos _
    · have e : Lib.bitLenAux (f + 1) x = 1 + Lib.bitLenAux f (x / 2) := by simp [Lib.bitLenAux, h0]
      have := ih (x / 2) (by rw [Nat.pow_succ] at h; omega)
      rw [e, Nat.add_comm, Nat.pow_succ]; omega
theorem bitLen_lt (x : Nat) (h : x < 2 ^ 64) : x < 2 ^ Lib.bitLen x := bitLenAux_lt 64 x h

set_option maxHeartbeats 400000 in
theorem keep_any (a : Int) (w : World) :
    Calls Try.prog 33 #[.int .i64 a] w fun e w' => e = .returned (.int .i64 (kp a)) ∧ w = w' := by
  go_enter Try.func33, Try.ntmps33
  go_wp2
  all_goals
    go_ret
    exact ⟨ret_int (by unfold kp; (repeat' split) <;> omega), rfl⟩

set_option maxHeartbeats 400000 in
theorem kept_any (a : Int) (w : World) :
    Calls Try.prog 30 #[.int .i64 a] w fun e w' => e = .returned (.int .i64 (kp a)) ∧ w = w' := by
  go_enter Try.func30, Try.ntmps30
  go_wp2
  all_goals
    go_ret
    exact ⟨ret_int (by unfold kp; (repeat' split) <;> omega), rfl⟩

set_option maxHeartbeats 400000 in
theorem add_any (a b : Int) (w : World) :
    Calls Try.prog 34 #[.int .i64 a, .int .i64 b] w fun e w' => e = .returned (.int .i64 (kp (kp a + kp b))) ∧ w = w' := by
  have ha := kp_lo a
  have ha' := kp_hi a
  have hb := kp_lo b
  have hb' := kp_hi b
  go_enter Try.func34, Try.ntmps34
  go_wp2_with (go_at_call 33; refine (keep_any _ _).mono ?_; rintro e w' ⟨rfl, rfl⟩)
  go_ret
  exact ⟨rfl, rfl⟩

set_option maxHeartbeats 400000 in
theorem mul_any (a b : Int) (w : World) :
    Calls Try.prog 35 #[.int .i64 a, .int .i64 b] w fun e w' => e = .returned (.int .i64 (kp (kp a * kp b / 65536))) ∧ w = w' := by
  obtain ⟨h1, h2⟩ := kp_mul a b
  go_enter Try.func35, Try.ntmps35
  go_wp2_with (go_at_call 33; refine (keep_any _ _).mono ?_; rintro e w' ⟨rfl, rfl⟩)
  go_ret
  exact ⟨rfl, rfl⟩

set_option maxHeartbeats 400000 in
theorem fdown_any (a b : Int) (w : World) (hb : b ≠ 0) (h0 : -4611686018427387904 ≤ a) (h1 : a ≤ 4611686018427387904) :
    Calls Try.prog 89 #[.int .i64 a, .int .i64 b] w fun e w' => e = .returned (.int .i64 (a.fdiv b)) ∧ w = w' := by
  obtain ⟨f1, f2, f3, f4⟩ := tdiv_facts a b hb
  have f5 := tdiv_abs a b
  have F1 := Lib.hid f1; clear f1
  have g1 : -4611686018427387904 ≤ a.tdiv b := by omega
  have g2 : a.tdiv b ≤ 4611686018427387904 := by omega
  clear f5
  by_cases hm : a.tmod b = 0
  · have hf := fdiv_of a b (a.tdiv b) 0 (by have := F1.out; omega) (by omega)
    have HF := Lib.hid hf; clear hf
    go_enter Try.func89, Try.ntmps89
    go_wp2
    go_ret
    exact ⟨ret_int HF.out.symm, rfl⟩
  · have hm' : (a.tmod b != 0) = true := by simp [hm]
    rcases Int.lt_or_le a 0 with ha | ha <;> rcases Int.lt_or_le b 0 with hs | hs
    rotate_left
    · have hf : a.fdiv b = a.tdiv b - 1 := fdiv_of a b (a.tdiv b - 1) (a.tmod b + b) (by have := F1.out; rw [Int.mul_sub]; omega) (by omega)
      have HF := Lib.hid hf; clear hf f2 f3 f4
      have hA : decide (a < 0) = true := by simp; omega
      have hB : decide (b < 0) = false := by simp; omega
      clear ha hs
      go_enter Try.func89, Try.ntmps89
      go_wp2
      go_ret
      exact ⟨ret_int HF.out.symm, rfl⟩
    · have hf : a.fdiv b = a.tdiv b - 1 := fdiv_of a b (a.tdiv b - 1) (a.tmod b + b) (by have := F1.out; rw [Int.mul_sub]; omega) (by omega)
      have HF := Lib.hid hf; clear hf f2 f3 f4
      have hA : decide (a < 0) = false := by simp; omega
      have hB : decide (b < 0) = true := by simp; omega
      clear ha hs
      go_enter Try.func89, Try.ntmps89
      go_wp2
      go_ret
      exact ⟨ret_int HF.out.symm, rfl⟩
    · have hf : a.fdiv b = a.tdiv b := fdiv_of a b (a.tdiv b) (a.tmod b) F1.out (by omega)
      have HF := Lib.hid hf; clear hf f2 f3 f4
      have hA : decide (a < 0) = false := by simp; omega
      have hB : decide (b < 0) = false := by simp; omega
      clear ha hs
      go_enter Try.func89, Try.ntmps89
      go_wp2
      go_ret
      exact ⟨ret_int HF.out.symm, rfl⟩
    · have hf : a.fdiv b = a.tdiv b := fdiv_of a b (a.tdiv b) (a.tmod b) F1.out (by omega)
      have HF := Lib.hid hf; clear hf f2 f3 f4
      have hA : decide (a < 0) = true := by simp; omega
      have hB : decide (b < 0) = true := by simp; omega
      clear ha hs
      go_enter Try.func89, Try.ntmps89
      go_wp2
      go_ret
      exact ⟨ret_int HF.out.symm, rfl⟩

set_option maxHeartbeats 400000 in
theorem div_zero (a b : Int) (w : World) (hb : kp b = 0) :
    Calls Try.prog 31 #[.int .i64 a, .int .i64 b] w fun e w' => e = .returned (.tuple #[.int .i64 0, .int .i64 1]) ∧ w = w' := by
  go_enter Try.func31, Try.ntmps31
  go_wp2_with (go_at_call 33; refine (keep_any _ _).mono ?_; rintro e w' ⟨rfl, rfl⟩)
  go_ret2
  exact ⟨rfl, rfl⟩
set_option maxHeartbeats 400000 in
theorem div_some (a b : Int) (w : World) (hb : kp b ≠ 0) :
    Calls Try.prog 31 #[.int .i64 a, .int .i64 b] w fun e w' => e = .returned (.tuple #[.int .i64 (kp ((kp a * 65536).fdiv (kp b))), .int .i64 0]) ∧ w = w' := by
  have ha := kp_lo a
  have ha' := kp_hi a
  have hd := fun w => fdown_any (kp a * 65536) (kp b) w hb (by omega) (by omega)
  have HD := Lib.hid hd; clear hd
  go_enter Try.func31, Try.ntmps31
  go_wp2_with (first | (go_at_call 33; refine (keep_any _ _).mono ?_; rintro e w' ⟨rfl, rfl⟩) | (go_at_call 89; refine (HD.out _).mono ?_; rintro e w' ⟨rfl, rfl⟩))
  go_ret2
  exact ⟨rfl, rfl⟩

/-- The loop of the reference's Down, for a positive divisor. -/
theorem fdiv_pos_facts (a b : Int) (h : 0 < b) : b * a.fdiv b ≤ a ∧ a < b * a.fdiv b + b := by
  have h1 := Int.mul_fdiv_add_fmod a b
  have h2 := Int.fmod_nonneg_of_pos a h
  have h3 := Int.fmod_lt_of_pos a h
  omega

set_option maxHeartbeats 800000 in
theorem down_any (a b : Int) (w : World) (hb : b ≠ 0) (h0 : -4611686018427387904 ≤ a) (h1 : a ≤ 4611686018427387904) (h2 : -2147483648 ≤ b) (h3 : b ≤ 2147483648) :
    Calls Try.prog 36 #[.int .i64 a, .int .i64 b] w fun e w' => e = .returned (.int .i64 (a.fdiv b)) ∧ w = w' := by
  have key : ∀ (A B : Int), 0 < B → B ≤ 2147483648 → -4611686018427387904 ≤ A → A ≤ 4611686018427387904 → a.fdiv b = A.fdiv B → A.tdiv B = a.tdiv b → ((0 < b ∧ A = a ∧ B = b) ∨ (b < 0 ∧ A = -a ∧ B = -b)) →
      Calls Try.prog 36 #[.int .i64 a, .int .i64 b] w fun e w' => e = .returned (.int .i64 (a.fdiv b)) ∧ w = w' := by
    intro A B hB hB' hA hA' he het hor
    obtain ⟨f1, f2, f3, f4⟩ := tdiv_facts A B (by omega)
    have f5 := tdiv_abs A B
    obtain ⟨g1, g2⟩ := fdiv_pos_facts A B hB
    obtain ⟨T, hT⟩ : ∃ T, T = a.tdiv b := ⟨_, rfl⟩
    obtain ⟨F, hF⟩ : ∃ F, F = A.fdiv B := ⟨_, rfl⟩
    rw [← hF] at g1 g2 he
    rw [het, ← hT] at f1 f5
    have hT1 : -4611686018427387904 ≤ T := by omega
    have hT2 : T ≤ 4611686018427387904 := by omega
    have hFT : F ≤ T ∧ T ≤ F + 1 := by
      have e1 : T < F + 2 := by
        apply Int.lt_of_mul_lt_mul_left (a := B) _ (by omega)
        rw [Int.mul_add]; omega
      have e2 : F < T + 1 := by
        apply Int.lt_of_mul_lt_mul_left (a := B) _ (by omega)
        rw [Int.mul_add]; omega
      omega
    have g3 : F * B ≤ A := by rw [Int.mul_comm]; exact g1
    have g4 : A < (F + 1) * B := by rw [Int.add_mul, Int.mul_comm F]; omega
    have g5 : A - B < F * B := by rw [Int.mul_comm F]; omega
    have g6 : (F + 1) * B ≤ A + B := by rw [Int.add_mul, Int.mul_comm F]; omega
    have HE := Lib.hid he; clear he
    have hTb : -4611686018427387904 ≤ a.tdiv b ∧ a.tdiv b ≤ 4611686018427387904 := by omega
    obtain ⟨hTb1, hTb2⟩ := hTb
    clear hF f1 f2 f3 f4 f5 g1 g2 het
    rw [HE.out]
    rcases hor with ⟨hs, hA2, hB2⟩ | ⟨hs, hA2, hB2⟩
    · subst hA2 hB2
      go_enter Try.func36, Try.ntmps36
      go_wp2
      rw [← hT]
      clear hTb1 hTb2 hT
      go_loop [5] (fun q => ∃ Q : Int, (Q = F ∨ Q = F + 1) ∧ q = .int .i64 Q) (fun q => ((intOf q) - F).toNat)
      case atStart => exact ⟨T, by omega, rfl⟩
      case round =>
        obtain ⟨Q, hQ, rfl⟩ := hrel
        rcases hQ with rfl | rfl
        · go_wp2
          go_ret
          exact ⟨rfl, rfl⟩
        · go_wp2
          refine ⟨⟨_, .inl rfl, rfl⟩, ?_⟩
          simp [intOf]; omega
    · have HA := Lib.hid hA2
      have HB := Lib.hid hB2
      clear hA2 hB2
      go_enter Try.func36, Try.ntmps36
      go_wp2
      rw [← hT, ← HA.out, ← HB.out]
      clear hTb1 hTb2 hT
      go_loop [5] (fun q => ∃ Q : Int, (Q = F ∨ Q = F + 1) ∧ q = .int .i64 Q) (fun q => ((intOf q) - F).toNat)
      case atStart => exact ⟨T, by omega, rfl⟩
      case round =>
        obtain ⟨Q, hQ, rfl⟩ := hrel
        rcases hQ with rfl | rfl
        · go_wp2
          go_ret
          exact ⟨rfl, rfl⟩
        · go_wp2
          refine ⟨⟨_, .inl rfl, rfl⟩, ?_⟩
          simp [intOf]; omega
  rcases Int.lt_or_gt_of_ne hb with hn | hp
  · exact key (-a) (-b) (by omega) (by omega) (by omega) (by omega) (Int.neg_fdiv_neg a b).symm (by rw [Int.neg_tdiv, Int.tdiv_neg, Int.neg_neg]) (.inr ⟨hn, rfl, rfl⟩)
  · exact key a b hp h3 h0 h1 rfl rfl (.inl ⟨hp, rfl, rfl⟩)
end Go.Proofs.Ytemogefcbemjfaa
