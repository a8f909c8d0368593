/- Package luck: Skip; the reference's luckSteps (by halves) and Lucks. -/
import Derived.Test.YtemogefcbemjfaaLuckW
namespace Go.Proofs.Ytemogefcbemjfaa
open Go.RowKit

theorem lF_even (n : Nat) : lF (n + n) = lF n * lF n % 4294967296 := lF_add n n
theorem lA_even (n : Nat) : lA (n + n) = (lA n * lF n % 4294967296 + lA n) % 4294967296 := by rw [lA_add, Nat.mod_add_mod]

set_option maxHeartbeats 1000000 in
set_option maxRecDepth 20000 in
theorem steps_any (N : Nat) : ∀ (n : Nat) (w : World), n < N → n ≤ 4294967296 →
    Calls Try.prog 91 #[.int .i64 n] w fun e w' => e = .returned (.tuple #[.int .i64 (lF n : Nat), .int .i64 (lA n : Nat)]) ∧ w = w' := by
  induction N with
  | zero => intro n w h; omega
  | succ N ih =>
    intro n w h hn
    rcases Nat.eq_zero_or_pos n with rfl | hp
    · go_enter Try.func91, Try.ntmps91
      go_wp2_with fail
      go_ret2
      exact ⟨rfl, rfl⟩
    · obtain ⟨m, hm⟩ : ∃ m, m = n / 2 := ⟨_, rfl⟩
      have hdiv : (n : Int) / 2 = (m : Int) := by omega
      have hih := fun w => ih m w (by omega) (by omega)
      have IH := Lib.hid hih
      clear hih ih
      have hz : ((n : Int) == 0) = false := by simp; omega
      have f1 := lF_lt m
      have a1 := lA_lt m
      have f2 := lF_lt (m + m)
      have a2 := lA_lt (m + m)
      have ef := lF_even m
      have ea := lA_even m
      have EF := Lib.hid ef; have EA := Lib.hid ea
      clear ef ea
      have HM := Lib.hid hm; clear hm h
      have q1 : lA m * lF m % 4294967296 < 4294967296 := Nat.mod_lt _ (by decide)
      have Q1 := Lib.hid q1; clear q1
      have q2 : lF (m + m) * 1664525 % 4294967296 < 4294967296 := Nat.mod_lt _ (by decide)
      have q3 : lA (m + m) * 1664525 % 4294967296 < 4294967296 := Nat.mod_lt _ (by decide)
      have Q2 := Lib.hid q2; have Q3 := Lib.hid q3
      clear q2 q3
      rcases Nat.mod_two_eq_zero_or_one n with hev | hod
      · have ho' : (((n : Nat) : Int) % 2 == 1) = false := by simp; omega
        have hnm : n = m + m := by have := HM.out; omega
        have hres1 : lF n = lF (m + m) := by rw [← hnm]
        have hres2 : lA n = lA (m + m) := by rw [← hnm]
        have R1 := Lib.hid hres1; have R2 := Lib.hid hres2
        clear hres1 hres2 hnm hev
        go_enter Try.func91, Try.ntmps91
        go_wp2_with fail
        refine (IH.out _).mono ?_
        rintro e w1 ⟨rfl, rfl⟩
        go_wp2_with fail
        refine (mod32_any _ _ _ f1 f1).mono ?_
        rintro e w1 ⟨rfl, rfl⟩
        rw [← EF.out]
        go_wp2_with fail
        refine (mod32_any _ _ _ a1 f1).mono ?_
        rintro e w1 ⟨rfl, rfl⟩
        have q := Q1.out
        have he2 : (((lA m * lF m % 4294967296 : Nat) : Int) + (lA m : Int)) % 4294967296 = (lA (m + m) : Int) := by rw [EA.out]; omega
        generalize hx : lA m * lF m % 4294967296 = x at *
        have HX := Lib.hid hx; clear hx
        go_wp2_with fail
        go_ret2
        have HE2 := he2
        refine ⟨?_, rfl⟩
        rw [R1.out, R2.out, ← HE2]
        rfl
      · have ho' : (((n : Nat) : Int) % 2 == 1) = true := by simp; omega
        have hnm : n = m + m + 1 := by have := HM.out; omega
        have hres1 : lF n = lF (m + m) * 1664525 % 4294967296 := by rw [hnm]; rfl
        have hres2 : lA n = (lA (m + m) * 1664525 % 4294967296 + 1013904223) % 4294967296 := by rw [hnm, Nat.mod_add_mod]; rfl
        have R1 := Lib.hid hres1; have R2 := Lib.hid hres2
        clear hres1 hres2 hnm hod
        go_enter Try.func91, Try.ntmps91
        go_wp2_with fail
        refine (IH.out _).mono ?_
        rintro e w1 ⟨rfl, rfl⟩
        go_wp2_with fail
        refine (mod32_any _ _ _ f1 f1).mono ?_
        rintro e w1 ⟨rfl, rfl⟩
        rw [← EF.out]
        go_wp2_with fail
        refine (mod32_any _ _ _ a1 f1).mono ?_
        rintro e w1 ⟨rfl, rfl⟩
        have q := Q1.out
        have he2 : (((lA m * lF m % 4294967296 : Nat) : Int) + (lA m : Int)) % 4294967296 = (lA (m + m) : Int) := by rw [EA.out]; omega
        generalize hx : lA m * lF m % 4294967296 = x at *
        have HX := Lib.hid hx; clear hx
        have HE2 := Lib.hid he2; clear he2
        go_wp2_with fail
        rw [HE2.out]
        refine (mod32_any _ 1664525 _ f2 (by decide)).mono ?_
        rintro e w1 ⟨rfl, rfl⟩
        rw [← R1.out]
        go_wp2_with fail
        refine (mod32_any _ 1664525 _ a2 (by decide)).mono ?_
        rintro e w1 ⟨rfl, rfl⟩
        have q3 := Q3.out
        obtain ⟨y, hy⟩ : ∃ y, y = lA (m + m) * 1664525 % 4294967296 := ⟨_, rfl⟩
        rw [← hy] at q3 ⊢
        have he3 : ((y : Int) + 1013904223) % 4294967296 = (lA n : Int) := by rw [R2.out, ← hy]; omega
        have HY := Lib.hid hy; clear hy
        have HE3 := Lib.hid he3; clear he3
        go_wp2_with fail
        go_ret2
        refine ⟨?_, rfl⟩
        rw [← HE3.out]
        rfl

def lucks (s n : Nat) : Nat := (lF n * s % 4294967296 + lA n) % 4294967296
theorem lucks_lt (s n : Nat) : lucks s n < 4294967296 := Nat.mod_lt _ (by decide)
set_option maxHeartbeats 1000000 in
set_option maxRecDepth 20000 in
theorem lucks_any (s n : Nat) (w : World) (hs : s < 4294967296) (hn : n ≤ 4294967296) :
    Calls Try.prog 44 #[.int .u32 s, .int .i64 n] w fun e w' => e = .returned (.int .u32 (lucks s n : Nat)) ∧ w = w' := by
  have f1 := lF_lt n
  have a1 := lA_lt n
  have q : lF n * s % 4294967296 < 4294967296 := Nat.mod_lt _ (by decide)
  go_enter Try.func44, Try.ntmps44
  go_wp2_with fail
  refine (steps_any (n + 1) n _ (by omega) hn).mono ?_
  rintro e w1 ⟨rfl, rfl⟩
  go_wp2_with fail
  refine (mod32_any _ _ _ f1 hs).mono ?_
  rintro e w1 ⟨rfl, rfl⟩
  have hr : lucks s n = (lF n * s % 4294967296 + lA n) % 4294967296 := rfl
  have HR := Lib.hid hr; clear hr
  generalize lF n * s % 4294967296 = x at *
  go_wp2_with fail
  go_ret
  refine ⟨ret_i ?_, rfl⟩
  rw [HR.out]
  omega

set_option maxHeartbeats 1000000 in
set_option maxRecDepth 20000 in
theorem skip_bad (s : Nat) (n : Int) (w : World) (hn : n < 0 ∨ 4294967296 < n) :
    Calls Try.prog 38 #[.int .u32 s, .int .i64 n] w fun e w' => e = .returned (.tuple #[.int .u32 0, .int .i64 1]) ∧ w = w' := by
  rcases hn with h | h
  all_goals
    go_enter Try.func38, Try.ntmps38
    go_wp2_with fail
    go_ret2
    exact ⟨rfl, rfl⟩
theorem and_one (n : Nat) (h : n ≤ 4294967296) : bits .and .i64 (n : Int) 1 = ((n % 2 : Nat) : Int) := by
  have h1 := bits_mask .i64 63 (by decide) (fun n h0 h1 => IntWalk.i64_in n (by omega)) 1 (by decide) (n : Int) (by omega) (by omega)
  rw [show (1 : Int) = (2 : Int) ^ 1 - 1 from by decide, h1]
  omega
def SkipInv (n0 : Nat) (n f a g b : Nat) : Prop := ∃ k r, n0 = n * 2 ^ k + r ∧ f = lF r ∧ a = lA r ∧ g = lF (2 ^ k) ∧ b = lA (2 ^ k)
theorem SkipInv.lt {n0 n f a g b : Nat} (h : SkipInv n0 n f a g b) : f < 4294967296 ∧ a < 4294967296 ∧ g < 4294967296 ∧ b < 4294967296 := by
  obtain ⟨k, r, _, rfl, rfl, rfl, rfl⟩ := h
  exact ⟨lF_lt _, lA_lt _, lF_lt _, lA_lt _⟩
theorem SkipInv.odd {n0 n f a g b : Nat} (h : SkipInv n0 n f a g b) (ho : n % 2 = 1) : SkipInv n0 (n / 2) (f * g % 4294967296) ((a * g % 4294967296 + b) % 4294967296) (g * g % 4294967296) ((b * g % 4294967296 + b) % 4294967296) := by
  obtain ⟨k, r, e, rfl, rfl, rfl, rfl⟩ := h
  refine ⟨k + 1, r + 2 ^ k, ?_, (lF_add _ _).symm, ?_, ?_, ?_⟩
  · rw [e, Nat.pow_succ]
    have h2 : n = 2 * (n / 2) + 1 := by omega
    generalize 2 ^ k = p
    generalize n / 2 = q at *
    subst h2
    rw [Nat.add_mul, Nat.one_mul, Nat.mul_comm p 2, ← Nat.mul_assoc, Nat.mul_comm q 2]; omega
  · rw [lA_add, Nat.mod_add_mod]
  · rw [Nat.pow_succ, Nat.mul_two, lF_even]
  · rw [Nat.pow_succ, Nat.mul_two, lA_even]
theorem SkipInv.even {n0 n f a g b : Nat} (h : SkipInv n0 n f a g b) (ho : n % 2 = 0) : SkipInv n0 (n / 2) f a (g * g % 4294967296) ((b * g % 4294967296 + b) % 4294967296) := by
  obtain ⟨k, r, e, rfl, rfl, rfl, rfl⟩ := h
  refine ⟨k + 1, r, ?_, rfl, rfl, ?_, ?_⟩
  · rw [e, Nat.pow_succ]
    have h2 : n = 2 * (n / 2) := by omega
    generalize 2 ^ k = p
    generalize n / 2 = q at *
    subst h2
    rw [Nat.mul_comm p 2, ← Nat.mul_assoc, Nat.mul_comm q 2]
  · rw [Nat.pow_succ, Nat.mul_two, lF_even]
  · rw [Nat.pow_succ, Nat.mul_two, lA_even]

set_option maxHeartbeats 1000000 in
set_option maxRecDepth 20000 in
theorem skip_any (s n0 : Nat) (w : World) (hs : s < 4294967296) (hn : n0 ≤ 4294967296) :
    Calls Try.prog 38 #[.int .u32 s, .int .i64 n0] w fun e w' => e = .returned (.tuple #[.int .u32 (lucks s n0 : Nat), .int .i64 0]) ∧ w = w' := by
  go_enter Try.func38, Try.ntmps38
  go_wp2_with fail
  go_loop [1, 6, 7, 8, 9] (fun n f a g b => ∃ N F A G B : Nat, n = .int .i64 N ∧ f = .int .u32 F ∧ a = .int .u32 A ∧ g = .int .u32 G ∧ b = .int .u32 B ∧ N ≤ 4294967296 ∧ Hid (SkipInv n0 N F A G B)) (fun n _ _ _ _ => (intOf n).toNat)
  case atStart => exact ⟨n0, 1, 0, 1664525, 1013904223, rfl, rfl, rfl, rfl, rfl, hn, 0, 0, by omega, rfl, rfl, rfl, rfl⟩
  case round =>
    obtain ⟨N, F, A, G, B, rfl, rfl, rfl, rfl, rfl, hN, hI⟩ := hrel
    obtain ⟨l1, l2, l3, l4⟩ := SkipInv.lt hI.out
    have hand := and_one N hN
    rcases Nat.eq_zero_or_pos N with rfl | hp
    · go_wp2_with fail
      go_ret2
      refine ⟨?_, rfl⟩
      obtain ⟨k, r, e, rfl, rfl, _, _⟩ := hI.out
      obtain rfl : n0 = r := by omega
      rw [lucks, Nat.mod_add_mod, Int.natCast_emod, Int.natCast_add, Int.natCast_mul]
      rfl
    · have hp' : (0 : Int) < (N : Int) := by omega
      rcases Nat.mod_two_eq_zero_or_one N with hev | hod
      · have hst := SkipInv.even hI.out hev
        rw [hev] at hand
        have HST := Lib.hid hst; clear hst hev
        go_wp2_with fail
        go_round
        case rel =>
          refine ⟨N / 2, F, A, _, _, by go_num, rfl, rfl, ?_, ?_, by omega, HST⟩
          · rw [Int.natCast_emod, Int.natCast_mul]; rfl
          · rw [Int.natCast_emod, Int.natCast_add, Int.natCast_emod, Int.natCast_mul]; rfl
        case measure => simp [intOf]; omega
      · have hst := SkipInv.odd hI.out hod
        rw [hod] at hand
        have HST := Lib.hid hst; clear hst hod
        go_wp2_with fail
        go_round
        case rel =>
          refine ⟨N / 2, _, _, _, _, by go_num, ?_, ?_, ?_, ?_, by omega, HST⟩
          · rw [Int.natCast_emod, Int.natCast_mul]; rfl
          · rw [Int.natCast_emod, Int.natCast_add, Int.natCast_emod, Int.natCast_mul]; rfl
          · rw [Int.natCast_emod, Int.natCast_mul]; rfl
          · rw [Int.natCast_emod, Int.natCast_add, Int.natCast_emod, Int.natCast_mul]; rfl
        case measure => simp [intOf]; omega
end Go.Proofs.Ytemogefcbemjfaa
