/- The reference's line. -/
import Derived.Test.YtemogefcbemjfaaLineC
import Derived.Deep.RegionHeld3
namespace Go.Proofs.Ytemogefcbemjfaa
open Go.RowKit

theorem mul_bound (n : Nat) (y : Int) (N Y : Nat) (hn : n ≤ N) (hy : -(Y : Int) ≤ y ∧ y ≤ Y) : -((N * Y : Nat) : Int) ≤ (n : Int) * y ∧ (n : Int) * y ≤ ((N * Y : Nat) : Int) := by
  have h1 : (n : Int) * y ≤ (n : Int) * Y := Int.mul_le_mul_of_nonneg_left hy.2 (by omega)
  have h2 : (n : Int) * (-(Y : Int)) ≤ (n : Int) * y := Int.mul_le_mul_of_nonneg_left hy.1 (by omega)
  have h3 : (n : Int) * Y ≤ ((N * Y : Nat) : Int) := by rw [Int.natCast_mul]; exact Int.mul_le_mul_of_nonneg_right (by omega) (by omega)
  rw [Int.mul_neg] at h2
  omega
/-- z1 is nearer, or as near and farther on. -/
def Beats (n T t z1 z2 : Int) : Prop := (n * z1 - T).natAbs < (n * z2 - T).natAbs ∨ ((n * z1 - T).natAbs = (n * z2 - T).natAbs ∧ (z1 - t).natAbs < (z2 - t).natAbs)
theorem best_beats (n m k : Nat) (f t s : Int) (hn : 0 < n) (_ : m ≤ n) (hk : k ≤ n) (hs : s = 1 ∨ s = -1) (ht : t = f + s * m) (z : Int) (_ : min f t ≤ z ∧ z ≤ max f t) (hne : z ≠ f + s * lq n m k) :
    Beats n (n * f + k * (t - f)) t (f + s * lq n m k) z := by
  have hq := lq_le n m k hn hk
  have hd := Nat.div_add_mod (2 * k * m + n) (2 * n)
  have hlt : (2 * k * m + n) % (2 * n) < 2 * n := Nat.mod_lt _ (by omega)
  have hq2 : lq n m k = (2 * k * m + n) / (2 * n) := rfl
  rw [← hq2] at hd
  generalize (2 * k * m + n) % (2 * n) = r at hd hlt
  generalize lq n m k = q at *
  have hd2 : 2 * ((n : Int) * q) + r = 2 * ((k : Int) * m) + n := by
    have : ((2 * n * q + r : Nat) : Int) = ((2 * k * m + n : Nat) : Int) := by rw [hd]
    simp only [Int.natCast_add, Int.natCast_mul] at this
    rw [Int.mul_assoc, Int.mul_assoc] at this
    exact this
  obtain ⟨e, he⟩ : ∃ e : Int, z = f + s * q + e := ⟨z - (f + s * q), by omega⟩
  have he0 : e ≠ 0 := by intro h; apply hne; rw [he, h]; omega
  have hE : (1 ≤ e → (n : Int) ≤ n * e) ∧ (e ≤ -1 → (n : Int) * e ≤ -n) := by
    constructor
    · intro h
      have := Int.mul_le_mul_of_nonneg_left (c := (n : Int)) h (by omega)
      omega
    · intro h
      have := Int.mul_le_mul_of_nonneg_left (c := (n : Int)) h (by omega)
      rw [Int.mul_neg] at this
      omega
  have e1 : (n : Int) * z = n * f + n * (s * q) + n * e := by rw [he, Int.mul_add, Int.mul_add]
  have e2 : (n : Int) * (f + s * q) = n * f + n * (s * q) := by rw [Int.mul_add]
  unfold Beats
  rw [e1, e2]
  rcases hs with rfl | rfl
  · simp only [Int.one_mul] at *
    have e3 : (k : Int) * (t - f) = k * m := by rw [ht]; congr 1; omega
    rw [e3]
    generalize (n : Int) * q = A at *
    generalize (k : Int) * m = B at *
    generalize (n : Int) * e = E at *
    generalize (n : Int) * f = F at *
    omega
  · have e4 : (n : Int) * (-1 * (q : Int)) = -(n * q) := by rw [Int.neg_one_mul, Int.mul_neg]
    have e3 : (k : Int) * (t - f) = -(k * m) := by rw [ht, ← Int.mul_neg]; congr 1; omega
    rw [e3, e4]
    generalize (n : Int) * q = A at *
    generalize (k : Int) * m = B at *
    generalize (n : Int) * e = E at *
    generalize (n : Int) * f = F at *
    omega
theorem aside_step (n T t Q f b y : Int) (A B C D : Nat) (hA : A = (n * y - T).natAbs) (hB : B = (n * b - T).natAbs) (hC : C = (y - t).natAbs) (hD : D = (b - t).natAbs) (HI : Q < y ∨ Q = f → b = Q) (HBy : y ≠ Q → Beats n T t Q y) (HBb : b ≠ Q → Beats n T t Q b) :
    ((A < B ∨ (A = B ∧ C < D)) → (Q < y + 1 ∨ Q = f → y = Q)) ∧ (¬ (A < B ∨ (A = B ∧ C < D)) → (Q < y + 1 ∨ Q = f → b = Q)) := by
  constructor
  · intro h1 h2
    refine Classical.byContradiction fun hne => ?_
    obtain rfl : b = Q := HI (by omega)
    have := HBy hne
    unfold Beats at this
    omega
  · intro h1 h2
    by_cases hq : Q < y ∨ Q = f
    · exact HI hq
    · refine Classical.byContradiction fun hne => ?_
      obtain rfl : Q = y := by omega
      have := HBb hne
      unfold Beats at this
      omega

set_option maxRecDepth 20000 in
set_option maxHeartbeats 1000000 in
theorem aside_any (n m k : Nat) (f t s : Int) (hn : 0 < n) (hm : m ≤ n) (hk : k ≤ n) (hn2 : n ≤ 120) (hs : s = 1 ∨ s = -1) (ht : t = f + s * m) (hf : -1000 ≤ f ∧ f ≤ 1000) (htn : -1000 ≤ t ∧ t ≤ 1000) (w : World) :
    Calls Try.prog 98 #[.int .i64 k, .int .i64 n, .int .i64 f, .int .i64 t] w fun e w' => e = .returned (.int .i64 (f + s * lq n m k)) ∧ w = w' := by
  have HB := PLift.up (fun z hz hne => best_beats n m k f t s hn hm hk hs ht z hz hne)
  obtain ⟨Q, hQ⟩ : ∃ Q, Q = f + s * lq n m k := ⟨_, rfl⟩
  obtain ⟨T, hT⟩ : ∃ T : Int, T = n * f + k * (t - f) := ⟨_, rfl⟩
  rw [← hQ, ← hT] at HB
  rw [← hQ]
  have HQ : PLift (min f t ≤ Q ∧ Q ≤ max f t) := PLift.up (by
    have hq := lq_le n m k hn hk
    rw [hQ, ht]
    generalize lq n m k = q at *
    rcases hs with rfl | rfl <;> omega)
  have hb1 := mul_bound n f 120 1000 hn2 (by omega)
  have hb2 := mul_bound k (t - f) 120 2000 (by omega) (by omega)
  have HTT := PLift.up hT
  clear hs ht hQ hT
  by_cases hft : f ≤ t
  ·
    have hmx : (if f < t then t else f) = t := by split <;> omega
    have hmn : (if t < f then t else f) = f := by split <;> omega
    go_enter Try.func98, Try.ntmps98
    go_wp2_with fail
    go_loop [9, 10] (fun bv yv => ∃ b y : Int, bv = .int .i64 b ∧ yv = .int .i64 y ∧ f ≤ y ∧ y ≤ t + 1 ∧ f ≤ b ∧ b ≤ t ∧ Hid (Q < y ∨ Q = f → b = Q)) (fun _ yv => (t + 1 - intOf yv).toNat)
    case atStart => exact ⟨f, f, rfl, rfl, by omega, by omega, by omega, by omega, fun h => by have := HQ.down; omega⟩
    case round =>
      obtain ⟨b, y, rfl, rfl, hy1, hy2, hz1, hz2, hI⟩ := hrel
      by_cases hlt : y ≤ t
      · have hb3 := mul_bound n y 120 1000 hn2 (by omega)
        have hb4 := mul_bound n b 120 1000 hn2 (by omega)
        have HI := PLift.up hI.out
        have hBy : PLift (y ≠ Q → Beats n T t Q y) := PLift.up (fun h => HB.down y (by omega) h)
        have hBb : PLift (b ≠ Q → Beats n T t Q b) := PLift.up (fun h => HB.down b (by omega) h)
        clear hI
        go_wp2_with fail
        refine (far_any _ _ (by omega) (by omega) _).mono ?_
        rintro e w1 ⟨rfl, rfl⟩
        go_wp2_with fail
        refine (far_any _ _ (by omega) (by omega) _).mono ?_
        rintro e w1 ⟨rfl, rfl⟩
        rw [← HTT.down]
        obtain ⟨A, hA⟩ : ∃ A, A = ((n : Int) * y - T).natAbs := ⟨_, rfl⟩
        obtain ⟨B, hB⟩ : ∃ B, B = ((n : Int) * b - T).natAbs := ⟨_, rfl⟩
        obtain ⟨C, hC⟩ : ∃ C, C = (y - t).natAbs := ⟨_, rfl⟩
        obtain ⟨D, hD⟩ : ∃ D, D = (b - t).natAbs := ⟨_, rfl⟩
        have hst := PLift.up (aside_step n T t Q f b y A B C D hA hB hC hD HI.down hBy.down hBb.down)
        rw [← hA, ← hB]
        have HC := PLift.up hC; have HD := PLift.up hD
        clear hA hB hC hD HI hBy hBb
        by_cases c1 : A < B
        · go_wp2_with fail
          go_round
          case rel => exact ⟨y, y + 1, rfl, rfl, by omega, by omega, by omega, by omega, hst.down.1 (.inl c1)⟩
          case measure => simp [intOf]; omega
        · by_cases c2 : A = B
          · subst c2
            go_wp2_with fail
            refine (far_any y t (by omega) (by omega) _).mono ?_
            rintro e w1 ⟨rfl, rfl⟩
            rw [← HC.down]
            go_wp2_with fail
            refine (far_any b t (by omega) (by omega) _).mono ?_
            rintro e w1 ⟨rfl, rfl⟩
            rw [← HD.down]
            by_cases c3 : C < D
            · go_wp2_with fail
              go_round
              case rel => exact ⟨y, y + 1, rfl, rfl, by omega, by omega, by omega, by omega, hst.down.1 (.inr ⟨rfl, c3⟩)⟩
              case measure => simp [intOf]; omega
            · go_wp2_with fail
              go_round
              case rel => exact ⟨b, y + 1, rfl, rfl, by omega, by omega, by omega, by omega, hst.down.2 (by omega)⟩
              case measure => simp [intOf]; omega
          · go_wp2_with fail
            go_round
            case rel => exact ⟨b, y + 1, rfl, rfl, by omega, by omega, by omega, by omega, hst.down.2 (by omega)⟩
            case measure => simp [intOf]; omega
      · obtain rfl : y = t + 1 := by omega
        have hbQ : b = Q := hI.out (.inl (by have := HQ.down; omega))
        subst hbQ
        go_wp2_with fail
        go_ret
        exact ⟨rfl, rfl⟩

  ·
    have hmx : (if f < t then t else f) = f := by split <;> omega
    have hmn : (if t < f then t else f) = t := by split <;> omega
    go_enter Try.func98, Try.ntmps98
    go_wp2_with fail
    go_loop [9, 10] (fun bv yv => ∃ b y : Int, bv = .int .i64 b ∧ yv = .int .i64 y ∧ t ≤ y ∧ y ≤ f + 1 ∧ t ≤ b ∧ b ≤ f ∧ Hid (Q < y ∨ Q = f → b = Q)) (fun _ yv => (f + 1 - intOf yv).toNat)
    case atStart => exact ⟨f, t, rfl, rfl, by omega, by omega, by omega, by omega, fun h => by have := HQ.down; omega⟩
    case round =>
      obtain ⟨b, y, rfl, rfl, hy1, hy2, hz1, hz2, hI⟩ := hrel
      by_cases hlt : y ≤ f
      · have hb3 := mul_bound n y 120 1000 hn2 (by omega)
        have hb4 := mul_bound n b 120 1000 hn2 (by omega)
        have HI := PLift.up hI.out
        have hBy : PLift (y ≠ Q → Beats n T t Q y) := PLift.up (fun h => HB.down y (by omega) h)
        have hBb : PLift (b ≠ Q → Beats n T t Q b) := PLift.up (fun h => HB.down b (by omega) h)
        clear hI
        go_wp2_with fail
        refine (far_any _ _ (by omega) (by omega) _).mono ?_
        rintro e w1 ⟨rfl, rfl⟩
        go_wp2_with fail
        refine (far_any _ _ (by omega) (by omega) _).mono ?_
        rintro e w1 ⟨rfl, rfl⟩
        rw [← HTT.down]
        obtain ⟨A, hA⟩ : ∃ A, A = ((n : Int) * y - T).natAbs := ⟨_, rfl⟩
        obtain ⟨B, hB⟩ : ∃ B, B = ((n : Int) * b - T).natAbs := ⟨_, rfl⟩
        obtain ⟨C, hC⟩ : ∃ C, C = (y - t).natAbs := ⟨_, rfl⟩
        obtain ⟨D, hD⟩ : ∃ D, D = (b - t).natAbs := ⟨_, rfl⟩
        have hst := PLift.up (aside_step n T t Q f b y A B C D hA hB hC hD HI.down hBy.down hBb.down)
        rw [← hA, ← hB]
        have HC := PLift.up hC; have HD := PLift.up hD
        clear hA hB hC hD HI hBy hBb
        by_cases c1 : A < B
        · go_wp2_with fail
          go_round
          case rel => exact ⟨y, y + 1, rfl, rfl, by omega, by omega, by omega, by omega, hst.down.1 (.inl c1)⟩
          case measure => simp [intOf]; omega
        · by_cases c2 : A = B
          · subst c2
            go_wp2_with fail
            refine (far_any y t (by omega) (by omega) _).mono ?_
            rintro e w1 ⟨rfl, rfl⟩
            rw [← HC.down]
            go_wp2_with fail
            refine (far_any b t (by omega) (by omega) _).mono ?_
            rintro e w1 ⟨rfl, rfl⟩
            rw [← HD.down]
            by_cases c3 : C < D
            · go_wp2_with fail
              go_round
              case rel => exact ⟨y, y + 1, rfl, rfl, by omega, by omega, by omega, by omega, hst.down.1 (.inr ⟨rfl, c3⟩)⟩
              case measure => simp [intOf]; omega
            · go_wp2_with fail
              go_round
              case rel => exact ⟨b, y + 1, rfl, rfl, by omega, by omega, by omega, by omega, hst.down.2 (by omega)⟩
              case measure => simp [intOf]; omega
          · go_wp2_with fail
            go_round
            case rel => exact ⟨b, y + 1, rfl, rfl, by omega, by omega, by omega, by omega, hst.down.2 (by omega)⟩
            case measure => simp [intOf]; omega
      · obtain rfl : y = f + 1 := by omega
        have hbQ : b = Q := hI.out (.inl (by have := HQ.down; omega))
        subst hbQ
        go_wp2_with fail
        go_ret
        exact ⟨rfl, rfl⟩

end Go.Proofs.Ytemogefcbemjfaa
