/- Lines from cell to cell: the plain laws. -/
import Derived.Test.YtibknlfadoeglaaDat
namespace Go.Proofs.Ytibknlfadoeglaa
set_option linter.all false
open Go.RowKit
def nearB (c : Cel) : Bool := decide (-1000 ≤ c.x ∧ c.x ≤ 1000 ∧ -1000 ≤ c.y ∧ c.y ≤ 1000)
/-- n, the longer way; m, the other; after k steps. -/
def lq (n m k : Nat) : Nat := (2 * k * m + n) / (2 * n)
def lr (n m k : Nat) : Nat := (2 * k * m + n) % (2 * n)
theorem lq_step (n m k : Nat) (hn : 0 < n) (hm : m ≤ n) : (2 * n ≤ lr n m k + 2 * m → lq n m (k + 1) = lq n m k + 1 ∧ lr n m (k + 1) = lr n m k + 2 * m - 2 * n) ∧ (lr n m k + 2 * m < 2 * n → lq n m (k + 1) = lq n m k ∧ lr n m (k + 1) = lr n m k + 2 * m) := by
  have e : 2 * (k + 1) * m + n = (2 * k * m + n) + 2 * m := by rw [Nat.mul_add, Nat.add_mul]; omega
  have hd := Nat.div_add_mod (2 * k * m + n) (2 * n)
  have hlt : (2 * k * m + n) % (2 * n) < 2 * n := Nat.mod_lt _ (by omega)
  unfold lq lr
  rw [e]
  constructor
  · intro h
    have e2 : 2 * k * m + n + 2 * m = ((2 * k * m + n) % (2 * n) + 2 * m - 2 * n) + 2 * n * ((2 * k * m + n) / (2 * n) + 1) := by rw [Nat.mul_add]; omega
    rw [e2, Nat.add_mul_div_left _ _ (by omega), Nat.add_mul_mod_self_left, Nat.div_eq_of_lt (by omega), Nat.mod_eq_of_lt (by omega)]
    omega
  · intro h
    have e2 : 2 * k * m + n + 2 * m = ((2 * k * m + n) % (2 * n) + 2 * m) + 2 * n * ((2 * k * m + n) / (2 * n)) := by omega
    rw [e2, Nat.add_mul_div_left _ _ (by omega), Nat.add_mul_mod_self_left, Nat.div_eq_of_lt (by omega), Nat.mod_eq_of_lt (by omega)]
    omega
theorem lq_zero (n m : Nat) : lq n m 0 = 0 := by
  unfold lq
  rcases Nat.eq_zero_or_pos n with rfl | h
  · simp
  · rw [Nat.mul_zero, Nat.zero_mul, Nat.zero_add]; exact Nat.div_eq_of_lt (by omega)
theorem lr_zero (n m : Nat) : lr n m 0 = n := by
  unfold lr
  rcases Nat.eq_zero_or_pos n with rfl | h
  · simp
  · rw [Nat.mul_zero, Nat.zero_mul, Nat.zero_add]; exact Nat.mod_eq_of_lt (by omega)
theorem lr_lt (n m k : Nat) (h : 0 < n) : lr n m k < 2 * n := Nat.mod_lt _ (by omega)
theorem lq_le (n m k : Nat) (hn : 0 < n) (hk : k ≤ n) : lq n m k ≤ m := by
  unfold lq
  have : 2 * k * m ≤ 2 * n * m := Nat.mul_le_mul_right _ (by omega)
  have : (2 * k * m + n) / (2 * n) < m + 1 := (Nat.div_lt_iff_lt_mul (by omega)).2 (by rw [Nat.add_mul, Nat.mul_comm m]; omega)
  omega
/-- The cell after k steps. -/
def lpt (a : Cel) (sx sy : Int) (X Y k : Nat) : Cel := if Y ≤ X then ⟨a.x + sx * k, a.y + sy * lq X Y k⟩ else ⟨a.x + sx * lq Y X k, a.y + sy * k⟩
def lpts (a : Cel) (sx sy : Int) (X Y n : Nat) : List Cel := (List.range (n + 1)).map (lpt a sx sy X Y)
theorem nearB_true {c : Cel} (h : nearB c = true) : -1000 ≤ c.x ∧ c.x ≤ 1000 ∧ -1000 ≤ c.y ∧ c.y ≤ 1000 := by simpa [nearB] using h
theorem lpts_snoc (a : Cel) (sx sy : Int) (X Y n : Nat) : lpts a sx sy X Y (n + 1) = lpts a sx sy X Y n ++ [lpt a sx sy X Y (n + 1)] := by simp [lpts, List.range_succ]
theorem lpts_len (a : Cel) (sx sy : Int) (X Y n : Nat) : (lpts a sx sy X Y n).length = n + 1 := by simp [lpts]
theorem lpt_zero (a : Cel) (sx sy : Int) (X Y : Nat) : lpt a sx sy X Y 0 = a := by simp [lpt, lq_zero]
theorem lpt_near (a : Cel) (sx sy : Int) (X Y k : Nat) (h1 : sx = -1 ∨ sx = 0 ∨ sx = 1) (h2 : sy = -1 ∨ sy = 0 ∨ sy = 1) (hX : X ≤ 2000) (hY : Y ≤ 2000) (hk : k ≤ max X Y) (ha : nearB a = true) :
    -3000 ≤ (lpt a sx sy X Y k).x ∧ (lpt a sx sy X Y k).x ≤ 3000 ∧ -3000 ≤ (lpt a sx sy X Y k).y ∧ (lpt a sx sy X Y k).y ≤ 3000 := by
  have hn := nearB_true ha
  have key : ∀ (s : Int) (q : Nat), (s = -1 ∨ s = 0 ∨ s = 1) → q ≤ 2000 → -2000 ≤ s * q ∧ s * q ≤ 2000 := by
    intro s q hs hq
    rcases hs with rfl | rfl | rfl <;> omega
  unfold lpt
  split
  · have hq : lq X Y k ≤ 2000 := by
      rcases Nat.eq_zero_or_pos X with rfl | h
      · obtain rfl : k = 0 := by omega
        rw [lq_zero]; omega
      · have := lq_le X Y k h (by omega); omega
    have a1 := key sx k h1 (by omega)
    have a2 := key sy _ h2 hq
    simp only; omega
  · have hq : lq Y X k ≤ 2000 := by have := lq_le Y X k (by omega) (by omega); omega
    have a1 := key sx _ h1 hq
    have a2 := key sy k h2 (by omega)
    simp only; omega
theorem lpt_stepX (a : Cel) (sx sy : Int) (X Y k : Nat) (h : Y ≤ X) (h0 : 0 < X) : lpt a sx sy X Y (k + 1) = ⟨(lpt a sx sy X Y k).x + sx, if 2 * X ≤ lr X Y k + 2 * Y then (lpt a sx sy X Y k).y + sy else (lpt a sx sy X Y k).y⟩ := by
  simp only [lpt, if_pos h]
  have hs := lq_step X Y k h0 h
  have e1 : a.x + sx * ((k + 1 : Nat) : Int) = a.x + sx * k + sx := by rw [Int.natCast_add, Int.mul_add]; omega
  rw [e1]
  by_cases hc : 2 * X ≤ lr X Y k + 2 * Y
  · rw [if_pos hc, (hs.1 hc).1, Int.natCast_add, Int.mul_add]; congr 1; omega
  · rw [if_neg hc, (hs.2 (by omega)).1]
theorem lpt_stepY (a : Cel) (sx sy : Int) (X Y k : Nat) (h : X < Y) : lpt a sx sy X Y (k + 1) = ⟨if 2 * Y ≤ lr Y X k + 2 * X then (lpt a sx sy X Y k).x + sx else (lpt a sx sy X Y k).x, (lpt a sx sy X Y k).y + sy⟩ := by
  simp only [lpt, if_neg (show ¬ Y ≤ X by omega)]
  have hs := lq_step Y X k (by omega) (by omega)
  have e1 : a.y + sy * ((k + 1 : Nat) : Int) = a.y + sy * k + sy := by rw [Int.natCast_add, Int.mul_add]; omega
  rw [e1]
  by_cases hc : 2 * Y ≤ lr Y X k + 2 * X
  · rw [if_pos hc, (hs.1 hc).1, Int.natCast_add, Int.mul_add]; congr 1; omega
  · rw [if_neg hc, (hs.2 (by omega)).1]
theorem mul_bound (n : Nat) (y : Int) (N Y : Nat) (hn : n ≤ N) (hy : -(Y : Int) ≤ y ∧ y ≤ Y) : -((N * Y : Nat) : Int) ≤ (n : Int) * y ∧ (n : Int) * y ≤ ((N * Y : Nat) : Int) := by
  have h1 : (n : Int) * y ≤ (n : Int) * Y := Int.mul_le_mul_of_nonneg_left hy.2 (by omega)
  have h2 : (n : Int) * (-(Y : Int)) ≤ (n : Int) * y := Int.mul_le_mul_of_nonneg_left hy.1 (by omega)
  have h3 : (n : Int) * Y ≤ ((N * Y : Nat) : Int) := by rw [Int.natCast_mul]; exact Int.mul_le_mul_of_nonneg_right (by omega) (by omega)
  rw [Int.mul_neg] at h2
  omega
/-- z1 is nearer, or as near and farther on. -/
def Beats (n T t z1 z2 : Int) : Prop := (n * z1 - T).natAbs < (n * z2 - T).natAbs ∨ ((n * z1 - T).natAbs = (n * z2 - T).natAbs ∧ (z1 - t).natAbs < (z2 - t).natAbs)
theorem best_beats (n m k : Nat) (f t s : Int) (hn : 0 < n) (_ : m ≤ n) (hk : k ≤ n) (hs : s = 1 ∨ s = -1) (ht : t = f + s * m) (z : Int) (_ : min f t ≤ z ∧ z ≤ max f t) (hne : z ≠ f + s * lq n m k) :
    Beats n (n * f + k * (t - f)) t (f + s * lq n m k) z := by
  have hq := lq_le n m k hn hk
  have hd := Nat.div_add_mod (2 * k * m + n) (2 * n)
  have hlt : (2 * k * m + n) % (2 * n) < 2 * n := Nat.mod_lt _ (by omega)
  have hq2 : lq n m k = (2 * k * m + n) / (2 * n) := rfl
  rw [← hq2] at hd
  generalize (2 * k * m + n) % (2 * n) = r at hd hlt
  generalize lq n m k = q at *
  have hd2 : 2 * ((n : Int) * q) + r = 2 * ((k : Int) * m) + n := by
    have : ((2 * n * q + r : Nat) : Int) = ((2 * k * m + n : Nat) : Int) := by rw [hd]
    simp only [Int.natCast_add, Int.natCast_mul] at this
    rw [Int.mul_assoc, Int.mul_assoc] at this
    exact this
  obtain ⟨e, he⟩ : ∃ e : Int, z = f + s * q + e := ⟨z - (f + s * q), by omega⟩
  have he0 : e ≠ 0 := by intro h; apply hne; rw [he, h]; omega
  have hE : (1 ≤ e → (n : Int) ≤ n * e) ∧ (e ≤ -1 → (n : Int) * e ≤ -n) := by
    constructor
    · intro h
      have := Int.mul_le_mul_of_nonneg_left (c := (n : Int)) h (by omega)
      omega
    · intro h
      have := Int.mul_le_mul_of_nonneg_left (c := (n : Int)) h (by omega)
      rw [Int.mul_neg] at this
      omega
  have e1 : (n : Int) * z = n * f + n * (s * q) + n * e := by rw [he, Int.mul_add, Int.mul_add]
  have e2 : (n : Int) * (f + s * q) = n * f + n * (s * q) := by rw [Int.mul_add]
  unfold Beats
  rw [e1, e2]
  rcases hs with rfl | rfl
  · simp only [Int.one_mul] at *
    have e3 : (k : Int) * (t - f) = k * m := by rw [ht]; congr 1; omega
    rw [e3]
    generalize (n : Int) * q = A at *
    generalize (k : Int) * m = B at *
    generalize (n : Int) * e = E at *
    generalize (n : Int) * f = F at *
    omega
  · have e4 : (n : Int) * (-1 * (q : Int)) = -(n * q) := by rw [Int.neg_one_mul, Int.mul_neg]
    have e3 : (k : Int) * (t - f) = -(k * m) := by rw [ht, ← Int.mul_neg]; congr 1; omega
    rw [e3, e4]
    generalize (n : Int) * q = A at *
    generalize (k : Int) * m = B at *
    generalize (n : Int) * e = E at *
    generalize (n : Int) * f = F at *
    omega
theorem aside_step (n T t Q f b y : Int) (A B C D : Nat) (hA : A = (n * y - T).natAbs) (hB : B = (n * b - T).natAbs) (hC : C = (y - t).natAbs) (hD : D = (b - t).natAbs) (HI : Q < y ∨ Q = f → b = Q) (HBy : y ≠ Q → Beats n T t Q y) (HBb : b ≠ Q → Beats n T t Q b) :
    ((A < B ∨ (A = B ∧ C < D)) → (Q < y + 1 ∨ Q = f → y = Q)) ∧ (¬ (A < B ∨ (A = B ∧ C < D)) → (Q < y + 1 ∨ Q = f → b = Q)) := by
  constructor
  · intro h1 h2
    refine Classical.byContradiction fun hne => ?_
    obtain rfl : b = Q := HI (by omega)
    have := HBy hne
    unfold Beats at this
    omega
  · intro h1 h2
    by_cases hq : Q < y ∨ Q = f
    · exact HI hq
    · refine Classical.byContradiction fun hne => ?_
      obtain rfl : Q = y := by omega
      have := HBb hne
      unfold Beats at this
      omega

theorem tdiv_step (k X : Nat) (d s : Int) (hs : d.sign = s) (hn : d.natAbs = X) (hX : X ≠ 0) : ((k : Int) * d).tdiv X = s * k := by
  have e : d = s * X := by rw [← hs, ← hn]; exact (Int.sign_mul_natAbs d).symm
  rw [e, ← Int.mul_assoc, Int.mul_tdiv_cancel _ (by omega), Int.mul_comm]
theorem aside_sign (n m k : Nat) (f t s : Int) (hs : (t - f).sign = s) (hm : (t - f).natAbs = m) : ∃ s', (s' = 1 ∨ s' = -1) ∧ t = f + s' * m ∧ s' * lq n m k = s * lq n m k := by
  rcases Int.lt_trichotomy (t - f) 0 with h | h | h
  · rw [Int.sign_eq_neg_one_of_neg h] at hs; subst hs; exact ⟨-1, .inr rfl, by omega, rfl⟩
  · have h0 : m = 0 := by omega
    subst h0
    have hq : lq n 0 k = 0 := by
      unfold lq
      rcases Nat.eq_zero_or_pos n with rfl | hn
      · simp
      · rw [Nat.mul_zero, Nat.zero_add]; exact Nat.div_eq_of_lt (by omega)
    exact ⟨1, .inl rfl, by omega, by rw [hq]; simp⟩
  · rw [Int.sign_eq_one_of_pos h] at hs; subst hs; exact ⟨1, .inl rfl, by omega, rfl⟩
end Go.Proofs.Ytibknlfadoeglaa
