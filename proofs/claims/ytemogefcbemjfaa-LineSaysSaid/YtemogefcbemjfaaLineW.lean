/- Package line: from cell to cell. -/
import Derived.Test.YtemogefcbemjfaaBase
import Derived.Deep.RegionHeld3
namespace Go.Proofs.Ytemogefcbemjfaa
open Go.RowKit

structure Cel where
  x : Int
  y : Int
  deriving DecidableEq
def Cel.enc (c : Cel) : List Value := [.int .i64 c.x, .int .i64 c.y]
def Cel.val (c : Cel) : Value := .agg #[.int .i64 c.x, .int .i64 c.y]
def I64 (n : Int) : Prop := -9223372036854775808 ≤ n ∧ n ≤ 9223372036854775807
def nearB (c : Cel) : Bool := decide (-1000 ≤ c.x ∧ c.x ≤ 1000 ∧ -1000 ≤ c.y ∧ c.y ≤ 1000)

theorem ret_bool {a b : Bool} (h : a = b) : Ending.returned (.bool a) = .returned (.bool b) := by rw [h]
def mx4 (x y z u : Int) : Int := if (if (if x < y then y else x) < z then z else if x < y then y else x) < u then u else if (if x < y then y else x) < z then z else if x < y then y else x
theorem mx4_le (x y z u : Int) : mx4 x y z u ≤ 1000 ↔ x ≤ 1000 ∧ y ≤ 1000 ∧ z ≤ 1000 ∧ u ≤ 1000 := by
  unfold mx4; split <;> split <;> split <;> omega
set_option maxHeartbeats 400000 in
theorem betw_any (n a b : Int) (w : World) :
    Calls Try.prog 29 #[.int .i64 n, .int .i64 a, .int .i64 b] w fun e w' => e = .returned (.bool (decide (a ≤ n) && decide (n ≤ b))) ∧ w = w' := by
  go_enter Try.func29, Try.ntmps29
  go_wp2
  all_goals (go_returns; refine ⟨?_, rfl⟩)
  all_goals (congr 2; first | (simp; omega) | (simp; done) | skip)
set_option maxHeartbeats 1000000 in
theorem near_any (c : Cel) (hx : I64 c.x) (hy : I64 c.y) (w : World) :
    Calls Try.prog 96 #[c.val] w fun e w' => e = .returned (.bool (nearB c)) ∧ w.alloc (Obj.cells #[.int .i64 c.x, .int .i64 c.y] 78) = w' := by
  obtain ⟨x, y⟩ := c
  simp only [I64] at hx hy
  simp only [Cel.val, nearB]
  obtain ⟨M, hM⟩ : ∃ M, M = mx4 x (wrap64 (-x)) y (wrap64 (-y)) := ⟨_, rfl⟩
  have hle := PLift.up (mx4_le x (wrap64 (-x)) y (wrap64 (-y)))
  rw [← hM] at hle
  have hmx : ∀ (w : World) (ts : Array TypeId) (t : TypeId), (Builtin.max_ ts t #[.int .i64 x, .int .i64 (wrap64 (-x)), .int .i64 y, .int .i64 (wrap64 (-y))]).run Try.prog w = .ok (.int .i64 M) w := by
    intro w ts t
    rw [hM]
    simp [Builtin.max_, Builtin.max2, mx4]
  clear hM
  go_enter Try.func96, Try.ntmps96
  go_wp2_with fail
  all_goals (go_returns; refine ⟨?_, rfl⟩)
  all_goals (have h := hle.down; clear hle hmx; unfold wrap64 at h; refine ret_bool (Bool.eq_iff_iff.2 ?_); simp; omega)
set_option maxHeartbeats 1000000 in
theorem cellNear_any (c : Cel) (w : World) :
    Calls Try.prog 57 #[c.val] w fun e w' => e = .returned (.bool (nearB c)) ∧ w.alloc (Obj.cells #[.int .i64 c.x, .int .i64 c.y] 78) = w' := by
  obtain ⟨x, y⟩ := c
  simp only [Cel.val, nearB]
  go_enter Try.func57, Try.ntmps57
  go_wp2_with fail
  refine (betw_any _ _ _ _).mono ?_
  rintro e w1 ⟨rfl, rfl⟩
  by_cases h1 : -1000 ≤ x ∧ x ≤ 1000
  · rw [show (decide (-1000 ≤ x) && decide (x ≤ 1000)) = true from by simp [h1]]
    go_wp2_with fail
    refine (betw_any _ _ _ _).mono ?_
    rintro e w2 ⟨rfl, rfl⟩
    go_wp2_with fail
    go_returns
    refine ⟨?_, rfl⟩
    congr 2; simp [h1]
  · rw [show (decide (-1000 ≤ x) && decide (x ≤ 1000)) = false from by simp; omega]
    go_wp2_with fail
    go_returns
    refine ⟨?_, rfl⟩
    congr 2; simp; omega
set_option maxHeartbeats 1000000 in
theorem sign_any (n : Int) (hn : I64 n) (hm : n ≠ -9223372036854775808) (w : World) :
    Calls Try.prog 97 #[.int .i64 n] w fun e w' => e = .returned (.tuple #[.int .i64 n.sign, .int .i64 n.natAbs]) ∧ w = w' := by
  simp only [I64] at hn
  go_enter Try.func97, Try.ntmps97
  go_wp2_with fail
  all_goals (go_returns; refine ⟨?_, rfl⟩)
  all_goals (first
    | (rw [show n.sign = 1 from Int.sign_eq_one_of_pos (by omega), show ((n.natAbs : Nat) : Int) = n from by omega]; rfl)
    | (rw [show n.sign = -1 from Int.sign_eq_neg_one_of_neg (by omega), show ((n.natAbs : Nat) : Int) = -n from by omega]; rfl)
    | (rw [show n = 0 from by omega]; rfl))
set_option maxHeartbeats 1000000 in
theorem far_any (a b : Int) (ha : -4000000000000000000 ≤ a ∧ a ≤ 4000000000000000000) (hb : -4000000000000000000 ≤ b ∧ b ≤ 4000000000000000000) (w : World) :
    Calls Try.prog 58 #[.int .i64 a, .int .i64 b] w fun e w' => e = .returned (.int .i64 (a - b).natAbs) ∧ w = w' := by
  go_enter Try.func58, Try.ntmps58
  go_wp2_with fail
  all_goals (go_returns; refine ⟨?_, rfl⟩)
  · show Ending.returned (.int .i64 (b - a)) = _
    rw [show (b - a) = (((a - b).natAbs : Nat) : Int) from by omega]
  · show Ending.returned (.int .i64 (a - b)) = _
    rw [show ((a - b).natAbs : Int) = a - b from by omega]

/-- n, the longer way; m, the other; after k steps. -/
def lq (n m k : Nat) : Nat := (2 * k * m + n) / (2 * n)
def lr (n m k : Nat) : Nat := (2 * k * m + n) % (2 * n)
theorem lq_step (n m k : Nat) (hn : 0 < n) (hm : m ≤ n) : (2 * n ≤ lr n m k + 2 * m → lq n m (k + 1) = lq n m k + 1 ∧ lr n m (k + 1) = lr n m k + 2 * m - 2 * n) ∧ (lr n m k + 2 * m < 2 * n → lq n m (k + 1) = lq n m k ∧ lr n m (k + 1) = lr n m k + 2 * m) := by
  have e : 2 * (k + 1) * m + n = (2 * k * m + n) + 2 * m := by rw [Nat.mul_add, Nat.add_mul]; omega
  have hd := Nat.div_add_mod (2 * k * m + n) (2 * n)
  have hlt : (2 * k * m + n) % (2 * n) < 2 * n := Nat.mod_lt _ (by omega)
  unfold lq lr
  rw [e]
  constructor
  · intro h
    have e2 : 2 * k * m + n + 2 * m = ((2 * k * m + n) % (2 * n) + 2 * m - 2 * n) + 2 * n * ((2 * k * m + n) / (2 * n) + 1) := by rw [Nat.mul_add]; omega
    rw [e2, Nat.add_mul_div_left _ _ (by omega), Nat.add_mul_mod_self_left, Nat.div_eq_of_lt (by omega), Nat.mod_eq_of_lt (by omega)]
    omega
  · intro h
    have e2 : 2 * k * m + n + 2 * m = ((2 * k * m + n) % (2 * n) + 2 * m) + 2 * n * ((2 * k * m + n) / (2 * n)) := by omega
    rw [e2, Nat.add_mul_div_left _ _ (by omega), Nat.add_mul_mod_self_left, Nat.div_eq_of_lt (by omega), Nat.mod_eq_of_lt (by omega)]
    omega
theorem lq_zero (n m : Nat) : lq n m 0 = 0 := by
  unfold lq
  rcases Nat.eq_zero_or_pos n with rfl | h
  · simp
  · rw [Nat.mul_zero, Nat.zero_mul, Nat.zero_add]; exact Nat.div_eq_of_lt (by omega)
theorem lr_zero (n m : Nat) : lr n m 0 = n := by
  unfold lr
  rcases Nat.eq_zero_or_pos n with rfl | h
  · simp
  · rw [Nat.mul_zero, Nat.zero_mul, Nat.zero_add]; exact Nat.mod_eq_of_lt (by omega)
theorem lr_lt (n m k : Nat) (h : 0 < n) : lr n m k < 2 * n := Nat.mod_lt _ (by omega)
theorem lq_le (n m k : Nat) (hn : 0 < n) (hk : k ≤ n) : lq n m k ≤ m := by
  unfold lq
  have : 2 * k * m ≤ 2 * n * m := Nat.mul_le_mul_right _ (by omega)
  have : (2 * k * m + n) / (2 * n) < m + 1 := (Nat.div_lt_iff_lt_mul (by omega)).2 (by rw [Nat.add_mul, Nat.mul_comm m]; omega)
  omega
/-- The cell after k steps. -/
def lpt (a : Cel) (sx sy : Int) (X Y k : Nat) : Cel := if Y ≤ X then ⟨a.x + sx * k, a.y + sy * lq X Y k⟩ else ⟨a.x + sx * lq Y X k, a.y + sy * k⟩
def lpts (a : Cel) (sx sy : Int) (X Y n : Nat) : List Cel := (List.range (n + 1)).map (lpt a sx sy X Y)
end Go.Proofs.Ytemogefcbemjfaa
