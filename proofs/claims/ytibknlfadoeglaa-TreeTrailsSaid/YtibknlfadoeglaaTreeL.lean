/- Package tree, in plain Lean: the root level by level is the root by halves. -/
import Derived.Test.YtibknlfadoeglaaBase
namespace Go.Proofs.Ytibknlfadoeglaa
set_option linter.all false
/-- Two by two; an odd one at the end goes up as it is. -/
def lvl (pr : Nat → Nat → Nat) : List Nat → List Nat
  | [] => []
  | [a] => [a]
  | a :: b :: l => pr a b :: lvl pr l
theorem lvl_len (pr : Nat → Nat → Nat) : ∀ l : List Nat, (lvl pr l).length = (l.length + 1) / 2
  | [] => rfl
  | [a] => by simp [lvl]
  | a :: b :: l => by rw [lvl, List.length_cons, lvl_len pr l, List.length_cons, List.length_cons]; omega
theorem lvl_app (pr : Nat → Nat → Nat) : ∀ (k : Nat) (l : List Nat), 2 * k ≤ l.length → lvl pr l = lvl pr (l.take (2 * k)) ++ lvl pr (l.drop (2 * k)) ∧ (lvl pr (l.take (2 * k))).length = k
  | 0, l, _ => by simp [lvl]
  | k + 1, [], h => by simp at h
  | k + 1, [a], h => by simp at h; omega
  | k + 1, a :: b :: l, h => by
    have ih := lvl_app pr k l (by simp at h; omega)
    have e : 2 * (k + 1) = 2 * k + 1 + 1 := by omega
    rw [e, List.take_succ_cons, List.take_succ_cons, List.drop_succ_cons, List.drop_succ_cons, lvl, lvl, ih.1]
    exact ⟨by rw [← ih.1]; simp [ih.1], by rw [List.length_cons, ih.2]⟩
def rtF (pr : Nat → Nat → Nat) : Nat → List Nat → Nat
  | 0, l => l.headD 0
  | f + 1, l => if l.length ≤ 1 then l.headD 0 else rtF pr f (lvl pr l)
/-- The root, level by level. -/
def rt (pr : Nat → Nat → Nat) (l : List Nat) : Nat := rtF pr l.length l
theorem rtF_any (pr : Nat → Nat → Nat) : ∀ (f g : Nat) (l : List Nat), l.length ≤ f → l.length ≤ g → rtF pr f l = rtF pr g l
  | 0, g, l, h, _ => by
    have : l = [] := List.eq_nil_of_length_eq_zero (by omega)
    subst this
    cases g <;> simp [rtF]
  | f + 1, 0, l, _, h => by
    have : l = [] := List.eq_nil_of_length_eq_zero (by omega)
    subst this
    simp [rtF]
  | f + 1, g + 1, l, h1, h2 => by
    unfold rtF
    split
    · rfl
    · have hl := lvl_len pr l
      exact rtF_any pr f g _ (by omega) (by omega)
theorem rt_lvl (pr : Nat → Nat → Nat) (l : List Nat) : rt pr (lvl pr l) = rt pr l := by
  have hl := lvl_len pr l
  by_cases h : l.length ≤ 1
  · match l, h with
    | [], _ => rfl
    | [a], _ => rfl
  · unfold rt
    have e : l.length = (l.length - 1) + 1 := by omega
    conv => rhs; rw [e]; unfold rtF
    rw [if_neg h]
    exact rtF_any pr _ _ _ (by omega) (by omega)
theorem rt_one (pr : Nat → Nat → Nat) (a : Nat) : rt pr [a] = a := rfl
theorem rt_two (pr : Nat → Nat → Nat) (a b : Nat) : rt pr [a, b] = pr a b := by rw [← rt_lvl]; rfl
/-- m: the greatest power of two below the length. -/
theorem rt_halves (pr : Nat → Nat → Nat) : ∀ (p : Nat) (l : List Nat), 2 ^ p < l.length → l.length ≤ 2 * 2 ^ p → rt pr l = pr (rt pr (l.take (2 ^ p))) (rt pr (l.drop (2 ^ p)))
  | 0, l, h1, h2 => by
    match l, h1, h2 with
    | [], h1, _ => simp at h1
    | [a], h1, _ => simp at h1
    | [a, b], _, _ => rw [rt_two]; rfl
    | a :: b :: c :: l, _, h2 => simp at h2
  | p + 1, l, h1, h2 => by
    have e : 2 ^ (p + 1) = 2 * 2 ^ p := by rw [Nat.pow_succ]; omega
    rw [e] at h1 h2 ⊢
    obtain ⟨ha, hb⟩ := lvl_app pr (2 ^ p) l (by omega)
    have hl := lvl_len pr l
    have ih := rt_halves pr p (lvl pr l) (by omega) (by omega)
    rw [rt_lvl] at ih
    rw [ih, ha, List.take_left' hb, List.drop_left' hb, rt_lvl, rt_lvl]
end Go.Proofs.Ytibknlfadoeglaa
