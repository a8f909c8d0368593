/- Package tree, in plain Lean: trails level by level are trails by halves. -/
import Derived.Test.YtibknlfadoeglaaTreeL
namespace Go.Proofs.Ytibknlfadoeglaa
set_option linter.all false
/-- What stands beside a place, if anything. -/
def bes (l : List Nat) (i : Nat) : List Nat := (l[i ^^^ 1]?).toList
def trF (pr : Nat → Nat → Nat) : Nat → List Nat → Nat → List Nat
  | 0, _, _ => []
  | f + 1, l, i => if l.length ≤ 1 then [] else bes l i ++ trF pr f (lvl pr l) (i / 2)
def tr (pr : Nat → Nat → Nat) (l : List Nat) (i : Nat) : List Nat := trF pr l.length l i
theorem trF_any (pr : Nat → Nat → Nat) : ∀ (f g : Nat) (l : List Nat) (i : Nat), l.length ≤ f → l.length ≤ g → trF pr f l i = trF pr g l i
  | 0, g, l, i, h, _ => by
    have : l = [] := List.eq_nil_of_length_eq_zero (by omega)
    subst this
    cases g <;> simp [trF]
  | f + 1, 0, l, i, _, h => by
    have : l = [] := List.eq_nil_of_length_eq_zero (by omega)
    subst this
    simp [trF]
  | f + 1, g + 1, l, i, h1, h2 => by
    unfold trF
    split
    · rfl
    · have hl := lvl_len pr l
      rw [trF_any pr f g _ _ (by omega) (by omega)]
theorem tr_short (pr : Nat → Nat → Nat) (l : List Nat) (i : Nat) (h : l.length ≤ 1) : tr pr l i = [] := by
  unfold tr
  cases hl : l.length with
  | zero => rfl
  | succ f => rw [trF, if_pos (by omega)]
theorem xor_one (i : Nat) : i ^^^ 1 = if i % 2 = 0 then i + 1 else i - 1 := by
  have h1 : (i ^^^ 1) / 2 = i / 2 := by rw [Nat.xor_div_two]; simp
  rcases Nat.mod_two_eq_zero_or_one i with h | h
  · have h2 : (i ^^^ 1) % 2 = 1 := by rw [Nat.xor_mod_two_eq_one]; omega
    rw [if_pos h]; omega
  · have h2 : (i ^^^ 1) % 2 = 0 := by
      have : ¬ (i ^^^ 1) % 2 = 1 := by rw [Nat.xor_mod_two_eq_one]; omega
      omega
    rw [if_neg (by omega)]; omega
theorem tr_lvl (pr : Nat → Nat → Nat) (l : List Nat) (i : Nat) (hi : i < l.length) : tr pr l i = bes l i ++ tr pr (lvl pr l) (i / 2) := by
  have hl := lvl_len pr l
  by_cases h : l.length ≤ 1
  · rw [tr_short pr l i h, tr_short pr (lvl pr l) _ (by omega)]
    have h0 : i = 0 := by omega
    subst h0
    unfold bes
    rw [xor_one, if_pos rfl, List.getElem?_eq_none (by omega)]; rfl
  · unfold tr
    have e : l.length = (l.length - 1) + 1 := by omega
    rw [e, trF, if_neg (by omega)]
    rw [trF_any pr (l.length - 1) (lvl pr l).length _ _ (by omega) (Nat.le_refl _)]
theorem tr_halves (pr : Nat → Nat → Nat) : ∀ (p : Nat) (l : List Nat) (i : Nat), 2 ^ p < l.length → l.length ≤ 2 * 2 ^ p → i < l.length →
    tr pr l i = if i < 2 ^ p then tr pr (l.take (2 ^ p)) i ++ [rt pr (l.drop (2 ^ p))] else tr pr (l.drop (2 ^ p)) (i - 2 ^ p) ++ [rt pr (l.take (2 ^ p))]
  | 0, l, i, h1, h2, hi => by
    match l, h1, h2 with
    | [], h1, _ => simp at h1
    | [a], h1, _ => simp at h1
    | [a, b], _, _ =>
      match i, hi with
      | 0, _ => rw [tr_lvl pr _ _ (by simp), tr_short pr (lvl pr [a, b]) _ (by simp [lvl]), if_pos (by simp), tr_short pr _ _ (by simp)]; rfl
      | 1, _ => rw [tr_lvl pr _ _ (by simp), tr_short pr (lvl pr [a, b]) _ (by simp [lvl]), if_neg (by simp), tr_short pr _ _ (by simp)]; rfl
      | i + 2, hi => simp only [List.length_cons, List.length_nil] at hi; omega
    | a :: b :: c :: l, _, h2 => simp at h2
  | p + 1, l, i, h1, h2, hi => by
    have e : 2 ^ (p + 1) = 2 * 2 ^ p := by rw [Nat.pow_succ]; omega
    have ih := tr_halves pr p (lvl pr l) (i / 2)
    have hl := lvl_len pr l
    rw [e] at h1 h2 ⊢
    generalize 2 ^ p = q at *
    obtain ⟨ha, hb⟩ := lvl_app pr q l (by omega)
    have ih := ih (by omega) (by omega) (by omega)
    rw [tr_lvl pr l i hi, ih, ha, List.take_left' hb, List.drop_left' hb, rt_lvl, rt_lvl]
    have hx := xor_one i
    by_cases hc : i < 2 * q
    · rw [if_pos hc, if_pos (by omega), tr_lvl pr (l.take (2 * q)) i (by simp; omega), List.append_assoc]
      congr 1
      unfold bes
      rw [List.getElem?_take_of_lt (by rw [hx]; split <;> omega)]
    · rw [if_neg hc, if_neg (by omega), tr_lvl pr (l.drop (2 * q)) (i - 2 * q) (by simp; omega), List.append_assoc, show (i - 2 * q) / 2 = i / 2 - q from by omega]
      congr 1
      unfold bes
      rw [List.getElem?_drop]
      congr 2
      rw [hx, xor_one (i - 2 * q)]
      split <;> split <;> omega
/-- A place climbs to the root of n. -/
def clF (pr : Nat → Nat → Nat) : Nat → Nat → Nat → Nat → List Nat → Option Nat
  | 0, m, _, _, t => if t = [] then some m else none
  | f + 1, m, i, n, t => if n ≤ 1 then (if t = [] then some m else none) else if n ≤ i ^^^ 1 then clF pr f m (i / 2) ((n + 1) / 2) t else t.head?.bind fun x => clF pr f (if i % 2 = 0 then pr m x else pr x m) (i / 2) ((n + 1) / 2) t.tail
def cl (pr : Nat → Nat → Nat) (m i n : Nat) (t : List Nat) : Option Nat := clF pr n m i n t
theorem clF_any (pr : Nat → Nat → Nat) : ∀ (f g m i n : Nat) (t : List Nat), n ≤ f → n ≤ g → clF pr f m i n t = clF pr g m i n t
  | 0, g, m, i, n, t, h, _ => by
    obtain rfl : n = 0 := by omega
    cases g <;> simp [clF]
  | f + 1, 0, m, i, n, t, _, h => by
    obtain rfl : n = 0 := by omega
    simp [clF]
  | f + 1, g + 1, m, i, n, t, h1, h2 => by
    rw [clF, clF]
    split
    · rfl
    · split
      · exact clF_any pr f g _ _ _ _ (by omega) (by omega)
      · cases t with
        | nil => rfl
        | cons x r => exact clF_any pr f g _ _ _ _ (by omega) (by omega)
def clS (pr : Nat → Nat → Nat) (m i n : Nat) : List Nat → Option Nat
  | [] => none
  | x :: r => cl pr (if i % 2 = 0 then pr m x else pr x m) (i / 2) ((n + 1) / 2) r
theorem cl_one (pr : Nat → Nat → Nat) (m i n : Nat) (t : List Nat) (h : n ≤ 1) : cl pr m i n t = if t = [] then some m else none := by
  unfold cl
  cases n with
  | zero => rfl
  | succ n => rw [clF, if_pos h]
theorem cl_step (pr : Nat → Nat → Nat) (m i n : Nat) (t : List Nat) (hi : i < n) : cl pr m i n t = if n ≤ i ^^^ 1 then cl pr m (i / 2) ((n + 1) / 2) t else clS pr m i n t := by
  by_cases h : n ≤ 1
  · obtain rfl : i = 0 := by omega
    obtain rfl : n = 1 := by omega
    rw [xor_one, if_pos rfl, if_pos (by omega)]
  · unfold cl
    have e : n = (n - 1) + 1 := by omega
    conv => lhs; rw [e]
    rw [clF, if_neg (by omega), ← e]
    split
    · exact clF_any pr _ _ _ _ _ _ (by omega) (Nat.le_refl _)
    · cases t with
      | nil => rfl
      | cons x r => exact clF_any pr _ _ _ _ _ _ (by omega) (Nat.le_refl _)
/-- .. by halves. -/
def clH (pr : Nat → Nat → Nat) (m i n q : Nat) (t : List Nat) : Option Nat :=
  match t.getLast? with
  | none => none
  | some x => if i < q then (cl pr m i q t.dropLast).map (fun y => pr y x) else (cl pr m (i - q) (n - q) t.dropLast).map (fun y => pr x y)
theorem cl_halves (pr : Nat → Nat → Nat) : ∀ (p m i n : Nat) (t : List Nat), 2 ^ p < n → n ≤ 2 * 2 ^ p → i < n → cl pr m i n t = clH pr m i n (2 ^ p) t
  | 0, m, i, n, t, h1, h2, hi => by
    obtain rfl : n = 2 := by simp at h1 h2; omega
    rw [cl_step pr m i 2 t hi, if_neg (by rw [xor_one]; split <;> omega)]
    cases t with
    | nil => rfl
    | cons x r =>
      have hr : i = 0 ∨ i = 1 := by omega
      rw [clS, cl_one _ _ _ _ _ (by omega)]
      cases r with
      | nil =>
        rcases hr with rfl | rfl <;> simp [clH, cl_one]
      | cons y s =>
        have hg : ∃ z, (x :: y :: s).getLast? = some z := by
          cases h : (x :: y :: s).getLast? with
          | none => simp at h
          | some z => exact ⟨z, rfl⟩
        obtain ⟨z, hz⟩ := hg
        unfold clH
        rw [hz]
        rcases hr with rfl | rfl <;> simp [cl_one]
  | p + 1, m, i, n, t, h1, h2, hi => by
    have e : 2 ^ (p + 1) = 2 * 2 ^ p := by rw [Nat.pow_succ]; omega
    have ih := fun m t => cl_halves pr p m (i / 2) ((n + 1) / 2) t
    rw [e] at h1 h2 ⊢
    have hq : 0 < 2 ^ p := Nat.pow_pos (by decide)
    generalize 2 ^ p = q at *
    have ih := fun m t => ih m t (by omega) (by omega) (by omega)
    have hx := xor_one i
    have hlast : ∀ (x : Nat) (r : List Nat), r ≠ [] → (x :: r).getLast? = r.getLast? ∧ (x :: r).dropLast = x :: r.dropLast := by
      intro x r hr
      cases r with
      | nil => exact absurd rfl hr
      | cons y s => exact ⟨by rw [List.getLast?_cons_cons], rfl⟩
    rw [cl_step pr m i n t hi]
    by_cases hc : i < 2 * q
    · rw [if_neg (by rw [hx]; split <;> omega)]
      cases t with
      | nil => rfl
      | cons x r =>
        rw [clS, ih]
        by_cases hr : r = []
        · subst hr
          have hs := cl_step pr m i (2 * q) [] hc
          rw [if_neg (by rw [hx]; split <;> omega)] at hs
          simp [clH, hc, hs, clS]
        · obtain ⟨g1, g2⟩ := hlast x r hr
          have hs := cl_step pr m i (2 * q) (x :: r.dropLast) hc
          rw [if_neg (by rw [hx]; split <;> omega), clS, show (2 * q + 1) / 2 = q from by omega] at hs
          unfold clH
          rw [g1, g2]
          simp only [if_pos hc, if_pos (show i / 2 < q by omega), hs]
    · have hj : i - 2 * q < n - 2 * q := by omega
      have hxj : (i - 2 * q) ^^^ 1 = (i ^^^ 1) - 2 * q := by
        rw [hx, xor_one (i - 2 * q)]
        split <;> split <;> omega
      have hge : 2 * q ≤ i ^^^ 1 := by rw [hx]; split <;> omega
      by_cases hsk : n ≤ i ^^^ 1
      · rw [if_pos hsk, ih]
        unfold clH
        cases t.getLast? with
        | none => rfl
        | some x =>
          have hs := cl_step pr m (i - 2 * q) (n - 2 * q) t.dropLast hj
          rw [if_pos (by omega), show (i - 2 * q) / 2 = i / 2 - q from by omega, show (n - 2 * q + 1) / 2 = (n + 1) / 2 - q from by omega] at hs
          simp only [if_neg (show ¬ i / 2 < q by omega), if_neg hc, hs]
      · rw [if_neg hsk]
        cases t with
        | nil => rfl
        | cons x r =>
          rw [clS, ih]
          have hm2 : i % 2 = (i - 2 * q) % 2 := by omega
          by_cases hr : r = []
          · subst hr
            have hs := cl_step pr m (i - 2 * q) (n - 2 * q) [] hj
            rw [if_neg (by omega)] at hs
            simp [clH, hc, hs, clS]
          · obtain ⟨g1, g2⟩ := hlast x r hr
            have hs := cl_step pr m (i - 2 * q) (n - 2 * q) (x :: r.dropLast) hj
            rw [if_neg (by omega), clS, show (i - 2 * q) / 2 = i / 2 - q from by omega, show (n - 2 * q + 1) / 2 = (n + 1) / 2 - q from by omega, ← hm2] at hs
            unfold clH
            rw [g1, g2]
            simp only [if_neg hc, if_neg (show ¬ i / 2 < q by omega), hs]
end Go.Proofs.Ytibknlfadoeglaa
