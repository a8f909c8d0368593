/- What is seen: the plain laws. -/
import Derived.Test.YtibknlfadoeglaaLnC
namespace Go.Proofs.Ytibknlfadoeglaa
set_option linter.all false
open Go.RowKit
theorem lq_top (n m : Nat) (hn : 0 < n) (_ : m ≤ n) : lq n m n = m := by
  unfold lq
  rw [show 2 * n * m + n = n + 2 * n * m by omega, Nat.add_mul_div_left _ _ (by omega), Nat.div_eq_of_lt (by omega)]; omega
theorem sgn_mul (d : Int) (n : Nat) (h : n = d.natAbs) : d.sign * n = d := by rw [h]; exact Int.sign_mul_natAbs d
/-- Between two numbers, on the way. -/
theorem way_in (d : Int) (q : Nat) (hq : q ≤ d.natAbs) (f : Int) : min f (f + d) ≤ f + d.sign * q ∧ f + d.sign * q ≤ max f (f + d) := by
  rcases Int.lt_trichotomy d 0 with h | h | h
  · rw [Int.sign_eq_neg_one_of_neg h]; omega
  · subst h; simp
  · rw [Int.sign_eq_one_of_pos h]; omega
theorem lpt_box (a b : Cel) (k : Nat) (hk : k ≤ max (b.x - a.x).natAbs (b.y - a.y).natAbs) :
    (min a.x b.x ≤ (lpt a (b.x - a.x).sign (b.y - a.y).sign (b.x - a.x).natAbs (b.y - a.y).natAbs k).x ∧ (lpt a (b.x - a.x).sign (b.y - a.y).sign (b.x - a.x).natAbs (b.y - a.y).natAbs k).x ≤ max a.x b.x) ∧
    (min a.y b.y ≤ (lpt a (b.x - a.x).sign (b.y - a.y).sign (b.x - a.x).natAbs (b.y - a.y).natAbs k).y ∧ (lpt a (b.x - a.x).sign (b.y - a.y).sign (b.x - a.x).natAbs (b.y - a.y).natAbs k).y ≤ max a.y b.y) := by
  have ex : a.x + (b.x - a.x) = b.x := by omega
  have ey : a.y + (b.y - a.y) = b.y := by omega
  unfold lpt
  split
  · rename_i h
    have hq : lq (b.x - a.x).natAbs (b.y - a.y).natAbs k ≤ (b.y - a.y).natAbs := by
      rcases Nat.eq_zero_or_pos (b.x - a.x).natAbs with h0 | h0
      · have : k = 0 := by omega
        subst this; rw [lq_zero]; omega
      · exact lq_le _ _ _ h0 (by omega)
    have w1 := way_in (b.x - a.x) k (by omega) a.x
    have w2 := way_in (b.y - a.y) _ hq a.y
    rw [ex] at w1; rw [ey] at w2
    exact ⟨w1, w2⟩
  · rename_i h
    have hq : lq (b.y - a.y).natAbs (b.x - a.x).natAbs k ≤ (b.x - a.x).natAbs := lq_le _ _ _ (by omega) (by omega)
    have w1 := way_in (b.y - a.y) k (by omega) a.y
    have w2 := way_in (b.x - a.x) _ hq a.x
    rw [ey] at w1; rw [ex] at w2
    exact ⟨w2, w1⟩
theorem lpt_last (a b : Cel) : lpt a (b.x - a.x).sign (b.y - a.y).sign (b.x - a.x).natAbs (b.y - a.y).natAbs (max (b.x - a.x).natAbs (b.y - a.y).natAbs) = b := by
  obtain ⟨bx, by_⟩ := b
  unfold lpt
  split
  · rename_i h
    simp only at h ⊢
    rw [Nat.max_eq_left h, sgn_mul _ _ rfl]
    rcases Nat.eq_zero_or_pos (bx - a.x).natAbs with h0 | h0
    · rw [h0, lq_zero]; congr 1; omega; simp; omega
    · rw [lq_top _ _ h0 h, sgn_mul _ _ rfl]; congr 1 <;> omega
  · rename_i h
    simp only at h ⊢
    rw [Nat.max_eq_right (by omega), sgn_mul _ _ rfl, lq_top _ _ (by omega) (by omega), sgn_mul _ _ rfl]; congr 1 <;> omega
theorem sgn_ne {d : Int} {k : Nat} (h1 : 0 < k) (h2 : k < d.natAbs) : d.sign * k ≠ 0 ∧ d.sign * k ≠ d := by
  rcases Int.lt_trichotomy d 0 with h | h | h
  · rw [Int.sign_eq_neg_one_of_neg h]; omega
  · subst h; simp at h2
  · rw [Int.sign_eq_one_of_pos h]; omega
theorem lpt_mid (a b : Cel) (k : Nat) (h0 : 0 < k) (hk : k < max (b.x - a.x).natAbs (b.y - a.y).natAbs) :
    lpt a (b.x - a.x).sign (b.y - a.y).sign (b.x - a.x).natAbs (b.y - a.y).natAbs k ≠ a ∧ lpt a (b.x - a.x).sign (b.y - a.y).sign (b.x - a.x).natAbs (b.y - a.y).natAbs k ≠ b := by
  have key : ∀ p : Cel, (p.x ≠ a.x ∧ p.x ≠ b.x ∨ p.y ≠ a.y ∧ p.y ≠ b.y) → p ≠ a ∧ p ≠ b := by
    intro p h
    constructor
    · intro e; subst e; omega
    · intro e; subst e; omega
  apply key
  unfold lpt
  split
  · have := sgn_ne (d := b.x - a.x) h0 (by omega)
    simp only; omega
  · have := sgn_ne (d := b.y - a.y) h0 (by omega)
    simp only; omega
theorem lineV_at (a b : Cel) (k : Nat) (hk : k ≤ max (b.x - a.x).natAbs (b.y - a.y).natAbs) : (lineV a b).getD k default = lpt a (b.x - a.x).sign (b.y - a.y).sign (b.x - a.x).natAbs (b.y - a.y).natAbs k := by
  rw [getD_at _ _ (by rw [lineV_len]; omega)]
  simp [lineV, lpts]
theorem inF_near {f : Fld} {c : Cel} (h : fldE f = 0) (hc : inF f c = true) : nearB c = true := by
  obtain ⟨h1, h2, _, _⟩ := fldE_ok h
  obtain ⟨h3, h4⟩ := inF_iff.1 hc
  unfold nearB; simp; omega
theorem line_in {f : Fld} {a b : Cel} (ha : inF f a = true) (hb : inF f b = true) (k : Nat) (hk : k ≤ max (b.x - a.x).natAbs (b.y - a.y).natAbs) : inF f ((lineV a b).getD k default) = true := by
  rw [lineV_at a b k hk]
  have := lpt_box a b k hk
  rw [inF_iff] at ha hb ⊢
  omega
theorem line_far {f : Fld} {a b : Cel} (h : fldE f = 0) (ha : inF f a = true) (hb : inF f b = true) : (b.x - a.x).natAbs ≤ 39 ∧ (b.y - a.y).natAbs ≤ 39 := by
  obtain ⟨h1, h2, _, _⟩ := fldE_ok h
  rw [inF_iff] at ha hb
  omega
/-- Does one look over a place? -/
def clearP (p : Int) : Bool := decide (p % 3 = 0)
/-- Nothing stands between the ends of a line. -/
def openV (f : Fld) (a b : Cel) : Bool := (List.range (max (b.x - a.x).natAbs (b.y - a.y).natAbs - 1)).all fun k => clearP (placeV f ((lineV a b).getD (k + 1) default))
theorem openV_t {f : Fld} {a b : Cel} (h : ∀ k, 0 < k → k < max (b.x - a.x).natAbs (b.y - a.y).natAbs → clearP (placeV f ((lineV a b).getD k default)) = true) : openV f a b = true := by
  unfold openV
  rw [List.all_eq_true]
  intro k hk
  exact h (k + 1) (by omega) (by simp at hk; omega)
theorem openV_f {f : Fld} {a b : Cel} {k : Nat} (h0 : 0 < k) (h1 : k < max (b.x - a.x).natAbs (b.y - a.y).natAbs) (h : clearP (placeV f ((lineV a b).getD k default)) = false) : openV f a b = false := by
  unfold openV
  rw [List.all_eq_false]
  refine ⟨k - 1, by simp; omega, ?_⟩
  rw [show k - 1 + 1 = k by omega, h]; simp
def looksV (f : Fld) (a b : Cel) : Bool := openV f a b || openV f b a
theorem place_03 {f : Fld} (h : fldE f = 0) {c : Cel} (hc : inF f c = true) : 0 ≤ placeV f c ∧ placeV f c < 4 := by
  obtain ⟨_, _, _, h4⟩ := fldE_ok h
  obtain ⟨_, _, i3, i4, _⟩ := place_ix h hc
  have hl : (c.y * f.w + c.x).toNat < f.p.length := by omega
  unfold placeV
  rw [getD_at _ _ hl]
  exact h4 _ (List.getElem_mem hl)
end Go.Proofs.Ytibknlfadoeglaa
