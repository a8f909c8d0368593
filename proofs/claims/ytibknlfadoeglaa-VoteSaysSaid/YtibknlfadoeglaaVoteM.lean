/- Package vote, in plain Lean. -/
import Derived.Test.YtibknlfadoeglaaCnt
namespace Go.Proofs.Ytibknlfadoeglaa
set_option linter.all false
open Go.RowKit
def bitB (n k : Nat) : Bool := n / 2 ^ k % 2 == 1
theorem bit_test (n k : Nat) : bitB n k = n.testBit k := by
  rw [Nat.testBit_eq_decide_div_mod_eq]; exact Bool.eq_iff_iff.2 (by simp [bitB])
theorem has_bit (n k : Nat) (h : k < 32) : hasB n (k : Int) = bitB n k := by
  unfold hasB bitB
  rw [Int.toNat_natCast, decide_eq_true (by omega), Bool.true_and]
theorem has_out (n : Nat) (k : Int) (hn : n < 65536) (h : ¬ (0 ≤ k ∧ k < 16)) : hasB n k = false := by
  unfold hasB
  by_cases h1 : 0 ≤ k ∧ k < 32
  · have : 2 ^ 16 ≤ 2 ^ k.toNat := Nat.pow_le_pow_right (by decide) (by omega)
    rw [Nat.div_eq_of_lt (by omega)]
    simp
  · rw [decide_eq_false h1]; rfl
def clr (n k : Nat) : Nat := if bitB n k then n - 2 ^ k else n
theorem pow31 (k : Nat) (hk : k < 32) : 0 < 2 ^ k ∧ 2 ^ k ≤ 2147483648 := ⟨Nat.pow_pos (by decide), Nat.pow_le_pow_right (show 0 < 2 by decide) (show k ≤ 31 by omega)⟩
theorem and_clr (n k : Nat) (hn : n < 4294967296) (hk : k < 32) : n &&& (4294967295 - 2 ^ k) = clr n k := by
  obtain ⟨hp0, hp⟩ := pow31 k hk
  have hz : (BitVec.ofNat 32 n &&& ~~~BitVec.ofNat 32 (2 ^ k)) &&& (BitVec.ofNat 32 n &&& BitVec.ofNat 32 (2 ^ k)) = 0#32 := by
    ext i hi
    simp only [BitVec.getElem_and, BitVec.getElem_not, BitVec.getElem_zero]
    cases (BitVec.ofNat 32 n)[i] <;> cases (BitVec.ofNat 32 (2 ^ k))[i] <;> rfl
  have h3 : (BitVec.ofNat 32 n &&& ~~~BitVec.ofNat 32 (2 ^ k)) ||| (BitVec.ofNat 32 n &&& BitVec.ofNat 32 (2 ^ k)) = BitVec.ofNat 32 n := by
    ext i hi
    simp only [BitVec.getElem_and, BitVec.getElem_not, BitVec.getElem_or]
    cases (BitVec.ofNat 32 n)[i] <;> cases (BitVec.ofNat 32 (2 ^ k))[i] <;> rfl
  have h1 := BitVec.toNat_add_of_and_eq_zero hz
  rw [BitVec.add_eq_or_of_and_eq_zero _ _ hz, h3] at h1
  simp only [BitVec.toNat_and, BitVec.toNat_not, BitVec.toNat_ofNat] at h1
  rw [Nat.mod_eq_of_lt (show n < 2 ^ 32 by omega), Nat.mod_eq_of_lt (show 2 ^ k < 2 ^ 32 by omega), nat_bit, show 2 ^ 32 - 1 - 2 ^ k = 4294967295 - 2 ^ k from by omega] at h1
  unfold clr bitB
  rcases Nat.mod_two_eq_zero_or_one (n / 2 ^ k) with h | h
  · rw [h] at h1 ⊢; rw [if_neg (by decide)]; omega
  · rw [h] at h1 ⊢; rw [if_pos (by decide)]; omega
theorem or_bit (n k : Nat) (hn : n < 4294967296) (hk : k < 32) (hb : bitB n k = false) : n ||| 2 ^ k = n + 2 ^ k ∧ n + 2 ^ k < 4294967296 := by
  obtain ⟨hp0, hp⟩ := pow31 k hk
  have h0 : n / 2 ^ k % 2 = 0 := by
    rcases Nat.mod_two_eq_zero_or_one (n / 2 ^ k) with h | h
    · exact h
    · simp [bitB, h] at hb
  have hz : BitVec.ofNat 32 n &&& BitVec.ofNat 32 (2 ^ k) = 0#32 := by
    apply BitVec.eq_of_toNat_eq
    simp only [BitVec.toNat_and, BitVec.toNat_ofNat]
    rw [Nat.mod_eq_of_lt (show n < 2 ^ 32 by omega), Nat.mod_eq_of_lt (show 2 ^ k < 2 ^ 32 by omega), nat_bit, h0]; simp
  have h1 := BitVec.toNat_add_of_and_eq_zero hz
  rw [BitVec.add_eq_or_of_and_eq_zero _ _ hz] at h1
  simp only [BitVec.toNat_or, BitVec.toNat_ofNat] at h1
  rw [Nat.mod_eq_of_lt (show n < 2 ^ 32 by omega), Nat.mod_eq_of_lt (show 2 ^ k < 2 ^ 32 by omega)] at h1
  have : n ||| 2 ^ k < 2 ^ 32 := Nat.or_lt_two_pow (by omega) (by omega)
  omega
theorem clr_le (n k : Nat) : clr n k ≤ n := by
  unfold clr
  split
  · exact Nat.sub_le _ _
  · exact Nat.le_refl _
theorem clr_zero (k : Nat) : clr 0 k = 0 := Nat.le_zero.1 (clr_le 0 k)
theorem pc_zero : pcK 0 32 = 0 := by decide
def tooP (m s : Nat) : Bool := decide (pcK m 32 < 2 * pcK s 32)
def tooM (m : Nat) (g : List Nat) : Option Nat := g.findIdx? (tooP m)
def lv (g : List Nat) (k : Nat) : List Nat := (g.set k 0).map (clr · k)
theorem lv_ref (g : List Nat) (k : Nat) : (g.map (clr · k)).set k 0 = lv g k := by unfold lv; rw [List.map_set, clr_zero]
theorem lv_len (g : List Nat) (k : Nat) : (lv g k).length = g.length := by simp [lv]
def runV : Nat → Nat → List Nat → Nat × List Nat
  | 0, m, g => (m, g)
  | n + 1, m, g => match tooM m g with
    | none => (m, g)
    | some k => runV n (clr m k) (lv g k)
def nz (g : List Nat) : Nat := g.countP (fun s => decide (s ≠ 0))
theorem nz_lv (g : List Nat) (k : Nat) (h : k < g.length) (h0 : g[k] ≠ 0) : nz (lv g k) < nz g := by
  have h1 : nz (lv g k) ≤ nz (g.set k 0) := by
    unfold nz lv
    rw [List.countP_map]
    apply List.countP_mono_left
    intro x _ hx
    simp only [Function.comp, decide_eq_true_eq] at hx ⊢
    intro he; rw [he, clr_zero] at hx; exact hx rfl
  have h2 : nz (g.set k 0) + 1 = nz g := by
    unfold nz
    rw [List.countP_set h]
    have hp : 0 < g.countP (fun s => decide (s ≠ 0)) := List.countP_pos_iff.2 ⟨g[k], List.getElem_mem h, by simpa using h0⟩
    simp only [decide_eq_true_eq]
    rw [if_pos h0, if_neg (by simp)]
    omega
  omega
theorem run_none (n m : Nat) (g : List Nat) (h : tooM m g = none) : runV n m g = (m, g) := by
  cases n with
  | zero => rfl
  | succ n => rw [runV, h]
theorem too_some (m : Nat) (g : List Nat) (k : Nat) (h : tooM m g = some k) : ∃ hk : k < g.length, tooP m g[k] = true ∧ g[k] ≠ 0 := by
  unfold tooM at h
  rw [List.findIdx?_eq_some_iff_getElem] at h
  obtain ⟨hk, h1, _⟩ := h
  refine ⟨hk, h1, ?_⟩
  intro h0
  rw [h0] at h1
  simp [tooP, pc_zero] at h1
theorem run_some (n m : Nat) (g : List Nat) (k : Nat) (h : tooM m g = some k) (hn : nz g ≤ n) : ∃ n', nz (lv g k) ≤ n' ∧ runV n m g = runV n' (clr m k) (lv g k) := by
  obtain ⟨hk, _, h0⟩ := too_some m g k h
  have := nz_lv g k hk h0
  cases n with
  | zero => omega
  | succ n => exact ⟨n, by omega, by rw [runV, h]⟩
theorem nz_le (g : List Nat) : nz g ≤ g.length := List.countP_le_length
def badC (m k s : Nat) : Bool := decide (s &&& (4294967295 - m) ≠ 0) || bitB s k || (decide (s ≠ 0) && !bitB m k)
def badR (m k s j : Nat) : Bool := bitB s j && (!bitB m k || !bitB m j || decide (j = k))
def rightE (m : Nat) (g : List Nat) : Int := if m = 0 ∨ 65535 < m then 1 else if g.length ≠ 16 then 4 else if (List.range 16).any (fun k => badC m k (g.getD k 0)) then 4 else if (tooM m g).isSome then 4 else 0
theorem bad_iff (m k s : Nat) (hm : m < 4294967296) (hs : s < 4294967296) (hk : k < 32) : badC m k s = true ↔ ∃ j, j < 32 ∧ badR m k s j = true := by
  have hc : ∀ j, (s &&& (4294967295 - m)).testBit j = (s.testBit j && !m.testBit j) := by
    intro j
    rw [Nat.testBit_and, show 4294967295 - m = 2 ^ 32 - (m + 1) from by omega, Nat.testBit_two_pow_sub_succ (by omega)]
    by_cases hj : j < 32
    · simp [hj]
    · have : s.testBit j = false := Nat.testBit_lt_two_pow (Nat.lt_of_lt_of_le hs (show 2 ^ 32 ≤ 2 ^ j from Nat.pow_le_pow_right (by decide) (by omega)))
      simp [this]
  have h32 : ∀ j, s.testBit j = true → j < 32 := by
    intro j hj
    rcases Nat.lt_or_ge j 32 with h | h
    · exact h
    · rw [Nat.testBit_lt_two_pow (Nat.lt_of_lt_of_le hs (show 2 ^ 32 ≤ 2 ^ j from Nat.pow_le_pow_right (by decide) h))] at hj
      exact absurd hj (by decide)
  unfold badC badR
  simp only [bit_test, Bool.or_eq_true, decide_eq_true_eq, Bool.and_eq_true, Bool.not_eq_true']
  constructor
  · rintro ((h | h) | ⟨h1, h2⟩)
    · obtain ⟨j, hj⟩ := Nat.exists_testBit_of_ne_zero h
      rw [hc, Bool.and_eq_true, Bool.not_eq_true'] at hj
      exact ⟨j, h32 j hj.1, hj.1, .inl (.inr hj.2)⟩
    · exact ⟨k, hk, h, .inr rfl⟩
    · obtain ⟨j, hj⟩ := Nat.exists_testBit_of_ne_zero h1
      exact ⟨j, h32 j hj, hj, .inl (.inl h2)⟩
  · rintro ⟨j, _, h1, (h | h) | rfl⟩
    · right
      refine ⟨?_, h⟩
      rintro rfl
      simp at h1
    · left; left
      intro h0
      have := hc j
      rw [h0, h1, h] at this
      simp at this
    · exact .inl (.inr h1)
def castV (m : Nat) (g : List Nat) (b a : Int) : (Nat × List Nat) × Bool × Int :=
  if rightE m g ≠ 0 then ((0, []), false, rightE m g)
  else if (hasB m b && hasB m a) = false then ((0, []), false, 7)
  else if b = a then ((0, []), false, 1)
  else if bitB (g.getD a.toNat 0) b.toNat then ((0, []), false, 8)
  else (runV 16 m (g.set a.toNat (g.getD a.toNat 0 + 2 ^ b.toNat)), !bitB (runV 16 m (g.set a.toNat (g.getD a.toNat 0 + 2 ^ b.toNat))).1 a.toNat, 0)
def backV (m : Nat) (g : List Nat) (b a : Int) : (Nat × List Nat) × Int :=
  if rightE m g ≠ 0 then ((0, []), rightE m g)
  else if (hasB m b && hasB m a && bitB (g.getD a.toNat 0) b.toNat) = false then ((0, []), 7)
  else ((m, g.set a.toNat (g.getD a.toNat 0 - 2 ^ b.toNat)), 0)
theorem right_zero (m : Nat) (g : List Nat) (h : rightE m g = 0) : (0 < m ∧ m ≤ 65535) ∧ g.length = 16 ∧ (∀ k, k < 16 → badC m k (g.getD k 0) = false) ∧ tooM m g = none := by
  unfold rightE at h
  split at h
  · simp at h
  split at h
  · simp at h
  split at h
  · simp at h
  split at h
  · simp at h
  rename_i h1 h2 h3 h4
  refine ⟨by omega, by simpa using h2, ?_, by simpa using h4⟩
  intro k hk
  simp only [Bool.not_eq_true, List.any_eq_false] at h3
  simpa using h3 k (by simp [hk])
/-- Who is against one is a member, and so is this one. -/
theorem right_has (m : Nat) (g : List Nat) (h : rightE m g = 0) (hg : ∀ s ∈ g, s < 4294967296) (a b : Nat) (ha : a < 16) (hb : b < 32) (hs : bitB (g.getD a 0) b = true) : bitB m a = true ∧ bitB m b = true := by
  obtain ⟨hm, hl, hbad, _⟩ := right_zero m g h
  have hs2 : g.getD a 0 < 4294967296 := by
    rw [getD_lt _ _ _ (by omega)]; exact hg _ (List.getElem_mem _)
  have := not_congr (bad_iff m a (g.getD a 0) (by omega) hs2 (by omega))
  rw [hbad a ha] at this
  have hn := this.1 (by decide)
  have hr : badR m a (g.getD a 0) b = false := by
    rcases hq : badR m a (g.getD a 0) b with _ | _
    · rfl
    · exact absurd ⟨b, hb, hq⟩ hn
  unfold badR at hr
  rw [hs] at hr
  simp only [Bool.true_and, Bool.or_eq_false_iff, Bool.not_eq_false'] at hr
  exact ⟨hr.1.1, hr.1.2⟩
end Go.Proofs.Ytibknlfadoeglaa
