/- Closing the seats, by the reference. -/
import Derived.Test.YtibknlfadoeglaaSeM
namespace Go.Proofs.Ytibknlfadoeglaa
set_option linter.all false
open Go.RowKit
set_option maxRecDepth 100000
set_option maxHeartbeats 1000000
def natP (n : Nat) : List PV := [pI n]
/-- The seats behind so many orders taken of each. -/
def dropS (l : List Sea) (T : List Nat) : List Sea := (List.range l.length).map fun i => ⟨(l.getD i default).waits.drop (T.getD i default), (lateS (l.getD i default)).late, (l.getD i default).gone⟩
theorem dropS_len (l : List Sea) (T : List Nat) : (dropS l T).length = l.length := by simp [dropS]
theorem dropS_at (l : List Sea) (T : List Nat) (i : Nat) (h : i < l.length) : (dropS l T).getD i default = ⟨(l.getD i default).waits.drop (T.getD i default), (lateS (l.getD i default)).late, (l.getD i default).gone⟩ := by
  rw [getD_at _ _ (by rw [dropS_len]; exact h)]
  simp [dropS]
theorem ext_getD {α : Type} [Inhabited α] {l m : List α} (h : l.length = m.length) (h2 : ∀ i, i < l.length → l.getD i default = m.getD i default) : l = m := by
  refine List.ext_getElem h fun i i1 i2 => ?_
  have := h2 i i1
  rwa [getD_at _ _ i1, getD_at _ _ i2] at this
theorem set_getD {α : Type} [Inhabited α] (l : List α) (i j : Nat) (x : α) (h : i < l.length) : (l.set i x).getD j default = if i = j then x else l.getD j default := by
  by_cases e : i = j
  · subst e; rw [if_pos rfl, getD_at _ _ (by simpa using h)]; simp
  · rw [if_neg e, List.getD_eq_getElem?_getD, List.getElem?_set_ne e, List.getD_eq_getElem?_getD]
theorem dropS_0 (l : List Sea) : dropS l (List.replicate l.length 0) = l.map lateS := by
  refine ext_getD (by simp [dropS_len]) fun i hi => ?_
  rw [dropS_len] at hi
  rw [dropS_at _ _ _ hi, getD_at (List.replicate _ _) i (by simpa using hi), getD_at (l.map lateS) i (by simpa using hi), getD_at l i hi]
  simp [lateS]
theorem dropS_set (l : List Sea) (T : List Nat) (i n : Nat) (hT : T.length = l.length) (h : i < l.length) : dropS l (T.set i n) = (dropS l T).set i ⟨(l.getD i default).waits.drop n, (lateS (l.getD i default)).late, (l.getD i default).gone⟩ := by
  refine ext_getD (by simp [dropS_len]) fun j hj => ?_
  rw [dropS_len] at hj
  rw [dropS_at _ _ _ hj, set_getD (dropS l T) _ _ _ (by rw [dropS_len]; exact h), set_getD T _ _ _ (by omega), dropS_at _ _ _ hj]
  by_cases e : i = j
  · subst e; simp
  · rw [if_neg e, if_neg e]
def TkQ (most : Int) (l : List Sea) (k i : Nat) (o : List Ord) (U : List Nat) : Prop :=
  U.length = l.length ∧ o.length ≤ 100 ∧ (∀ j, j < l.length → U.getD j default ≤ (l.getD j default).waits.length) ∧
  ((o.length : Int) < most → ∀ j, j < l.length → U.getD j default = if j < i then min (k + 1) (l.getD j default).waits.length else min k (l.getD j default).waits.length)
theorem TkQ.t {most : Int} {l : List Sea} {k i : Nat} {o : List Ord} {U : List Nat} (h : TkQ most l k i o U) (hi : i < l.length) (hk : k < (l.getD i default).waits.length) (hm : (o.length : Int) < most) (hm2 : most ≤ 100) (x : Ord) :
    U.getD i default = k ∧ TkQ most l k (i + 1) (o ++ [x]) (U.set i (k + 1)) := by
  obtain ⟨h1, h2, h3, h4⟩ := h
  have e := h4 hm i hi
  rw [if_neg (by omega), Nat.min_eq_left (by omega)] at e
  refine ⟨e, by simp [h1], by simp; omega, fun j hj => ?_, fun hm' j hj => ?_⟩
  · rw [set_getD _ _ _ _ (by omega)]
    split
    · rename_i e'; subst e'; omega
    · exact h3 j hj
  · have := h4 hm j hj
    rw [set_getD _ _ _ _ (by omega)]
    by_cases e' : i = j
    · subst e'; rw [if_pos rfl, if_pos (by omega)]; omega
    · rw [if_neg e', this]
      by_cases e2 : j < i
      · rw [if_pos e2, if_pos (by omega)]
      · rw [if_neg e2, if_neg (by omega)]
theorem TkQ.f {most : Int} {l : List Sea} {k i : Nat} {o : List Ord} {U : List Nat} (h : TkQ most l k i o U) (hi : i < l.length) (hc : ¬ (k < (l.getD i default).waits.length ∧ (o.length : Int) < most)) : TkQ most l k (i + 1) o U ∧ ¬ (0 < ((dropS l U).getD i default).waits.length ∧ (o.length : Int) < most) := by
  obtain ⟨h1, h2, h3, h4⟩ := h
  refine ⟨⟨h1, h2, h3, fun hm j hj => ?_⟩, ?_⟩
  · rw [h4 hm j hj]
    by_cases e : j = i
    · subst e; rw [if_neg (by omega), if_pos (by omega)]; omega
    · by_cases e2 : j < i
      · rw [if_pos e2, if_pos (by omega)]
      · rw [if_neg e2, if_neg (by omega)]
  · rw [dropS_at _ _ _ hi]
    simp only [List.length_drop]
    rintro ⟨h5, h6⟩
    have := h4 h6 i hi
    rw [if_neg (by omega)] at this
    omega
theorem TkQ.next {most : Int} {l : List Sea} {k : Nat} {o : List Ord} {U : List Nat} (h : TkQ most l k l.length o U) : TkQ most l (k + 1) 0 o U := by
  obtain ⟨h1, h2, h3, h4⟩ := h
  refine ⟨h1, h2, h3, fun hm j hj => ?_⟩
  rw [h4 hm j hj, if_pos hj, if_neg (by omega)]
theorem TkQ.zero (most : Int) (l : List Sea) : TkQ most l 0 0 [] (List.replicate l.length 0) := by
  refine ⟨by simp, by simp, fun j hj => ?_, fun _ j hj => ?_⟩ <;> rw [getD_at _ _ (by simpa using hj)] <;> simp
end Go.Proofs.Ytibknlfadoeglaa
