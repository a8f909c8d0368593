/- Closing the seats: the plain law. -/
import Derived.Test.YtibknlfadoeglaaSe
namespace Go.Proofs.Ytibknlfadoeglaa
set_option linter.all false
open Go.RowKit
/-- One round: of each seat that has one, an order, as long as there are fewer than most. -/
def tkS (most : Int) : List Ord → List Sea → List Ord × List Sea
  | out, [] => (out, [])
  | out, s :: r =>
    if 0 < s.waits.length ∧ (out.length : Int) < most then ((tkS most (out ++ [s.waits.getD 0 default]) r).1, ⟨s.waits.drop 1, s.late, s.gone⟩ :: (tkS most (out ++ [s.waits.getD 0 default]) r).2)
    else ((tkS most out r).1, s :: (tkS most out r).2)
def sumW (l : List Sea) : Nat := (l.map fun s => s.waits.length).sum
theorem tkS_sum (most : Int) : ∀ (l : List Sea) (out : List Ord), (tkS most out l).1.length + sumW (tkS most out l).2 = out.length + sumW l
  | [], out => by simp [tkS, sumW]
  | s :: r, out => by
    unfold tkS
    split
    · rename_i h
      have := tkS_sum most r (out ++ [s.waits.getD 0 default])
      simp only [sumW, List.map_cons, List.sum_cons, List.length_append, List.length_cons, List.length_nil, List.length_drop] at this ⊢
      omega
    · have := tkS_sum most r out
      simp only [sumW, List.map_cons, List.sum_cons] at this ⊢
      omega
theorem tkS_ge (most : Int) : ∀ (l : List Sea) (out : List Ord), out.length ≤ (tkS most out l).1.length
  | [], out => by simp [tkS]
  | s :: r, out => by
    unfold tkS
    split
    · have := tkS_ge most r (out ++ [s.waits.getD 0 default]); simp only [List.length_append, List.length_cons, List.length_nil] at this ⊢; omega
    · exact tkS_ge most r out
theorem tkS_le (most : Int) : ∀ (l : List Sea) (out : List Ord), (out.length : Int) ≤ max most 0 → ((tkS most out l).1.length : Int) ≤ max most 0
  | [], out, h => by simpa [tkS] using h
  | s :: r, out, h => by
    unfold tkS
    split
    · exact tkS_le most r _ (by simp; omega)
    · exact tkS_le most r out h
theorem tkS_len (most : Int) : ∀ (l : List Sea) (out : List Ord), (tkS most out l).2.length = l.length
  | [], out => by simp [tkS]
  | s :: r, out => by unfold tkS; split <;> simp [tkS_len most r]
theorem tkS_same (most : Int) : ∀ (l : List Sea) (out : List Ord), (tkS most out l).1.length = out.length → tkS most out l = (out, l)
  | [], out, _ => by simp [tkS]
  | s :: r, out, h => by
    unfold tkS at h ⊢
    split at h
    · have := tkS_ge most r (out ++ [s.waits.getD 0 default])
      simp only [List.length_append, List.length_cons, List.length_nil] at this h
      omega
    · rename_i hc
      rw [if_neg hc, tkS_same most r out h]
/-- A round can do nothing more. -/
def StillS (most : Int) (x : List Ord × List Sea) : Prop := ¬ ((x.1.length : Int) < most) ∨ ∀ s ∈ x.2, s.waits.length = 0
theorem still_tk {most : Int} : ∀ {l : List Sea} {out : List Ord}, StillS most (out, l) → tkS most out l = (out, l)
  | [], out, _ => by simp [tkS]
  | s :: r, out, h => by
    have hc : ¬ (0 < s.waits.length ∧ (out.length : Int) < most) := by
      rcases h with h | h
      · exact fun q => h q.2
      · have := h s (by simp); omega
    unfold tkS
    rw [if_neg hc, still_tk (l := r) (out := out) (by rcases h with h | h; exact .inl h; exact .inr fun s hs => h s (by simp [hs]))]
theorem still_tk' {most : Int} {x : List Ord × List Sea} (h : StillS most x) : tkS most x.1 x.2 = x := by
  obtain ⟨a, b⟩ := x
  exact still_tk h
def itS (most : Int) : Nat → List Ord × List Sea → List Ord × List Sea
  | 0, x => x
  | n + 1, x => itS most n (tkS most x.1 x.2)
theorem itS_succ (most : Int) : ∀ (n : Nat) (x : List Ord × List Sea), itS most (n + 1) x = tkS most (itS most n x).1 (itS most n x).2
  | 0, x => rfl
  | n + 1, x => by rw [itS, itS_succ most n]; rfl
theorem itS_add (most : Int) (x : List Ord × List Sea) (a : Nat) (h : tkS most (itS most a x).1 (itS most a x).2 = itS most a x) : ∀ d, itS most (a + d) x = itS most a x
  | 0 => rfl
  | d + 1 => by rw [← Nat.add_assoc, itS_succ, itS_add most x a h d, h]
/-- Two numbers of rounds behind which nothing is done. -/
theorem itS_eq (most : Int) (x : List Ord × List Sea) (a b : Nat) (ha : tkS most (itS most a x).1 (itS most a x).2 = itS most a x) (hb : tkS most (itS most b x).1 (itS most b x).2 = itS most b x) : itS most a x = itS most b x := by
  rcases Nat.le_total a b with h | h
  · rw [show b = a + (b - a) by omega, itS_add most x a ha]
  · rw [show a = b + (a - b) by omega, itS_add most x b hb]
/-- How late a seat is behind a turn. -/
def lateS (s : Sea) : Sea := ⟨s.waits, if 0 < s.waits.length then 0 else if s.gone then s.late else min (s.late + 1) 1000000, s.gone⟩
/-- P19.3. -/
def closeV (most : Int) (l : List Sea) : List Ord × List Sea := itS most 50 ([], l.map lateS)
theorem tk_dec (most : Int) (n : Nat) : ∀ (l : List Sea) (out : List Ord), ((tkS most out l).1.length : Int) < most → (∀ s ∈ l, s.waits.length ≤ n + 1) → ∀ s ∈ (tkS most out l).2, s.waits.length ≤ n
  | [], out, _, _, s, hs => by simp [tkS] at hs
  | x :: r, out, h, hl, s, hs => by
    unfold tkS at h hs
    split at h
    · rename_i hc
      rw [if_pos hc] at hs
      simp only at h hs
      rcases List.mem_cons.1 hs with rfl | hs
      · have := hl x (by simp); simp only [List.length_drop]; omega
      · exact tk_dec most n r _ h (fun s hs => hl s (by simp [hs])) s hs
    · rename_i hc
      rw [if_neg hc] at hs
      simp only at h hs
      rcases List.mem_cons.1 hs with rfl | hs
      · have := tkS_ge most r out; omega
      · exact tk_dec most n r _ h (fun s hs => hl s (by simp [hs])) s hs
theorem it_fix {most : Int} {x : List Ord × List Sea} (h : StillS most x) : ∀ n, itS most n x = x
  | 0 => rfl
  | n + 1 => by
    have := still_tk (l := x.2) (out := x.1) h
    rw [itS, this]; exact it_fix h n
theorem it_still (most : Int) : ∀ (n : Nat) (x : List Ord × List Sea), (∀ s ∈ x.2, s.waits.length ≤ n) → StillS most (itS most n x)
  | 0, x, h => .inr fun s hs => Nat.le_zero.1 (h s hs)
  | n + 1, x, h => by
    rw [itS]
    by_cases hc : ((tkS most x.1 x.2).1.length : Int) < most
    · exact it_still most n _ (tk_dec most n x.2 x.1 hc h)
    · have hs : StillS most (tkS most x.1 x.2) := .inl hc
      rw [it_fix hs]; exact hs
theorem close_at {most : Int} {l : List Sea} {n : Nat} (hw : ∀ s ∈ l, s.waits.length ≤ 50) (h : tkS most (itS most n ([], l.map lateS)).1 (itS most n ([], l.map lateS)).2 = itS most n ([], l.map lateS)) : closeV most l = itS most n ([], l.map lateS) := by
  have hs : ∀ m, 50 ≤ m → tkS most (itS most m ([], l.map lateS)).1 (itS most m ([], l.map lateS)).2 = itS most m ([], l.map lateS) := fun m hm => by
    refine still_tk' (it_still most m _ fun s hs => ?_)
    obtain ⟨t, ht, rfl⟩ := List.mem_map.1 hs
    exact Nat.le_trans (hw t ht) hm
  have key : ∀ m, 50 ≤ m → itS most m ([], l.map lateS) = itS most n ([], l.map lateS) := fun m hm => itS_eq most _ m n (hs m hm) h
  unfold closeV
  exact key 50 (Nat.le_refl _)
theorem seasE_ok {l : List Sea} (h : seasE l = 0) : 1 ≤ l.length ∧ l.length ≤ 8 ∧ (∀ s ∈ l, s.waits.length ≤ 50) ∧ ∀ k, k < l.length → seaR (l.getD k default) k = true := by
  unfold seasE at h
  split at h
  · simp at h
  · split at h
    · simp at h
    · rename_i h1 h2
      split at h
      · rename_i h3
        refine ⟨by omega, by omega, fun s hs => ?_, fun k hk => ?_⟩
        · simp only [List.any_eq_true, decide_eq_true_eq, not_exists, not_and] at h2
          have := h2 s hs; omega
        · exact List.all_eq_true.1 h3 k (by simpa using hk)
      · simp at h
theorem seaR_ok {s : Sea} {i : Int} (h : seaR s i = true) : (0 ≤ s.late ∧ s.late ≤ 1000000) ∧ (s.gone = true → s.late = 0 ∧ s.waits.length = 0) ∧ ∀ o ∈ s.waits, o.by_ = i ∧ ordE o = 0 := by
  unfold seaR seaBad at h
  simp only [Bool.and_eq_true, Bool.not_eq_true', Bool.or_eq_false_iff, Bool.not_eq_false', within_iff, List.any_eq_false] at h
  refine ⟨h.1.1, fun hg => ?_, fun o ho => ?_⟩
  · have := h.1.2
    rw [hg] at this
    simp at this
    exact ⟨this.1, by rw [this.2]; rfl⟩
  · have := h.2 o ho
    unfold ordNot at this
    simp at this
    exact this
theorem drop_at {α : Type} [Inhabited α] (l : List α) (i : Nat) (h : i < l.length) : l.drop i = l.getD i default :: l.drop (i + 1) := by rw [List.drop_eq_getElem_cons h, getD_at _ _ h]
theorem seaL_set {l : List Sea} {i : Nat} {x : Sea} (h : ∀ s ∈ l, seaL s) (hx : seaL x) : ∀ s ∈ l.set i x, seaL s := fun s hs => by
  rcases List.mem_or_eq_of_mem_set hs with h' | h'
  · exact h s h'
  · rw [h']; exact hx
theorem sumW_nil {most : Int} {out : List Ord} {l : List Sea} (h : (tkS most out l).1.length ≠ out.length) : out.length < (tkS most out l).1.length := by
  have := tkS_ge most l out; omega
end Go.Proofs.Ytibknlfadoeglaa
