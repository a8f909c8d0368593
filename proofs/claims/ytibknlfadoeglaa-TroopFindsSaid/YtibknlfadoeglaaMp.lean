/- Maps: what is found behind a change. -/
import Derived.Test.YtibknlfadoeglaaAmQ
namespace Go.Proofs.Ytibknlfadoeglaa
set_option linter.all false
open Go.RowKit
theorem mfind_shift (k : List Int) : ∀ (es : List (List Int × Int)) (i : Nat), mfind k (i + 1) es = (mfind k i es).map fun p => (p.1 + 1, p.2)
  | [], i => rfl
  | (k', v) :: r, i => by
    unfold mfind
    split
    · rfl
    · exact mfind_shift k r (i + 1)
theorem mget_nil (k : List Int) : mget k [] = 0 := rfl
theorem mhas_nil (k : List Int) : mhas k [] = false := rfl
theorem mget_cons (k k' : List Int) (v : Int) (r : List (List Int × Int)) : mget k ((k', v) :: r) = if k = k' then v else mget k r := by
  unfold mget
  rw [mfind]
  by_cases h : k = k'
  · rw [if_pos h, if_pos h]
  · rw [if_neg h, if_neg h, mfind_shift]; cases mfind k 0 r <;> rfl
theorem mhas_cons (k k' : List Int) (v : Int) (r : List (List Int × Int)) : mhas k ((k', v) :: r) = if k = k' then true else mhas k r := by
  unfold mhas
  rw [mfind]
  by_cases h : k = k'
  · rw [if_pos h, if_pos h]; rfl
  · rw [if_neg h, if_neg h, mfind_shift]; cases mfind k 0 r <;> rfl
def mputR (k : List Int) (v : Int) : List (List Int × Int) → List (List Int × Int)
  | [] => [(k, v)]
  | (k', v') :: r => if k = k' then (k', v) :: r else (k', v') :: mputR k v r
theorem mput_R (k : List Int) (v : Int) : ∀ es, mput k v es = mputR k v es
  | [] => rfl
  | (k', v') :: r => by
    have ih := mput_R k v r
    unfold mput mpos mopen at ih ⊢
    rw [mputR, mfind]
    by_cases h : k = k'
    · rw [if_pos h, if_pos h]; simp [mset]
    · rw [if_neg h, if_neg h, mfind_shift, ← ih]
      cases mfind k 0 r with
      | none => simp [mset]
      | some p => simp [mset]
theorem mput_def (k : List Int) (v : Int) (es : List (List Int × Int)) : mset (mpos k es) v (mopen k es) = mput k v es := rfl
theorem mget_put (k : List Int) (v : Int) (es : List (List Int × Int)) : mget k (mput k v es) = v := by
  rw [mput_R]
  induction es with
  | nil => rw [mputR, mget_cons, if_pos rfl]
  | cons e r ih =>
    obtain ⟨k', v'⟩ := e
    rw [mputR]
    split
    · rename_i h; rw [mget_cons, if_pos h]
    · rename_i h; rw [mget_cons, if_neg h, ih]
theorem mhas_put (k : List Int) (v : Int) (es : List (List Int × Int)) : mhas k (mput k v es) = true := by
  rw [mput_R]
  induction es with
  | nil => rw [mputR, mhas_cons, if_pos rfl]
  | cons e r ih =>
    obtain ⟨k', v'⟩ := e
    rw [mputR]
    split
    · rename_i h; rw [mhas_cons, if_pos h]
    · rename_i h; rw [mhas_cons, if_neg h, ih]
theorem mget_other {k k2 : List Int} (hk : k2 ≠ k) (v : Int) (es : List (List Int × Int)) : mget k2 (mput k v es) = mget k2 es := by
  rw [mput_R]
  induction es with
  | nil => rw [mputR, mget_cons, if_neg hk]
  | cons e r ih =>
    obtain ⟨k', v'⟩ := e
    rw [mputR]
    split
    · rename_i h; rw [mget_cons, mget_cons, if_neg (h ▸ hk), if_neg (h ▸ hk)]
    · rename_i h; rw [mget_cons, mget_cons, ih]
theorem mhas_other {k k2 : List Int} (hk : k2 ≠ k) (v : Int) (es : List (List Int × Int)) : mhas k2 (mput k v es) = mhas k2 es := by
  rw [mput_R]
  induction es with
  | nil => rw [mputR, mhas_cons, if_neg hk]
  | cons e r ih =>
    obtain ⟨k', v'⟩ := e
    rw [mputR]
    split
    · rename_i h; rw [mhas_cons, mhas_cons, if_neg (h ▸ hk)]
    · rename_i h; rw [mhas_cons, mhas_cons, ih]
theorem mpos_lt (k : List Int) (es : List (List Int × Int)) : mpos k es < (mopen k es).length := by
  unfold mpos mopen
  cases h : mfind k 0 es with
  | none => simp
  | some p =>
    obtain ⟨i, v⟩ := p
    have := mget_some h
    exact (List.getElem?_eq_some_iff.1 this).1
theorem mget_put_if (k k2 : List Int) (v : Int) (es : List (List Int × Int)) : mget k2 (mput k v es) = if k2 = k then v else mget k2 es := by
  by_cases h : k2 = k
  · subst h; rw [if_pos rfl, mget_put]
  · rw [if_neg h, mget_other h]
theorem mhas_put_if (k k2 : List Int) (v : Int) (es : List (List Int × Int)) : mhas k2 (mput k v es) = if k2 = k then true else mhas k2 es := by
  by_cases h : k2 = k
  · subst h; rw [if_pos rfl, mhas_put]
  · rw [if_neg h, mhas_other h]
end Go.Proofs.Ytibknlfadoeglaa
