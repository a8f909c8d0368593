/- Lemmas for the proof of marchSays.proved. -/
import Derived.Test.YtehcnnodkhcgfaaMarchSaysM7
namespace Go.Proofs.Ytehcnnodkhcgfaa
set_option linter.all false
open Go.RowKit
set_option maxRecDepth 100000
set_option maxHeartbeats 2000000
def revK {α : Type} [Inhabited α] (k : Nat) (l : List α) : List α := (List.range l.length).map fun i => if i < k ∨ l.length - k ≤ i then l.getD (l.length - 1 - i) default else l.getD i default
theorem revK_len {α : Type} [Inhabited α] (k : Nat) (l : List α) : (revK k l).length = l.length := by simp [revK]
theorem revK_get {α : Type} [Inhabited α] (k : Nat) (l : List α) (i : Nat) (hi : i < l.length) : (revK k l).getD i default = if i < k ∨ l.length - k ≤ i then l.getD (l.length - 1 - i) default else l.getD i default := by
  rw [getD_at _ _ (by rw [revK_len]; exact hi)]; simp [revK]
theorem revK_zero {α : Type} [Inhabited α] (l : List α) : revK 0 l = l := by
  refine ext_getD (revK_len 0 l) fun i hi => ?_
  rw [revK_len] at hi
  rw [revK_get 0 l i hi, if_neg (by omega)]
theorem revK_succ {α : Type} [Inhabited α] (l : List α) (k : Nat) (h : 2 * k + 1 < l.length) : revK (k + 1) l = ((revK k l).set k ((revK k l).getD (l.length - 1 - k) default)).set (l.length - 1 - k) ((revK k l).getD k default) := by
  have hrl := revK_len k l
  refine ext_getD (by simp [revK_len]) fun i hi => ?_
  rw [revK_len] at hi
  rw [set_getD _ _ _ _ (by rw [List.length_set]; omega), set_getD _ _ _ _ (by omega), revK_get _ l i hi, revK_get k l k (by omega), revK_get k l (l.length - 1 - k) (by omega), revK_get k l i hi]
  rw [if_neg (show ¬ (l.length - 1 - k < k ∨ l.length - k ≤ l.length - 1 - k) by omega), if_neg (show ¬ (k < k ∨ l.length - k ≤ k) by omega)]
  by_cases e1 : l.length - 1 - k = i
  · rw [if_pos e1, if_pos (by omega)]; congr 1; omega
  · rw [if_neg e1]
    by_cases e2 : k = i
    · rw [if_pos e2, if_pos (by omega)]; congr 1; omega
    · rw [if_neg e2]
      by_cases e3 : i < k ∨ l.length - k ≤ i
      · rw [if_pos e3, if_pos (by omega)]
      · rw [if_neg e3, if_neg (by omega)]
theorem revK_end {α : Type} [Inhabited α] (l : List α) (k : Nat) (h : l.length ≤ 2 * k + 1) : revK k l = l.reverse := by
  refine ext_getD (by rw [revK_len, List.length_reverse]) fun i hi => ?_
  rw [revK_len] at hi
  rw [revK_get k l i hi, getD_at _ _ (show i < l.reverse.length by simpa using hi), List.getElem_reverse, ← getD_at l _ (show l.length - 1 - i < l.length by omega)]
  by_cases e3 : i < k ∨ l.length - k ≤ i
  · rw [if_pos e3]
  · rw [if_neg e3]; congr 1; omega
theorem cel_rev (l : List Cel) (hl : l.length ≤ 1000000) : Spec Try.prog 112 [.own 0] [.row 25 2 (l.map celP)] (.tup []) [.row 25 2 (l.reverse.map celP)] := by
  refine spec_am Try.func112 rfl rfl mix 28 rfl [] Try.results112 (Nat.le_of_ble_eq_true rfl) ?_
  (try simp (etaStruct := .none) only [push_cast, DrawG, Int.cast_ofNat_Int, Nat.reduceAdd, Nat.reduceSub, Nat.reduceMul, reduceCtorEq, reduceIte, Nat.reduceEqDiff, Nat.reduceLT, Nat.reduceLeDiff, Nat.reduceBEq, Int.reduceToNat, Int.reduceLE, Int.reduceLT]); (try simp (disch := omega) only [wrap_in, wk_self, Int.tdiv_eq_ediv_of_nonneg, Int.tmod_eq_emod_of_nonneg]); (repeat with_reducible refine obA ?_)
  refine loopI (fun k : Nat => ⟨[(3, I .i64 ((l.length : Int) - 1 - k)), (2, I .i64 k), (0, .own 0)], [(0, .row 25 2 ((revK k l).map celP))], 1⟩) (fun k : Nat => 2 * k ≤ l.length) (fun k : Nat => l.length - k) (0) (Nat.zero_le _) (To.mk [0] rfl rfl (by decide) ?_ ?_) ?_
  · simp (etaStruct := .none) only [push_cast, DrawG, Int.cast_ofNat_Int, Nat.reduceAdd, Nat.reduceSub, Nat.reduceMul, reduceCtorEq, reduceIte, Nat.reduceEqDiff, Nat.reduceLT, Nat.reduceLeDiff, Nat.reduceBEq, Int.reduceToNat, Int.reduceLE, Int.reduceLT, revK_zero]
  · (iterate 2 ((try simp (etaStruct := .none) only [push_cast, DrawG, Int.cast_ofNat_Int, Nat.reduceAdd, Nat.reduceSub, Nat.reduceMul, reduceCtorEq, reduceIte, Nat.reduceEqDiff, Nat.reduceLT, Nat.reduceLeDiff, Nat.reduceBEq, Int.reduceToNat, Int.reduceLE, Int.reduceLT, Int.ofNat_zero, Int.sub_zero]); (try simp (disch := omega) only [wrap_in, wk_self, Int.tdiv_eq_ediv_of_nonneg, Int.tmod_eq_emod_of_nonneg]); (repeat with_reducible refine obA ?_)))
  rintro k hk
  have hrl := revK_len k l
  (try simp (etaStruct := .none) only [push_cast, DrawG, Int.cast_ofNat_Int, Nat.reduceAdd, Nat.reduceSub, Nat.reduceMul, reduceCtorEq, reduceIte, Nat.reduceEqDiff, Nat.reduceLT, Nat.reduceLeDiff, Nat.reduceBEq, Int.reduceToNat, Int.reduceLE, Int.reduceLT]); (try simp (disch := omega) only [wrap_in, wk_self, Int.tdiv_eq_ediv_of_nonneg, Int.tmod_eq_emod_of_nonneg]); (repeat with_reducible refine obA ?_)
  refine cond_i (fun h1 => ?_) (fun h1 => ?_)
  · (try simp only [decide_eq_true_eq, decide_eq_false_iff_not, Bool.not_eq_true', Bool.not_eq_false', Bool.or_eq_true, Bool.and_eq_true, Bool.or_eq_false_iff, Bool.and_eq_false_iff, Int.not_lt, Int.not_le, Bool.not_true, Bool.not_false, not_and, not_or] at h1)
    obtain ⟨j, hj⟩ : ∃ j : Nat, (l.length : Int) - 1 - k = (j : Int) := Int.eq_ofNat_of_zero_le (by omega)
    have hjn : j = l.length - 1 - k := by omega
    have hs := revK_succ l k (by omega)
    rw [← hjn] at hs
    have hk1 : k < (revK k l).length := by omega
    have hj1 : j < (revK k l).length := by omega
    have hj2 : j < ((revK k l).set k ((revK k l).getD j default)).length := by rw [List.length_set]; omega
    (iterate 2 ((try simp (etaStruct := .none) only [push_cast, DrawG, Int.cast_ofNat_Int, Nat.reduceAdd, Nat.reduceSub, Nat.reduceMul, reduceCtorEq, reduceIte, Nat.reduceEqDiff, Nat.reduceLT, Nat.reduceLeDiff, Nat.reduceBEq, Int.reduceToNat, Int.reduceLE, Int.reduceLT, hj, getD_in _ _ _ hk1, getD_in _ _ _ hj1, celP, List.length_set]); (try simp (disch := omega) only [wrap_in, wk_self, Int.tdiv_eq_ediv_of_nonneg, Int.tmod_eq_emod_of_nonneg]); (repeat with_reducible refine obA ?_)))
    (try (refine ⟨by kernel_rfl, ?_⟩))
    (iterate 2 ((try simp (etaStruct := .none) only [push_cast, DrawG, Int.cast_ofNat_Int, Nat.reduceAdd, Nat.reduceSub, Nat.reduceMul, reduceCtorEq, reduceIte, Nat.reduceEqDiff, Nat.reduceLT, Nat.reduceLeDiff, Nat.reduceBEq, Int.reduceToNat, Int.reduceLE, Int.reduceLT, hj, getD_in _ _ _ hk1, getD_in _ _ _ hj1, celP, List.length_set]); (try simp (disch := omega) only [wrap_in, wk_self, Int.tdiv_eq_ediv_of_nonneg, Int.tmod_eq_emod_of_nonneg]); (repeat with_reducible refine obA ?_)))
    refine ⟨k + 1, by omega, by omega, To.mk [0] rfl rfl (by decide) ?_ ?_⟩
    · (iterate 2 ((try simp (etaStruct := .none) only [push_cast, DrawG, Int.cast_ofNat_Int, Nat.reduceAdd, Nat.reduceSub, Nat.reduceMul, reduceCtorEq, reduceIte, Nat.reduceEqDiff, Nat.reduceLT, Nat.reduceLeDiff, Nat.reduceBEq, Int.reduceToNat, Int.reduceLE, Int.reduceLT, hs, List.map_set, celP]); (try simp (disch := omega) only [wrap_in, wk_self, Int.tdiv_eq_ediv_of_nonneg, Int.tmod_eq_emod_of_nonneg]); (repeat with_reducible refine obA ?_)))
    · have e1 : (j : Int) - 1 = (l.length : Int) - 1 - ((k : Int) + 1) := by omega
      (iterate 2 ((try simp (etaStruct := .none) only [push_cast, DrawG, Int.cast_ofNat_Int, Nat.reduceAdd, Nat.reduceSub, Nat.reduceMul, reduceCtorEq, reduceIte, Nat.reduceEqDiff, Nat.reduceLT, Nat.reduceLeDiff, Nat.reduceBEq, Int.reduceToNat, Int.reduceLE, Int.reduceLT, e1]); (try simp (disch := omega) only [wrap_in, wk_self, Int.tdiv_eq_ediv_of_nonneg, Int.tmod_eq_emod_of_nonneg]); (repeat with_reducible refine obA ?_)))
  · (try simp only [decide_eq_true_eq, decide_eq_false_iff_not, Bool.not_eq_true', Bool.not_eq_false', Bool.or_eq_true, Bool.and_eq_true, Bool.or_eq_false_iff, Bool.and_eq_false_iff, Int.not_lt, Int.not_le, Bool.not_true, Bool.not_false, not_and, not_or] at h1)
    have hr := revK_end l k (by omega)
    (try simp (etaStruct := .none) only [push_cast, DrawG, Int.cast_ofNat_Int, Nat.reduceAdd, Nat.reduceSub, Nat.reduceMul, reduceCtorEq, reduceIte, Nat.reduceEqDiff, Nat.reduceLT, Nat.reduceLeDiff, Nat.reduceBEq, Int.reduceToNat, Int.reduceLE, Int.reduceLT]); (try simp (disch := omega) only [wrap_in, wk_self, Int.tdiv_eq_ediv_of_nonneg, Int.tmod_eq_emod_of_nonneg]); (repeat with_reducible refine obA ?_)
    refine retM [0] rfl rfl (by decide) ⟨?_, trivial⟩ trivial ?_ <;> simp (etaStruct := .none) only [push_cast, DrawG, Int.cast_ofNat_Int, Nat.reduceAdd, Nat.reduceSub, Nat.reduceMul, reduceCtorEq, reduceIte, Nat.reduceEqDiff, Nat.reduceLT, Nat.reduceLeDiff, Nat.reduceBEq, Int.reduceToNat, Int.reduceLE, Int.reduceLT, hr]
def wayD (R : List Int) (f : Fld) (a b : Cel) : Int := if wayE R f a b = 0 then R.getD (idxN f b) default else 0
theorem wayE_cases (R : List Int) (f : Fld) (a b : Cel) : (wayE R f a b ≠ 0 ∧ (fldE f ≠ 0 ∨ ¬ (inF f a = true ∧ inF f b = true) ∨ placeV f a = 1 ∨ placeV f b = 1)) ∨ (fldE f = 0 ∧ inF f a = true ∧ inF f b = true ∧ placeV f a ≠ 1 ∧ placeV f b ≠ 1 ∧ ((wayE R f a b = 6 ∧ R.getD (idxN f b) default < 0) ∨ (wayE R f a b = 0 ∧ 0 ≤ R.getD (idxN f b) default))) := by
  unfold wayE
  by_cases h1 : fldE f = 0
  · rw [if_neg (by simp [h1])]
    by_cases h2 : inF f a = true ∧ inF f b = true
    · rw [if_neg (fun h => h h2)]
      by_cases h3 : placeV f a = 1 ∨ placeV f b = 1
      · rw [if_pos h3]; exact .inl ⟨by decide, .inr (.inr h3)⟩
      · rw [if_neg h3]
        refine .inr ⟨h1, h2.1, h2.2, fun h => h3 (.inl h), fun h => h3 (.inr h), ?_⟩
        by_cases h4 : R.getD (idxN f b) default < 0
        · rw [if_pos h4]; exact .inl ⟨rfl, h4⟩
        · rw [if_neg h4]; exact .inr ⟨rfl, by omega⟩
    · rw [if_pos h2]; exact .inl ⟨by decide, .inr (.inl h2)⟩
  · rw [if_pos h1]; exact .inl ⟨h1, .inl h1⟩
end Go.Proofs.Ytehcnnodkhcgfaa
namespace Go.Proofs.Ytehcnnodkhcgfaa
set_option linter.all false
open Go.RowKit
set_option maxRecDepth 100000
set_option maxHeartbeats 2000000
def PP (f : Fld) (far : List Int) (c n : Cel) : Prop := (costC f n).2 = true ∧ 0 ≤ far.getD (idxN f n) default ∧ far.getD (idxN f n) default + kV (placeV f c) = far.getD (idxN f c) default
instance (f : Fld) (far : List Int) (c n : Cel) : Decidable (PP f far c n) := by unfold PP; infer_instance
section
variable {f : Fld} {a b c : Cel} {R : List Int} {W H : Nat}
theorem way_cost (s : Srch f a b R W H) (hf : fldE f = 0) (hpa : placeV f a ≠ 1) (hc : inF f c = true) (h0 : 0 ≤ R.getD (idxN f c) default) : costC f c = (kV (placeV f c), true) := by
  have epl : placeV f c = f.p.getD (idxN f c) default := rfl
  have : placeV f c ≠ 1 := by
    rw [epl]
    rcases s.r.why _ (in_celW s.w s.h s.w0 hf hc).2 h0 with ⟨w1, _⟩ | ⟨_, _, _, hr, _⟩
    · rw [List.mem_singleton] at w1; rw [w1]; exact hpa
    · exact hr
  unfold costC
  rw [if_pos hc, if_neg this]
theorem pp_iff (s : Srch f a b R W H) (hf : fldE f = 0) (ha : inF f a = true) (hb : inF f b = true) (hpa : placeV f a ≠ 1) (hc : inF f c = true) (h0 : 0 ≤ R.getD (idxN f c) default) (hb0 : 0 ≤ R.getD (idxN f b) default) (hcb : R.getD (idxN f c) default + leftH b c ≤ R.getD (idxN f b) default) (hfc : (runS f a b).1.getD (idxN f c) default = R.getD (idxN f c) default) {n : Cel} (hn : n ∈ sidesC c) :
    PP f (runS f a b).1 c n ↔ (inF f n = true ∧ nxtP R f c n = true) :=
  prog_ok s.w s.h s.w0 hf s.l s.r ha hpa hc h0 s.ass hcb ((s.end hf ha hb).2 hb0).2 hfc hn
theorem pp_found (s : Srch f a b R W H) (hf : fldE f = 0) (ha : inF f a = true) (hb : inF f b = true) (hpa : placeV f a ≠ 1) (hc : inF f c = true) (h0 : 0 ≤ R.getD (idxN f c) default) (hb0 : 0 ≤ R.getD (idxN f b) default) (hcb : R.getD (idxN f c) default + leftH b c ≤ R.getD (idxN f b) default) (hfc : (runS f a b).1.getD (idxN f c) default = R.getD (idxN f c) default)
    {k : Nat} (hk : k < 4) (hn : ∀ i, i < k → ¬ PP f (runS f a b).1 c ((sidesC c).getD i default)) (hp : PP f (runS f a b).1 c ((sidesC c).getD k default)) : (sidesC c).getD k default = nxtC R f c := by
  have h4 : (sidesC c).length = 4 := rfl
  have e1 : (sidesC c).find? (fun n => decide (PP f (runS f a b).1 c n)) = some ((sidesC c).getD k default) := by
    rw [List.find?_eq_some_iff_getElem]
    refine ⟨by simpa using hp, k, by omega, (getD_at _ _ (by omega)).symm, fun j hj => ?_⟩
    have := hn j hj
    rw [getD_at _ _ (by omega)] at this
    simpa using this
  have e2 := find_sides (f := f) (R := R) (c := c) (p := fun n => decide (PP f (runS f a b).1 c n)) fun n hn => by
    have := pp_iff s hf ha hb hpa hc h0 hb0 hcb hfc hn
    rw [Bool.eq_iff_iff, decide_eq_true_eq, Bool.and_eq_true]; exact this
  rw [e1] at e2
  unfold nxtC
  rw [← e2]; rfl
theorem pp_ex (s : Srch f a b R W H) (hf : fldE f = 0) (ha : inF f a = true) (hb : inF f b = true) (hpa : placeV f a ≠ 1) (hc : inF f c = true) (h0 : 0 ≤ R.getD (idxN f c) default) (hb0 : 0 ≤ R.getD (idxN f b) default) (hcb : R.getD (idxN f c) default + leftH b c ≤ R.getD (idxN f b) default) (hfc : (runS f a b).1.getD (idxN f c) default = R.getD (idxN f c) default)
    (hca : c ≠ a) (hn : ∀ i, i < 4 → ¬ PP f (runS f a b).1 c ((sidesC c).getD i default)) : False := by
  obtain ⟨_, hm, hin, _, h1, h2⟩ := nxt_ok s.w s.h s.w0 hf s.l s.r ha hc hca h0
  have hms := (List.mem_filter.1 hm).1
  obtain ⟨i, hi, e⟩ := mem_getD.1 hms
  refine hn i hi ?_
  rw [← e] at hms
  rw [pp_iff s hf ha hb hpa hc h0 hb0 hcb hfc hms, e]
  exact ⟨hin, by unfold nxtP; rw [Bool.and_eq_true, decide_eq_true_eq, decide_eq_true_eq]; exact ⟨h1, h2⟩⟩
theorem nxt_step (s : Srch f a b R W H) (hf : fldE f = 0) (ha : inF f a = true) (hb : inF f b = true) (hc : inF f c = true) (h0 : 0 ≤ R.getD (idxN f c) default) (hb0 : 0 ≤ R.getD (idxN f b) default) (hcb : R.getD (idxN f c) default + leftH b c ≤ R.getD (idxN f b) default) (hca : c ≠ a) :
    inF f (nxtC R f c) = true ∧ 0 ≤ R.getD (idxN f (nxtC R f c)) default ∧ R.getD (idxN f (nxtC R f c)) default + 2 ≤ R.getD (idxN f c) default ∧ R.getD (idxN f (nxtC R f c)) default + leftH b (nxtC R f c) ≤ R.getD (idxN f b) default ∧ (runS f a b).1.getD (idxN f (nxtC R f c)) default = R.getD (idxN f (nxtC R f c)) default := by
  obtain ⟨_, hm, hin, hadj, h1, h2⟩ := nxt_ok s.w s.h s.w0 hf s.l s.r ha hc hca h0
  have hkv := kV_b (placeV f c)
  have hcons := hh_cons s.w s.h s.w0 b
  rw [← s.l] at hcons
  obtain ⟨en, hnL⟩ := in_celW s.w s.h s.w0 hf hin
  obtain ⟨ec, hcL⟩ := in_celW s.w s.h s.w0 hf hc
  have hle := hcons _ _ hnL hcL hadj.symm
  simp only at hle
  rw [← en, ← ec] at hle
  refine ⟨hin, h1, by omega, by omega, ?_⟩
  exact s.ass.known hcons (in_celW s.w s.h s.w0 hf ha).2 s.r hnL h1 (fun x hx => by have := ((s.end hf ha hb).2 hb0).2 x hx; rw [← en]; omega)
theorem runS_b (s : Srch f a b R W H) (hl : f.p.length ≤ 1600) (p : Nat) (hp : p < f.p.length) : -1 ≤ (runS f a b).1.getD p default ∧ (runS f a b).1.getD p default ≤ 4800 := by
  have h1 := s.ass.low p hp
  have h2 := s.ass.top p hp
  have h3 := sumL_le one0 1 one0_le (runS f a b).1
  rw [s.ass.len] at h3
  omega
end
theorem cel_ne {c a : Cel} : ¬ (c.x = a.x ∧ c.y = a.y) ↔ c ≠ a := by
  obtain ⟨x, y⟩ := c; obtain ⟨u, v⟩ := a; simp
theorem pfind_s (f : Fld) (a b : Cel) (hl : f.p.length ≤ 9223372036854775807) (R : List Int) (hR : FloodIs f [a] R) : Spec Try.prog 35 [fldA f, celA a, celA b] [] (.tup [.c (.sl 2 ((if wayE R f a b = 0 then wayV R f a b else []).map celP)), I .i64 (wayD R f a b), I .i64 (wayE R f a b)]) [] := by
  rcases wayE_cases R f a b with ⟨hE, hbad⟩ | ⟨hf, ha, hb, hpa, hpb, ⟨hE, h0⟩ | ⟨hE, h0⟩⟩
  · have e : wayD R f a b = 0 := if_neg hE
    rw [if_neg hE]
    refine spec_am Try.func35 rfl rfl mix 107 rfl [.tmp 6, .tmp 7, .tmp 8] Try.results35 (Nat.le_of_ble_eq_true rfl) ?_
    (try simp (etaStruct := .none) only [push_cast, DrawG, Int.cast_ofNat_Int, Nat.reduceAdd, Nat.reduceSub, Nat.reduceMul, reduceCtorEq, reduceIte, Nat.reduceEqDiff, Nat.reduceLT, Nat.reduceLeDiff, Nat.reduceBEq, Int.reduceToNat, Int.reduceLE, Int.reduceLT]); (try simp (disch := omega) only [wrap_in, wk_self, Int.tdiv_eq_ediv_of_nonneg, Int.tmod_eq_emod_of_nonneg]); (repeat with_reducible refine obA ?_)
    refine callP (searched_no f a b hl hbad R) (WkL.refl _) ?_
    (try simp (etaStruct := .none) only [push_cast, DrawG, Int.cast_ofNat_Int, Nat.reduceAdd, Nat.reduceSub, Nat.reduceMul, reduceCtorEq, reduceIte, Nat.reduceEqDiff, Nat.reduceLT, Nat.reduceLeDiff, Nat.reduceBEq, Int.reduceToNat, Int.reduceLE, Int.reduceLT]); (try simp (disch := omega) only [wrap_in, wk_self, Int.tdiv_eq_ediv_of_nonneg, Int.tmod_eq_emod_of_nonneg]); (repeat with_reducible refine obA ?_)
    refine cond_i (fun h1 => ?_) (fun h1 => ?_)
    · (try simp only [decide_eq_true_eq, decide_eq_false_iff_not, Bool.not_eq_true', Bool.not_eq_false', Bool.or_eq_true, Bool.and_eq_true, Bool.or_eq_false_iff, Bool.and_eq_false_iff, Int.not_lt, Int.not_le, Bool.not_true, Bool.not_false, not_and, not_or] at h1)
      skip
      (try simp (etaStruct := .none) only [push_cast, DrawG, Int.cast_ofNat_Int, Nat.reduceAdd, Nat.reduceSub, Nat.reduceMul, reduceCtorEq, reduceIte, Nat.reduceEqDiff, Nat.reduceLT, Nat.reduceLeDiff, Nat.reduceBEq, Int.reduceToNat, Int.reduceLE, Int.reduceLT]); (try simp (disch := omega) only [wrap_in, wk_self, Int.tdiv_eq_ediv_of_nonneg, Int.tmod_eq_emod_of_nonneg]); (repeat with_reducible refine obA ?_)
      (first | (refine ret0 rfl (by repeat' (first | exact trivial | exact rfl | refine ⟨?_, ?_⟩)) (Wk.of ?_); (try simp (etaStruct := .none) only [push_cast, DrawG, Int.cast_ofNat_Int, Nat.reduceAdd, Nat.reduceSub, Nat.reduceMul, reduceCtorEq, reduceIte, Nat.reduceEqDiff, Nat.reduceLT, Nat.reduceLeDiff, Nat.reduceBEq, Int.reduceToNat, Int.reduceLE, Int.reduceLT]); first | done | (simp [e, *]; done) | (simp_all [e]; done)) | (refine ret0 rfl (by repeat' (first | exact trivial | exact rfl | refine ⟨?_, ?_⟩)) ?_; (try simp (etaStruct := .none) only [push_cast, DrawG, Int.cast_ofNat_Int, Nat.reduceAdd, Nat.reduceSub, Nat.reduceMul, reduceCtorEq, reduceIte, Nat.reduceEqDiff, Nat.reduceLT, Nat.reduceLeDiff, Nat.reduceBEq, Int.reduceToNat, Int.reduceLE, Int.reduceLT]); (try simp [e, *]); (try (first | exact Wk.refl _ | exact Wk.nil _ | (refine Wk.tup ?_; repeat' (first | exact trivial | exact Wk.refl _ | exact Wk.nil _ | refine ⟨?_, ?_⟩ | (refine Wk.agg ?_)))))))
    · (try simp only [decide_eq_true_eq, decide_eq_false_iff_not, Bool.not_eq_true', Bool.not_eq_false', Bool.or_eq_true, Bool.and_eq_true, Bool.or_eq_false_iff, Bool.and_eq_false_iff, Int.not_lt, Int.not_le, Bool.not_true, Bool.not_false, not_and, not_or] at h1)
      exact absurd h1 hE
  · have e : wayD R f a b = 0 := if_neg (by rw [hE]; decide)
    rw [e, hE, if_neg (by decide)]
    refine spec_am Try.func35 rfl rfl mix 107 rfl [.tmp 6, .tmp 7, .tmp 8] Try.results35 (Nat.le_of_ble_eq_true rfl) ?_
    (try simp (etaStruct := .none) only [push_cast, DrawG, Int.cast_ofNat_Int, Nat.reduceAdd, Nat.reduceSub, Nat.reduceMul, reduceCtorEq, reduceIte, Nat.reduceEqDiff, Nat.reduceLT, Nat.reduceLeDiff, Nat.reduceBEq, Int.reduceToNat, Int.reduceLE, Int.reduceLT]); (try simp (disch := omega) only [wrap_in, wk_self, Int.tdiv_eq_ediv_of_nonneg, Int.tmod_eq_emod_of_nonneg]); (repeat with_reducible refine obA ?_)
    refine callP (searched_six f a b hl hf ha hb hpa hpb hR h0) (WkL.refl _) ?_
    (try simp (etaStruct := .none) only [push_cast, DrawG, Int.cast_ofNat_Int, Nat.reduceAdd, Nat.reduceSub, Nat.reduceMul, reduceCtorEq, reduceIte, Nat.reduceEqDiff, Nat.reduceLT, Nat.reduceLeDiff, Nat.reduceBEq, Int.reduceToNat, Int.reduceLE, Int.reduceLT]); (try simp (disch := omega) only [wrap_in, wk_self, Int.tdiv_eq_ediv_of_nonneg, Int.tmod_eq_emod_of_nonneg]); (repeat with_reducible refine obA ?_)
    refine cond_i (fun h1 => ?_) (fun h1 => ?_)
    · (try simp only [decide_eq_true_eq, decide_eq_false_iff_not, Bool.not_eq_true', Bool.not_eq_false', Bool.or_eq_true, Bool.and_eq_true, Bool.or_eq_false_iff, Bool.and_eq_false_iff, Int.not_lt, Int.not_le, Bool.not_true, Bool.not_false, not_and, not_or] at h1)
      (try simp (etaStruct := .none) only [push_cast, DrawG, Int.cast_ofNat_Int, Nat.reduceAdd, Nat.reduceSub, Nat.reduceMul, reduceCtorEq, reduceIte, Nat.reduceEqDiff, Nat.reduceLT, Nat.reduceLeDiff, Nat.reduceBEq, Int.reduceToNat, Int.reduceLE, Int.reduceLT]); (try simp (disch := omega) only [wrap_in, wk_self, Int.tdiv_eq_ediv_of_nonneg, Int.tmod_eq_emod_of_nonneg]); (repeat with_reducible refine obA ?_)
      (first | (refine ret0 rfl (by repeat' (first | exact trivial | exact rfl | refine ⟨?_, ?_⟩)) (Wk.of ?_); (try simp (etaStruct := .none) only [push_cast, DrawG, Int.cast_ofNat_Int, Nat.reduceAdd, Nat.reduceSub, Nat.reduceMul, reduceCtorEq, reduceIte, Nat.reduceEqDiff, Nat.reduceLT, Nat.reduceLeDiff, Nat.reduceBEq, Int.reduceToNat, Int.reduceLE, Int.reduceLT]); first | done | (simp [*]; done) | (simp_all []; done)) | (refine ret0 rfl (by repeat' (first | exact trivial | exact rfl | refine ⟨?_, ?_⟩)) ?_; (try simp (etaStruct := .none) only [push_cast, DrawG, Int.cast_ofNat_Int, Nat.reduceAdd, Nat.reduceSub, Nat.reduceMul, reduceCtorEq, reduceIte, Nat.reduceEqDiff, Nat.reduceLT, Nat.reduceLeDiff, Nat.reduceBEq, Int.reduceToNat, Int.reduceLE, Int.reduceLT]); (try simp [*]); (try (first | exact Wk.refl _ | exact Wk.nil _ | (refine Wk.tup ?_; repeat' (first | exact trivial | exact Wk.refl _ | exact Wk.nil _ | refine ⟨?_, ?_⟩ | (refine Wk.agg ?_)))))))
    · (try simp only [decide_eq_true_eq, decide_eq_false_iff_not, Bool.not_eq_true', Bool.not_eq_false', Bool.or_eq_true, Bool.and_eq_true, Bool.or_eq_false_iff, Bool.and_eq_false_iff, Int.not_lt, Int.not_le, Bool.not_true, Bool.not_false, not_and, not_or] at h1)
      exact absurd h1 (by decide)
  · have e : wayD R f a b = R.getD (idxN f b) default := if_pos hE
    obtain ⟨W, H, s⟩ := srch (b := b) hf ha hpa hR
    have hend := (s.end hf ha hb).2 h0
    have hbF : idxN f b < (runS f a b).1.length := by rw [s.ass.len]; exact (in_celW s.w s.h s.w0 hf hb).2
    have hpx := place_ix hf ha
    rw [e, hE, if_pos rfl]
    refine spec_am Try.func35 rfl rfl mix 107 rfl [.tmp 6, .tmp 7, .tmp 8] Try.results35 (Nat.le_of_ble_eq_true rfl) ?_
    (iterate 2 ((try simp (etaStruct := .none) only [push_cast, Int.cast_ofNat_Int, Nat.reduceAdd, Nat.reduceSub, Nat.reduceMul, reduceCtorEq, reduceIte, Nat.reduceEqDiff, Nat.reduceLT, Nat.reduceLeDiff, Nat.reduceBEq, Int.reduceToNat, Int.reduceLE, Int.reduceLT]); (try simp (disch := omega) only [wrap_in, wk_self, Int.tdiv_eq_ediv_of_nonneg, Int.tmod_eq_emod_of_nonneg]); (repeat with_reducible refine obA ?_)))
    refine callM [] (searched_ok f a b hl hf ha hb hpa hpb hR h0) (WkL.refl _) rfl (by decide) (by simp [lookC_c]) ?_
    (iterate 2 ((try simp (etaStruct := .none) only [push_cast, Int.cast_ofNat_Int, Nat.reduceAdd, Nat.reduceSub, Nat.reduceMul, reduceCtorEq, reduceIte, Nat.reduceEqDiff, Nat.reduceLT, Nat.reduceLeDiff, Nat.reduceBEq, Int.reduceToNat, Int.reduceLE, Int.reduceLT]); (try simp (disch := omega) only [wrap_in, wk_self, Int.tdiv_eq_ediv_of_nonneg, Int.tmod_eq_emod_of_nonneg]); (repeat with_reducible refine obA ?_)))
    refine cond_i (fun h1 => ?_) (fun h1 => ?_)
    · (try simp only [decide_eq_true_eq, decide_eq_false_iff_not, Bool.not_eq_true', Bool.not_eq_false', Bool.or_eq_true, Bool.and_eq_true, Bool.or_eq_false_iff, Bool.and_eq_false_iff, Int.not_lt, Int.not_le, Bool.not_true, Bool.not_false, not_and, not_or] at h1)
      exact absurd h1 (by decide)
    · (try simp only [decide_eq_true_eq, decide_eq_false_iff_not, Bool.not_eq_true', Bool.not_eq_false', Bool.or_eq_true, Bool.and_eq_true, Bool.or_eq_false_iff, Bool.and_eq_false_iff, Int.not_lt, Int.not_le, Bool.not_true, Bool.not_false, not_and, not_or] at h1)
      (iterate 2 ((try simp (etaStruct := .none) only [push_cast, Int.cast_ofNat_Int, Nat.reduceAdd, Nat.reduceSub, Nat.reduceMul, reduceCtorEq, reduceIte, Nat.reduceEqDiff, Nat.reduceLT, Nat.reduceLeDiff, Nat.reduceBEq, Int.reduceToNat, Int.reduceLE, Int.reduceLT]); (try simp (disch := omega) only [wrap_in, wk_self, Int.tdiv_eq_ediv_of_nonneg, Int.tmod_eq_emod_of_nonneg]); (repeat with_reducible refine obA ?_)))
      refine loopI (fun x : Nat × Cel × List Cel => ⟨[(12, .ptr 5 0 0), (11, .own 6), (9, .ptr 0 0 0), (5, .ptr 4 0 0), (4, .ptr 3 0 0)], [(0, srB f b (.own 1) (.own 2)), (1, .row 3 1 ((runS f a b).1.map i64P)), (2, .row 323 4 ((runS f a b).2.map nodP)), (3, .blk 25 [I .i64 a.x, I .i64 a.y]), (4, .blk 25 [I .i64 b.x, I .i64 b.y]), (5, .blk 25 [I .i64 x.2.1.x, I .i64 x.2.1.y]), (6, .row 25 2 (x.2.2.map celP))], 7⟩) (fun x : Nat × Cel × List Cel => inF f x.2.1 = true ∧ 0 ≤ R.getD (idxN f x.2.1) default ∧ R.getD (idxN f x.2.1) default ≤ x.1 ∧ (runS f a b).1.getD (idxN f x.2.1) default = R.getD (idxN f x.2.1) default ∧ R.getD (idxN f x.2.1) default + leftH b x.2.1 ≤ R.getD (idxN f b) default ∧ x.2.2 ++ wayL R f a x.1 x.2.1 = b :: wayL R f a (R.getD (idxN f b) default).toNat b ∧ x.2.2.length + x.1 ≤ 4801) (fun x : Nat × Cel × List Cel => x.1) (((R.getD (idxN f b) default).toNat, b, [b])) (⟨hb, h0, by simp only; omega, hend.1, by simp only [leftH]; omega, rfl, by have := (runS_b s hpx.2.2.2.2 _ (show idxN f b < f.p.length by rw [← s.ass.len]; exact hbF)).2; rw [hend.1] at this; simp only [List.length_singleton]; omega⟩) (To.mk [3, 4, 5, 1, 2, 7, 6] rfl rfl (by decide) ?_ ?_) ?_
      · (iterate 2 ((try simp (etaStruct := .none) only [push_cast, DrawG, Int.cast_ofNat_Int, Nat.reduceAdd, Nat.reduceSub, Nat.reduceMul, reduceCtorEq, reduceIte, Nat.reduceEqDiff, Nat.reduceLT, Nat.reduceLeDiff, Nat.reduceBEq, Int.reduceToNat, Int.reduceLE, Int.reduceLT, srB, celP]); (try simp (disch := omega) only [wrap_in, wk_self, Int.tdiv_eq_ediv_of_nonneg, Int.tmod_eq_emod_of_nonneg]); (repeat with_reducible refine obA ?_)))
      · simp (etaStruct := .none) only [push_cast, DrawG, Int.cast_ofNat_Int, Nat.reduceAdd, Nat.reduceSub, Nat.reduceMul, reduceCtorEq, reduceIte, Nat.reduceEqDiff, Nat.reduceLT, Nat.reduceLeDiff, Nat.reduceBEq, Int.reduceToNat, Int.reduceLE, Int.reduceLT]
      rintro ⟨N, c, out⟩ ⟨hc, hc0, hcN, hfc, hcb, hway, hlen⟩
      simp only at hc hc0 hcN hfc hcb hway hlen
      (iterate 2 ((try simp (etaStruct := .none) only [push_cast, Int.cast_ofNat_Int, Nat.reduceAdd, Nat.reduceSub, Nat.reduceMul, reduceCtorEq, reduceIte, Nat.reduceEqDiff, Nat.reduceLT, Nat.reduceLeDiff, Nat.reduceBEq, Int.reduceToNat, Int.reduceLE, Int.reduceLT]); (try simp (disch := omega) only [wrap_in, wk_self, Int.tdiv_eq_ediv_of_nonneg, Int.tmod_eq_emod_of_nonneg]); (repeat with_reducible refine obA ?_)))
      refine cond_i (fun h2 => ?_) (fun h2 => ?_)
      · (try simp only [decide_eq_true_eq, decide_eq_false_iff_not, Bool.not_eq_true', Bool.not_eq_false', Bool.or_eq_true, Bool.and_eq_true, Bool.or_eq_false_iff, Bool.and_eq_false_iff, Int.not_lt, Int.not_le, Bool.not_true, Bool.not_false, not_and, not_or] at h2)
        have hca : c ≠ a := cel_ne.1 (fun h => by rcases h2 with h2 | h2; exact h2 h.1; exact h2 h.2)
        have hwc := way_cost s hf hpa hc hc0
        have hci := inF_iff.1 hc
        have hfo := fldE_ok hf
        have hkv := kV_b (placeV f c)
        have hcF : idxN f c < (runS f a b).1.length := by rw [s.ass.len]; exact (in_celW s.w s.h s.w0 hf hc).2
        obtain ⟨n1, n2, n3, n4, n5⟩ := nxt_step s hf ha hb hc hc0 h0 hcb hca
        obtain ⟨M, rfl⟩ : ∃ M, N = M + 1 := ⟨N - 1, by omega⟩
        (iterate 2 ((try simp (etaStruct := .none) only [push_cast, Int.cast_ofNat_Int, Nat.reduceAdd, Nat.reduceSub, Nat.reduceMul, reduceCtorEq, reduceIte, Nat.reduceEqDiff, Nat.reduceLT, Nat.reduceLeDiff, Nat.reduceBEq, Int.reduceToNat, Int.reduceLE, Int.reduceLT]); (try simp (disch := omega) only [wrap_in, wk_self, Int.tdiv_eq_ediv_of_nonneg, Int.tmod_eq_emod_of_nonneg]); (repeat with_reducible refine obA ?_)))
        refine callB (pcost_s f b (runS f a b).1 (runS f a b).2 c hf) (WkL.refl _) rfl ?_
        rw [hwc]
        (iterate 2 ((try simp (etaStruct := .none) only [push_cast, Int.cast_ofNat_Int, Nat.reduceAdd, Nat.reduceSub, Nat.reduceMul, reduceCtorEq, reduceIte, Nat.reduceEqDiff, Nat.reduceLT, Nat.reduceLeDiff, Nat.reduceBEq, Int.reduceToNat, Int.reduceLE, Int.reduceLT]); (try simp (disch := omega) only [wrap_in, wk_self, Int.tdiv_eq_ediv_of_nonneg, Int.tmod_eq_emod_of_nonneg]); (repeat with_reducible refine obA ?_)))
        refine callP (psides_s c (by omega) (by omega)) (WkL.refl _) ?_
        (iterate 2 ((try simp (etaStruct := .none) only [push_cast, Int.cast_ofNat_Int, Nat.reduceAdd, Nat.reduceSub, Nat.reduceMul, reduceCtorEq, reduceIte, Nat.reduceEqDiff, Nat.reduceLT, Nat.reduceLeDiff, Nat.reduceBEq, Int.reduceToNat, Int.reduceLE, Int.reduceLT]); (try simp (disch := omega) only [wrap_in, wk_self, Int.tdiv_eq_ediv_of_nonneg, Int.tmod_eq_emod_of_nonneg]); (repeat with_reducible refine obA ?_)))
        refine loopI (fun k : Nat => ⟨[(43, I .i64 k), (42, .agg [I .i64 c.x, I .i64 (c.y - 1), I .i64 (c.x - 1), I .i64 c.y, I .i64 (c.x + 1), I .i64 c.y, I .i64 c.x, I .i64 (c.y + 1)]), (13, I .i64 (kV (placeV f c))), (12, .ptr 5 0 0), (11, .own 6), (9, .ptr 0 0 0), (5, .ptr 4 0 0), (4, .ptr 3 0 0)], [(0, srB f b (.own 1) (.own 2)), (1, .row 3 1 ((runS f a b).1.map i64P)), (2, .row 323 4 ((runS f a b).2.map nodP)), (3, .blk 25 [I .i64 a.x, I .i64 a.y]), (4, .blk 25 [I .i64 b.x, I .i64 b.y]), (5, .blk 25 [I .i64 c.x, I .i64 c.y]), (6, .row 25 2 (out.map celP))], 7⟩) (fun k : Nat => k ≤ 4 ∧ ∀ i, i < k → ¬ PP f (runS f a b).1 c ((sidesC c).getD i default)) (fun k : Nat => 4 - k) (0) (⟨Nat.zero_le _, fun i h => absurd h (Nat.not_lt_zero _)⟩) (To.mk [0, 1, 2, 3, 4, 5, 6] rfl rfl (by decide) ?_ ?_) ?_
        · simp (etaStruct := .none) only [push_cast, DrawG, Int.cast_ofNat_Int, Nat.reduceAdd, Nat.reduceSub, Nat.reduceMul, reduceCtorEq, reduceIte, Nat.reduceEqDiff, Nat.reduceLT, Nat.reduceLeDiff, Nat.reduceBEq, Int.reduceToNat, Int.reduceLE, Int.reduceLT]
        · simp (etaStruct := .none) only [push_cast, DrawG, Int.cast_ofNat_Int, Nat.reduceAdd, Nat.reduceSub, Nat.reduceMul, reduceCtorEq, reduceIte, Nat.reduceEqDiff, Nat.reduceLT, Nat.reduceLeDiff, Nat.reduceBEq, Int.reduceToNat, Int.reduceLE, Int.reduceLT]
        rintro k ⟨hk, hno⟩
        (iterate 2 ((try simp (etaStruct := .none) only [push_cast, Int.cast_ofNat_Int, Nat.reduceAdd, Nat.reduceSub, Nat.reduceMul, reduceCtorEq, reduceIte, Nat.reduceEqDiff, Nat.reduceLT, Nat.reduceLeDiff, Nat.reduceBEq, Int.reduceToNat, Int.reduceLE, Int.reduceLT]); (try simp (disch := omega) only [wrap_in, wk_self, Int.tdiv_eq_ediv_of_nonneg, Int.tmod_eq_emod_of_nonneg]); (repeat with_reducible refine obA ?_)))
        refine cond_i (fun h3 => ?_) (fun h3 => ?_)
        · (try simp only [decide_eq_true_eq, decide_eq_false_iff_not, Bool.not_eq_true', Bool.not_eq_false', Bool.or_eq_true, Bool.and_eq_true, Bool.or_eq_false_iff, Bool.and_eq_false_iff, Int.not_lt, Int.not_le, Bool.not_true, Bool.not_false, not_and, not_or] at h3)
          have hlt : k < 4 := by omega
          have hsc := sides_cells c k hlt
          have hgG : idxG f ((sidesC c).getD k default) < (runS f a b).1.length := by rw [s.ass.len]; exact idxG_lt hf _
          have hbG := runS_b s hpx.2.2.2.2 (idxG f ((sidesC c).getD k default)) (by rw [← s.ass.len]; exact hgG)
          (iterate 2 ((try simp (etaStruct := .none) only [push_cast, Int.cast_ofNat_Int, Nat.reduceAdd, Nat.reduceSub, Nat.reduceMul, reduceCtorEq, reduceIte, Nat.reduceEqDiff, Nat.reduceLT, Nat.reduceLeDiff, Nat.reduceBEq, Int.reduceToNat, Int.reduceLE, Int.reduceLT, hsc, getD_in _ _ _ hgG, getD_in _ _ _ hcF, i64P]); (try simp (disch := omega) only [wrap_in, wk_self, Int.tdiv_eq_ediv_of_nonneg, Int.tmod_eq_emod_of_nonneg]); (repeat with_reducible refine obA ?_)))
          refine callB (pcost_s f b (runS f a b).1 (runS f a b).2 ((sidesC c).getD k default) hf) (WkL.refl _) rfl ?_
          (iterate 2 ((try simp (etaStruct := .none) only [push_cast, Int.cast_ofNat_Int, Nat.reduceAdd, Nat.reduceSub, Nat.reduceMul, reduceCtorEq, reduceIte, Nat.reduceEqDiff, Nat.reduceLT, Nat.reduceLeDiff, Nat.reduceBEq, Int.reduceToNat, Int.reduceLE, Int.reduceLT, hsc, getD_in _ _ _ hgG, getD_in _ _ _ hcF, i64P]); (try simp (disch := omega) only [wrap_in, wk_self, Int.tdiv_eq_ediv_of_nonneg, Int.tmod_eq_emod_of_nonneg]); (repeat with_reducible refine obA ?_)))
          refine drawG_w [some 52, some 53, some 54, some 55, some 56, some 57, some 58, some 59, some 60, some 61, some 62, some 63, some 64, some 65, some 66, some 67, some 68, some 69, some 70, some 71, some 72, some 73, some 74, some 75, some 76, some 77, some 78, some 79, some 80, some 81, some 82, some 83, some 84, some 85, some 86, some 87] rfl ?_
          intro Oq lq Rq hlq hdq hRq
          subst hlq
          iterate 8 (refine peelD fun rq hrq => ?_; (iterate 2 ((try simp (etaStruct := .none) only [push_cast, Int.cast_ofNat_Int, Nat.reduceAdd, Nat.reduceSub, Nat.reduceMul, reduceCtorEq, reduceIte, Nat.reduceEqDiff, Nat.reduceLT, Nat.reduceLeDiff, Nat.reduceBEq, Int.reduceToNat, Int.reduceLE, Int.reduceLT, hdq, id, hsc, getD_in _ _ _ hgG, getD_in _ _ _ hcF, i64P]); (try simp (disch := omega) only [wrap_in, wk_self, Int.tdiv_eq_ediv_of_nonneg, Int.tmod_eq_emod_of_nonneg]); (repeat with_reducible refine obA ?_))); subst hrq)
          refine peelD fun rq hrq => ?_
          (iterate 2 ((try simp (etaStruct := .none) only [push_cast, Int.cast_ofNat_Int, Nat.reduceAdd, Nat.reduceSub, Nat.reduceMul, reduceCtorEq, reduceIte, Nat.reduceEqDiff, Nat.reduceLT, Nat.reduceLeDiff, Nat.reduceBEq, Int.reduceToNat, Int.reduceLE, Int.reduceLT, hdq, id, hsc, getD_in _ _ _ hgG, getD_in _ _ _ hcF, i64P]); (try simp (disch := omega) only [wrap_in, wk_self, Int.tdiv_eq_ediv_of_nonneg, Int.tmod_eq_emod_of_nonneg]); (repeat with_reducible refine obA ?_)))
          refine gcallB (fun hcc => pindexG_s f b (runS f a b).1 (runS f a b).2 ((sidesC c).getD k default) hf hcc) (WkL.refl _) rfl (by intro hc; (try simp (etaStruct := .none) only [push_cast, DrawG, Int.cast_ofNat_Int, Nat.reduceAdd, Nat.reduceSub, Nat.reduceMul, reduceCtorEq, reduceIte, Nat.reduceEqDiff, Nat.reduceLT, Nat.reduceLeDiff, Nat.reduceBEq, Int.reduceToNat, Int.reduceLE, Int.reduceLT]); (try simp_all)) ?_
          (iterate 2 ((try simp (etaStruct := .none) only [push_cast, Int.cast_ofNat_Int, Nat.reduceAdd, Nat.reduceSub, Nat.reduceMul, reduceCtorEq, reduceIte, Nat.reduceEqDiff, Nat.reduceLT, Nat.reduceLeDiff, Nat.reduceBEq, Int.reduceToNat, Int.reduceLE, Int.reduceLT, hdq, id, hsc, getD_in _ _ _ hgG, getD_in _ _ _ hcF, i64P]); (try simp (disch := omega) only [wrap_in, wk_self, Int.tdiv_eq_ediv_of_nonneg, Int.tmod_eq_emod_of_nonneg]); (repeat with_reducible refine obA ?_)))
          subst hrq
          iterate 11 (refine peelD fun rq hrq => ?_; (iterate 2 ((try simp (etaStruct := .none) only [push_cast, Int.cast_ofNat_Int, Nat.reduceAdd, Nat.reduceSub, Nat.reduceMul, reduceCtorEq, reduceIte, Nat.reduceEqDiff, Nat.reduceLT, Nat.reduceLeDiff, Nat.reduceBEq, Int.reduceToNat, Int.reduceLE, Int.reduceLT, hdq, id, hsc, getD_in _ _ _ hgG, getD_in _ _ _ hcF, i64P]); (try simp (disch := omega) only [wrap_in, wk_self, Int.tdiv_eq_ediv_of_nonneg, Int.tmod_eq_emod_of_nonneg]); (repeat with_reducible refine obA ?_))); subst hrq)
          refine peelD fun rq hrq => ?_
          (iterate 2 ((try simp (etaStruct := .none) only [push_cast, Int.cast_ofNat_Int, Nat.reduceAdd, Nat.reduceSub, Nat.reduceMul, reduceCtorEq, reduceIte, Nat.reduceEqDiff, Nat.reduceLT, Nat.reduceLeDiff, Nat.reduceBEq, Int.reduceToNat, Int.reduceLE, Int.reduceLT, hdq, id, hsc, getD_in _ _ _ hgG, getD_in _ _ _ hcF, i64P]); (try simp (disch := omega) only [wrap_in, wk_self, Int.tdiv_eq_ediv_of_nonneg, Int.tmod_eq_emod_of_nonneg]); (repeat with_reducible refine obA ?_)))
          refine gcallB (fun hcc => pindexG_s f b (runS f a b).1 (runS f a b).2 ((sidesC c).getD k default) hf (by simp only [Bool.and_eq_true] at hcc; exact hcc.1)) (WkL.refl _) rfl (by intro hc; (try simp (etaStruct := .none) only [push_cast, DrawG, Int.cast_ofNat_Int, Nat.reduceAdd, Nat.reduceSub, Nat.reduceMul, reduceCtorEq, reduceIte, Nat.reduceEqDiff, Nat.reduceLT, Nat.reduceLeDiff, Nat.reduceBEq, Int.reduceToNat, Int.reduceLE, Int.reduceLT]); (try simp_all)) ?_
          (iterate 2 ((try simp (etaStruct := .none) only [push_cast, Int.cast_ofNat_Int, Nat.reduceAdd, Nat.reduceSub, Nat.reduceMul, reduceCtorEq, reduceIte, Nat.reduceEqDiff, Nat.reduceLT, Nat.reduceLeDiff, Nat.reduceBEq, Int.reduceToNat, Int.reduceLE, Int.reduceLT, hdq, id, hsc, getD_in _ _ _ hgG, getD_in _ _ _ hcF, i64P]); (try simp (disch := omega) only [wrap_in, wk_self, Int.tdiv_eq_ediv_of_nonneg, Int.tmod_eq_emod_of_nonneg]); (repeat with_reducible refine obA ?_)))
          subst hrq
          iterate 10 (refine peelD fun rq hrq => ?_; (iterate 2 ((try simp (etaStruct := .none) only [push_cast, Int.cast_ofNat_Int, Nat.reduceAdd, Nat.reduceSub, Nat.reduceMul, reduceCtorEq, reduceIte, Nat.reduceEqDiff, Nat.reduceLT, Nat.reduceLeDiff, Nat.reduceBEq, Int.reduceToNat, Int.reduceLE, Int.reduceLT, hdq, id, hsc, getD_in _ _ _ hgG, getD_in _ _ _ hcF, i64P]); (try simp (disch := omega) only [wrap_in, wk_self, Int.tdiv_eq_ediv_of_nonneg, Int.tmod_eq_emod_of_nonneg]); (repeat with_reducible refine obA ?_))); subst hrq)
          refine peelD fun rq hrq => ?_
          (iterate 2 ((try simp (etaStruct := .none) only [push_cast, Int.cast_ofNat_Int, Nat.reduceAdd, Nat.reduceSub, Nat.reduceMul, reduceCtorEq, reduceIte, Nat.reduceEqDiff, Nat.reduceLT, Nat.reduceLeDiff, Nat.reduceBEq, Int.reduceToNat, Int.reduceLE, Int.reduceLT, hdq, id, hsc, getD_in _ _ _ hgG, getD_in _ _ _ hcF, i64P]); (try simp (disch := omega) only [wrap_in, wk_self, Int.tdiv_eq_ediv_of_nonneg, Int.tmod_eq_emod_of_nonneg]); (repeat with_reducible refine obA ?_)))
          refine gcallB (fun hcc => pindex_s f b (runS f a b).1 (runS f a b).2 c hf hc) (WkL.refl _) rfl (by intro hc; (try simp (etaStruct := .none) only [push_cast, DrawG, Int.cast_ofNat_Int, Nat.reduceAdd, Nat.reduceSub, Nat.reduceMul, reduceCtorEq, reduceIte, Nat.reduceEqDiff, Nat.reduceLT, Nat.reduceLeDiff, Nat.reduceBEq, Int.reduceToNat, Int.reduceLE, Int.reduceLT]); (try simp_all)) ?_
          (iterate 2 ((try simp (etaStruct := .none) only [push_cast, Int.cast_ofNat_Int, Nat.reduceAdd, Nat.reduceSub, Nat.reduceMul, reduceCtorEq, reduceIte, Nat.reduceEqDiff, Nat.reduceLT, Nat.reduceLeDiff, Nat.reduceBEq, Int.reduceToNat, Int.reduceLE, Int.reduceLT, hdq, id, hsc, getD_in _ _ _ hgG, getD_in _ _ _ hcF, i64P]); (try simp (disch := omega) only [wrap_in, wk_self, Int.tdiv_eq_ediv_of_nonneg, Int.tmod_eq_emod_of_nonneg]); (repeat with_reducible refine obA ?_)))
          subst hrq
          iterate 4 (refine peelD fun rq hrq => ?_; (iterate 2 ((try simp (etaStruct := .none) only [push_cast, Int.cast_ofNat_Int, Nat.reduceAdd, Nat.reduceSub, Nat.reduceMul, reduceCtorEq, reduceIte, Nat.reduceEqDiff, Nat.reduceLT, Nat.reduceLeDiff, Nat.reduceBEq, Int.reduceToNat, Int.reduceLE, Int.reduceLT, hdq, id, hsc, getD_in _ _ _ hgG, getD_in _ _ _ hcF, i64P]); (try simp (disch := omega) only [wrap_in, wk_self, Int.tdiv_eq_ediv_of_nonneg, Int.tmod_eq_emod_of_nonneg]); (repeat with_reducible refine obA ?_))); subst hrq)
          refine endD ?_
          subst hRq
          clear hdq Oq
          refine endE (by kernel_rfl) ?_
          (iterate 2 ((try simp (etaStruct := .none) only [push_cast, Int.cast_ofNat_Int, Nat.reduceAdd, Nat.reduceSub, Nat.reduceMul, reduceCtorEq, reduceIte, Nat.reduceEqDiff, Nat.reduceLT, Nat.reduceLeDiff, Nat.reduceBEq, Int.reduceToNat, Int.reduceLE, Int.reduceLT, hsc, getD_in _ _ _ hgG, getD_in _ _ _ hcF, i64P]); (try simp (disch := omega) only [wrap_in, wk_self, Int.tdiv_eq_ediv_of_nonneg, Int.tmod_eq_emod_of_nonneg]); (repeat with_reducible refine obA ?_)))
          refine cond_i (fun h4 => ?_) (fun h4 => ?_)
          · (try simp only [decide_eq_true_eq, decide_eq_false_iff_not, Bool.not_eq_true', Bool.not_eq_false', Bool.or_eq_true, Bool.and_eq_true, Bool.or_eq_false_iff, Bool.and_eq_false_iff, Int.not_lt, Int.not_le, Bool.not_true, Bool.not_false, not_and, not_or] at h4)
            have hin2 : inF f ((sidesC c).getD k default) = true := by
              cases hi : inF f ((sidesC c).getD k default) with
              | true => rfl
              | false => have := h4.1.1; unfold costC at this; rw [hi] at this; simp at this
            have hPP : PP f (runS f a b).1 c ((sidesC c).getD k default) := ⟨h4.1.1, by rw [← idxG_in hin2]; exact h4.1.2, by rw [← idxG_in hin2]; exact h4.2⟩
            have hnk := pp_found s hf ha hb hpa hc hc0 h0 hcb hfc hlt hno hPP
            rw [wayL, if_neg hca] at hway
            (iterate 2 ((try simp (etaStruct := .none) only [push_cast, Int.cast_ofNat_Int, Nat.reduceAdd, Nat.reduceSub, Nat.reduceMul, reduceCtorEq, reduceIte, Nat.reduceEqDiff, Nat.reduceLT, Nat.reduceLeDiff, Nat.reduceBEq, Int.reduceToNat, Int.reduceLE, Int.reduceLT, hsc, getD_in _ _ _ hgG, getD_in _ _ _ hcF, i64P, hnk]); (try simp (disch := omega) only [wrap_in, wk_self, Int.tdiv_eq_ediv_of_nonneg, Int.tmod_eq_emod_of_nonneg]); (repeat with_reducible refine obA ?_)))
            refine ⟨(M, nxtC R f c, out ++ [nxtC R f c]), ⟨n1, n2, by simp only; omega, n5, n4, by simp only; rw [List.append_assoc]; exact hway, by simp only [List.length_append, List.length_singleton]; omega⟩, by simp only; omega, To.mk [0, 1, 2, 3, 4, 154, 153] rfl rfl (by decide) ?_ ?_⟩
            · (iterate 2 ((try simp (etaStruct := .none) only [push_cast, DrawG, Int.cast_ofNat_Int, Nat.reduceAdd, Nat.reduceSub, Nat.reduceMul, reduceCtorEq, reduceIte, Nat.reduceEqDiff, Nat.reduceLT, Nat.reduceLeDiff, Nat.reduceBEq, Int.reduceToNat, Int.reduceLE, Int.reduceLT, List.map_append, celP]); (try simp (disch := omega) only [wrap_in, wk_self, Int.tdiv_eq_ediv_of_nonneg, Int.tmod_eq_emod_of_nonneg]); (repeat with_reducible refine obA ?_)))
            · (iterate 2 ((try simp (etaStruct := .none) only [push_cast, Int.cast_ofNat_Int, Nat.reduceAdd, Nat.reduceSub, Nat.reduceMul, reduceCtorEq, reduceIte, Nat.reduceEqDiff, Nat.reduceLT, Nat.reduceLeDiff, Nat.reduceBEq, Int.reduceToNat, Int.reduceLE, Int.reduceLT, hsc, getD_in _ _ _ hgG, getD_in _ _ _ hcF, i64P, hnk]); (try simp (disch := omega) only [wrap_in, wk_self, Int.tdiv_eq_ediv_of_nonneg, Int.tmod_eq_emod_of_nonneg]); (repeat with_reducible refine obA ?_)))
          · (try simp only [decide_eq_true_eq, decide_eq_false_iff_not, Bool.not_eq_true', Bool.not_eq_false', Bool.or_eq_true, Bool.and_eq_true, Bool.or_eq_false_iff, Bool.and_eq_false_iff, Int.not_lt, Int.not_le, Bool.not_true, Bool.not_false, not_and, not_or] at h4)
            have hno2 : ∀ i, i < k + 1 → ¬ PP f (runS f a b).1 c ((sidesC c).getD i default) := fun i hi => by
              rcases Nat.lt_or_ge i k with h | h
              · exact hno i h
              · obtain rfl : i = k := by omega
                rintro ⟨p1, p2, p3⟩
                have hin2 : inF f ((sidesC c).getD i default) = true := by
                  cases hi : inF f ((sidesC c).getD i default) with
                  | true => rfl
                  | false => unfold costC at p1; rw [hi] at p1; simp at p1
                rw [← idxG_in hin2] at p2 p3
                rcases h4 with (h4 | h4) | h4
                · rw [p1] at h4; exact absurd h4 (by decide)
                · omega
                · exact h4 p3
            (iterate 2 ((try simp (etaStruct := .none) only [push_cast, Int.cast_ofNat_Int, Nat.reduceAdd, Nat.reduceSub, Nat.reduceMul, reduceCtorEq, reduceIte, Nat.reduceEqDiff, Nat.reduceLT, Nat.reduceLeDiff, Nat.reduceBEq, Int.reduceToNat, Int.reduceLE, Int.reduceLT, hsc, getD_in _ _ _ hgG, getD_in _ _ _ hcF, i64P]); (try simp (disch := omega) only [wrap_in, wk_self, Int.tdiv_eq_ediv_of_nonneg, Int.tmod_eq_emod_of_nonneg]); (repeat with_reducible refine obA ?_)))
            refine ⟨k + 1, ⟨by omega, hno2⟩, by omega, To.mk [0, 1, 2, 3, 4, 5, 6] rfl rfl (by decide) ?_ ?_⟩
            · (iterate 2 ((try simp (etaStruct := .none) only [push_cast, Int.cast_ofNat_Int, Nat.reduceAdd, Nat.reduceSub, Nat.reduceMul, reduceCtorEq, reduceIte, Nat.reduceEqDiff, Nat.reduceLT, Nat.reduceLeDiff, Nat.reduceBEq, Int.reduceToNat, Int.reduceLE, Int.reduceLT, hsc, getD_in _ _ _ hgG, getD_in _ _ _ hcF, i64P]); (try simp (disch := omega) only [wrap_in, wk_self, Int.tdiv_eq_ediv_of_nonneg, Int.tmod_eq_emod_of_nonneg]); (repeat with_reducible refine obA ?_)))
            · (iterate 2 ((try simp (etaStruct := .none) (maxSteps := 1000000) only [push_cast, DrawG, Int.cast_ofNat_Int, Nat.reduceAdd, Nat.reduceSub, Nat.reduceMul, reduceCtorEq, reduceIte, Nat.reduceEqDiff, Nat.reduceLT, Nat.reduceLeDiff, Nat.reduceBEq, Int.reduceToNat, Int.reduceLE, Int.reduceLT]); (try simp (disch := omega) only [wrap_in, wk_self, Int.tdiv_eq_ediv_of_nonneg, Int.tmod_eq_emod_of_nonneg]); (repeat with_reducible refine obA ?_)))
        · (try simp only [decide_eq_true_eq, decide_eq_false_iff_not, Bool.not_eq_true', Bool.not_eq_false', Bool.or_eq_true, Bool.and_eq_true, Bool.or_eq_false_iff, Bool.and_eq_false_iff, Int.not_lt, Int.not_le, Bool.not_true, Bool.not_false, not_and, not_or] at h3)
          obtain rfl : k = 4 := by omega
          exact (pp_ex s hf ha hb hpa hc hc0 h0 hcb hfc hca hno).elim
      · (try simp only [decide_eq_true_eq, decide_eq_false_iff_not, Bool.not_eq_true', Bool.not_eq_false', Bool.or_eq_true, Bool.and_eq_true, Bool.or_eq_false_iff, Bool.and_eq_false_iff, Int.not_lt, Int.not_le, Bool.not_true, Bool.not_false, not_and, not_or] at h2)
        have hca : c = a := Decidable.byContradiction fun h => cel_ne.2 h h2
        have hout : out = b :: wayL R f a (R.getD (idxN f b) default).toNat b := by
          have e0 : wayL R f a N c = [] := by
            cases N with
            | zero => rfl
            | succ N => rw [wayL, if_pos hca]
          rw [← hway, e0, List.append_nil]
        have hov : out.reverse = wayV R f a b := by unfold wayV; rw [hout]
        (iterate 2 ((try simp (etaStruct := .none) only [push_cast, Int.cast_ofNat_Int, Nat.reduceAdd, Nat.reduceSub, Nat.reduceMul, reduceCtorEq, reduceIte, Nat.reduceEqDiff, Nat.reduceLT, Nat.reduceLeDiff, Nat.reduceBEq, Int.reduceToNat, Int.reduceLE, Int.reduceLT, getD_in _ _ _ hbF, i64P, hend.1, hov]); (try simp (disch := omega) only [wrap_in, wk_self, Int.tdiv_eq_ediv_of_nonneg, Int.tmod_eq_emod_of_nonneg]); (repeat with_reducible refine obA ?_)))
        refine callM [6] (cel_rev out (by omega)) (WkL.refl _) rfl (by decide) (by simp [lookC_c]) ?_
        (iterate 2 ((try simp (etaStruct := .none) only [push_cast, Int.cast_ofNat_Int, Nat.reduceAdd, Nat.reduceSub, Nat.reduceMul, reduceCtorEq, reduceIte, Nat.reduceEqDiff, Nat.reduceLT, Nat.reduceLeDiff, Nat.reduceBEq, Int.reduceToNat, Int.reduceLE, Int.reduceLT, getD_in _ _ _ hbF, i64P, hend.1, hov]); (try simp (disch := omega) only [wrap_in, wk_self, Int.tdiv_eq_ediv_of_nonneg, Int.tmod_eq_emod_of_nonneg]); (repeat with_reducible refine obA ?_)))
        refine drawG_w [some 97, some 98, some 99, some 100, some 101, some 102, some 103, some 104, some 105, some 106, some 6, some 7, some 8] rfl ?_
        intro Oq lq Rq hlq hdq hRq
        subst hlq
        iterate 7 (refine peelD fun rq hrq => ?_; (iterate 2 ((try simp (etaStruct := .none) only [push_cast, Int.cast_ofNat_Int, Nat.reduceAdd, Nat.reduceSub, Nat.reduceMul, reduceCtorEq, reduceIte, Nat.reduceEqDiff, Nat.reduceLT, Nat.reduceLeDiff, Nat.reduceBEq, Int.reduceToNat, Int.reduceLE, Int.reduceLT, hdq, id, getD_in _ _ _ hbF, i64P, hend.1, hov]); (try simp (disch := omega) only [wrap_in, wk_self, Int.tdiv_eq_ediv_of_nonneg, Int.tmod_eq_emod_of_nonneg]); (repeat with_reducible refine obA ?_))); subst hrq)
        refine peelD fun rq hrq => ?_
        (iterate 2 ((try simp (etaStruct := .none) only [push_cast, Int.cast_ofNat_Int, Nat.reduceAdd, Nat.reduceSub, Nat.reduceMul, reduceCtorEq, reduceIte, Nat.reduceEqDiff, Nat.reduceLT, Nat.reduceLeDiff, Nat.reduceBEq, Int.reduceToNat, Int.reduceLE, Int.reduceLT, hdq, id, getD_in _ _ _ hbF, i64P, hend.1, hov]); (try simp (disch := omega) only [wrap_in, wk_self, Int.tdiv_eq_ediv_of_nonneg, Int.tmod_eq_emod_of_nonneg]); (repeat with_reducible refine obA ?_)))
        refine callB (pindex_s f b (runS f a b).1 (runS f a b).2 b hf hb) (WkL.refl _) rfl ?_
        (iterate 2 ((try simp (etaStruct := .none) only [push_cast, Int.cast_ofNat_Int, Nat.reduceAdd, Nat.reduceSub, Nat.reduceMul, reduceCtorEq, reduceIte, Nat.reduceEqDiff, Nat.reduceLT, Nat.reduceLeDiff, Nat.reduceBEq, Int.reduceToNat, Int.reduceLE, Int.reduceLT, hdq, id, getD_in _ _ _ hbF, i64P, hend.1, hov]); (try simp (disch := omega) only [wrap_in, wk_self, Int.tdiv_eq_ediv_of_nonneg, Int.tmod_eq_emod_of_nonneg]); (repeat with_reducible refine obA ?_)))
        subst hrq
        iterate 5 (refine peelD fun rq hrq => ?_; (iterate 2 ((try simp (etaStruct := .none) only [push_cast, Int.cast_ofNat_Int, Nat.reduceAdd, Nat.reduceSub, Nat.reduceMul, reduceCtorEq, reduceIte, Nat.reduceEqDiff, Nat.reduceLT, Nat.reduceLeDiff, Nat.reduceBEq, Int.reduceToNat, Int.reduceLE, Int.reduceLT, hdq, id, getD_in _ _ _ hbF, i64P, hend.1, hov]); (try simp (disch := omega) only [wrap_in, wk_self, Int.tdiv_eq_ediv_of_nonneg, Int.tmod_eq_emod_of_nonneg]); (repeat with_reducible refine obA ?_))); subst hrq)
        refine endD ?_
        subst hRq
        clear hdq Oq
        refine endE (by kernel_rfl) ?_
        (iterate 2 ((try simp (etaStruct := .none) only [push_cast, Int.cast_ofNat_Int, Nat.reduceAdd, Nat.reduceSub, Nat.reduceMul, reduceCtorEq, reduceIte, Nat.reduceEqDiff, Nat.reduceLT, Nat.reduceLeDiff, Nat.reduceBEq, Int.reduceToNat, Int.reduceLE, Int.reduceLT, getD_in _ _ _ hbF, i64P, hend.1, hov]); (try simp (disch := omega) only [wrap_in, wk_self, Int.tdiv_eq_ediv_of_nonneg, Int.tmod_eq_emod_of_nonneg]); (repeat with_reducible refine obA ?_)))
        (first | (refine ret0 rfl (by repeat' (first | exact trivial | exact rfl | refine ⟨?_, ?_⟩)) (Wk.of ?_); (try simp (etaStruct := .none) only [push_cast, DrawG, Int.cast_ofNat_Int, Nat.reduceAdd, Nat.reduceSub, Nat.reduceMul, reduceCtorEq, reduceIte, Nat.reduceEqDiff, Nat.reduceLT, Nat.reduceLeDiff, Nat.reduceBEq, Int.reduceToNat, Int.reduceLE, Int.reduceLT]); first | done | (simp [*]; done) | (simp_all []; done)) | (refine ret0 rfl (by repeat' (first | exact trivial | exact rfl | refine ⟨?_, ?_⟩)) ?_; (try simp (etaStruct := .none) only [push_cast, DrawG, Int.cast_ofNat_Int, Nat.reduceAdd, Nat.reduceSub, Nat.reduceMul, reduceCtorEq, reduceIte, Nat.reduceEqDiff, Nat.reduceLT, Nat.reduceLeDiff, Nat.reduceBEq, Int.reduceToNat, Int.reduceLE, Int.reduceLT]); (try simp [*]); (try (first | exact Wk.refl _ | exact Wk.nil _ | (refine Wk.tup ?_; repeat' (first | exact trivial | exact Wk.refl _ | exact Wk.nil _ | refine ⟨?_, ?_⟩ | (refine Wk.agg ?_)))))))
end Go.Proofs.Ytehcnnodkhcgfaa
namespace Go.Proofs.Ytehcnnodkhcgfaa
set_option linter.all false
open Go.RowKit
theorem Spec.hand {P : Program} {f : FuncId} {args args' : List AV} {hs hs1 hs1' : List Chunk} {r : AV} (k : Nat) (S : Spec P f args' hs1 r hs1') (hk : k ≤ hs.length) (hk1 : hs1'.length = k) (hw : WkL (cvL (List.range k) (nth hs) args) args') (hh : hs1 = (List.range k).map fun id => cvC (List.range k) (nth hs) (nth hs id)) :
    Spec P f args hs r (hs1' ++ List.replicate (hs.length - k) .dead) := by
  obtain ⟨S0, _, S⟩ := S
  refine ⟨S0, by simp; omega, fun w F β vs M hv => ?_⟩
  have hl1 : hs1.length = k := by rw [hh]; simp
  have M1 := (cv_mem M (hT := nth hs) (fun _ _ => rfl) (List.range k) List.nodup_range).here
  have hv1 := hw.run (cvL_run M (hT := nth hs) (fun _ _ => rfl) (List.range k) args vs hv)
  rw [← hh] at M1
  rw [List.length_range] at M1 hv1
  rw [hl1] at S
  have sel : ∀ {i : Nat} {bd : Bind}, selB (List.range k) β i = some bd → i < k ∧ β i = some bd := by
    intro i bd h
    obtain ⟨id, h1, h2⟩ := selB_some h
    have hik : i < k := by have := (List.getElem?_eq_some_iff.1 h1).1; simpa using this
    rw [List.getElem?_range hik] at h1
    obtain rfl := Option.some.inj h1
    exact ⟨hik, h2⟩
  have hin : ∀ b, inB (selB (List.range k) β) b → inB β b := by
    rintro b ⟨i, bd, h1, h2⟩
    exact ⟨i, bd, (sel h1).2, h2⟩
  refine (S w _ _ vs M1 hv1).mono ?_
  rintro e w' ⟨v, F', β', rfl, M2, hr, hF, hF', hβ⟩
  rw [hk1] at M2 hr
  have E : Ext (· < k) F' β' w' (· < (hs1' ++ List.replicate (hs.length - k) Chunk.dead).length) F' (fun i => if i < k then β' i else none) w' :=
    ⟨fun i hi => by simp only [List.length_append, List.length_replicate]; omega, fun b hb => ⟨hb, rfl⟩, fun i bd hi hb => by simpa [hi] using hb⟩
  have low : ∀ {i : Nat} {bd : Bind}, (if i < k then β' i else none) = some bd → i < k ∧ β' i = some bd := by
    intro i bd h
    by_cases hi : i < k
    · rw [if_pos hi] at h; exact ⟨hi, h⟩
    · rw [if_neg hi] at h; simp at h
  refine ⟨v, F', fun i => if i < k then β' i else none, rfl, ⟨M2.size, M2.os, M2.tape, M2.output, fun b hb hn => M2.frame b hb (fun h => hn (hin b h)), M2.fin, fun i bd hb => ?_, fun i hd => ?_, fun i j bi bj b hi hj h1 h2 => M2.dis i j bi bj b (low hi).2 (low hj).2 h1 h2, fun i bd b hb hbb => ?_⟩, RelA.mono E _ _ hr, fun b hb => hF b (.inl hb), fun b hb => ?_, fun i bd hi hb => ?_⟩
  · exact E.u i (low hb).1
  · have hik : i < k := by
      rcases Nat.lt_or_ge i k with h | h
      · exact h
      · exfalso
        apply hd
        unfold nth
        rw [List.getD_eq_getElem?_getD, List.getElem?_append_right (by omega), List.getElem?_replicate]
        split <;> rfl
    have e0 : nth (hs1' ++ List.replicate (hs.length - k) Chunk.dead) i = nth hs1' i := by
      unfold nth
      rw [List.getD_eq_getElem?_getD, List.getElem?_append_left (by omega), List.getD_eq_getElem?_getD]
    rw [e0] at hd ⊢
    obtain ⟨bd, h1, h2⟩ := M2.ch i hd
    exact ⟨bd, by rw [if_pos hik]; exact h1, ChOk.mono E (fun _ _ => rfl) h2⟩
  · obtain ⟨k1, k2, k3⟩ := M2.off i bd b (low hb).2 hbb
    exact ⟨k1, k2, k3.imp id (hin b)⟩
  · rcases hF' b hb with h1 | h1 | h1
    · rcases h1 with h1 | ⟨id, bd, _, _, h2, h3⟩
      · exact .inl h1
      · exact .inr (.inr ⟨id, bd, h2, h3⟩)
    · exact .inr (.inl h1)
    · exact .inr (.inr (hin b h1))
  · obtain ⟨h1, h2⟩ := low hb
    exact (sel (hβ i bd h1 h2)).2
theorem gcallT {P : Program} {c : Bool} {f : FuncId} {args : List AV} {φ : Prop} {h : Nat → Chunk} {m : Nat} {K : Eff → Prop} (hc : c = true) (hφ : φ) (k : CallG P f args h m K) : GCall P c f args φ h m K := .inr ⟨fun _ => ⟨hφ, k⟩, fun h => absurd (hc.symm.trans h) (by decide)⟩
theorem look_fz (Z : List Nat) (h : Nat → Chunk) : ∀ (l : List (Nat × AV)) (t : Nat), look (l.map fun p => (p.1, fz Z h p.2)) t = fz Z h (look l t)
  | [], t => by simp only [List.map_nil, look, fz]
  | (k, x) :: r, t => by
    simp only [List.map_cons, look]
    by_cases e : k = t
    · rw [if_pos e, if_pos e]
    · rw [if_neg e, if_neg e]; exact look_fz Z h r t
theorem To.frz {k : Nat} {s : St} (Z : List Nat) : ToK k s ⟨s.t.map fun p => (p.1, fz Z (lookC s.h) p.2), deadsOf Z ++ s.h, s.n⟩ := by
  intro H F β a w hk C
  have M := fz_mem C.m Z
  have e : lookC (deadsOf Z ++ s.h) = fzH Z (lookC s.h) := by
    rw [← upd_look, upd_deads]
  refine ⟨fzF Z F β, fzB Z β, fun t => ?_, by rw [e]; exact M, C.nt, C.d, fun b hb => .inl (C.f b hb), fun b hb => ?_, fun i bd hi hb => C.e i bd hi (fzB_some hb).2, C.k⟩
  · simp only [look_fz]
    exact fz_run C.m (fun _ _ => rfl) Z _ _ (C.t t)
  · rcases hb with h1 | ⟨id, bd, _, h2, h3⟩
    · exact C.g b h1
    · exact .inr (C.m.off id bd b h2 h3).2.2
end Go.Proofs.Ytehcnnodkhcgfaa
namespace Go.Proofs.Ytehcnnodkhcgfaa
set_option linter.all false
open Go.RowKit
set_option maxRecDepth 100000
set_option maxHeartbeats 2000000
theorem wat_s (f : Fld) (R : List Int) (n : Cel) (hf : fldE f = 0) (hn : inF f n = true) (hR : idxN f n < R.length) : Spec Try.prog 117 [celA n, .fel 1 [[.sl 1 (R.map i64P)]] 0 0, .fel 3 [[pI f.w, pI f.h, .sl 1 (f.p.map i64P)]] 0 0] [] (I .i64 (R.getD (idxN f n) default)) [] := by
  obtain ⟨i1, i2, i3, i4, i5⟩ := place_ix hf hn
  have hci := inF_iff.1 hn
  have e1 : IntKind.i64.wrap (IntKind.i64.wrap (n.y * f.w) + n.x) = (idxN f n : Int) := by rw [wrap_in (n.y * f.w) (by omega) (by omega), wrap_in _ (by omega) (by omega)]; unfold idxN; omega
  refine spec_am Try.func117 rfl rfl mix 16 rfl [.tmp 4] Try.results117 (Nat.le_of_ble_eq_true rfl) ?_
  (iterate 2 ((try simp (etaStruct := .none) only [push_cast, DrawG, Int.cast_ofNat_Int, Nat.reduceAdd, Nat.reduceSub, Nat.reduceMul, reduceCtorEq, reduceIte, Nat.reduceEqDiff, Nat.reduceLT, Nat.reduceLeDiff, Nat.reduceBEq, Int.reduceToNat, Int.reduceLE, Int.reduceLT, e1, getD_in _ _ _ hR, i64P]); (try simp (disch := omega) only [wrap_in, wk_self, Int.tdiv_eq_ediv_of_nonneg, Int.tmod_eq_emod_of_nonneg]); (repeat with_reducible refine obA ?_)))
  (first | (refine ret0 rfl (by repeat' (first | exact trivial | exact rfl | refine ⟨?_, ?_⟩)) (Wk.of ?_); (try simp (etaStruct := .none) only [push_cast, DrawG, Int.cast_ofNat_Int, Nat.reduceAdd, Nat.reduceSub, Nat.reduceMul, reduceCtorEq, reduceIte, Nat.reduceEqDiff, Nat.reduceLT, Nat.reduceLeDiff, Nat.reduceBEq, Int.reduceToNat, Int.reduceLE, Int.reduceLT]); first | done | (simp [*]; done) | (simp_all []; done)) | (refine ret0 rfl (by repeat' (first | exact trivial | exact rfl | refine ⟨?_, ?_⟩)) ?_; (try simp (etaStruct := .none) only [push_cast, DrawG, Int.cast_ofNat_Int, Nat.reduceAdd, Nat.reduceSub, Nat.reduceMul, reduceCtorEq, reduceIte, Nat.reduceEqDiff, Nat.reduceLT, Nat.reduceLeDiff, Nat.reduceBEq, Int.reduceToNat, Int.reduceLE, Int.reduceLT]); (try simp [*]); (try (first | exact Wk.refl _ | exact Wk.nil _ | (refine Wk.tup ?_; repeat' (first | exact trivial | exact Wk.refl _ | exact Wk.nil _ | refine ⟨?_, ?_⟩ | (refine Wk.agg ?_)))))))
abbrev watH (f : Fld) (R : List Int) (c : Cel) : List Chunk := [.blk 195 [.clo (.func 117) [] [.ptr 1 0 0, .ptr 2 0 0]], .blk 63 [.c (.sl 1 (R.map i64P))], .blk 65 (fldC f), .blk 25 [I .i64 c.x, I .i64 c.y]]
theorem wnx_s (f : Fld) (R : List Int) (c n : Cel) (hf : fldE f = 0) (hn : inF f n = true) (hc : inF f c = true) (hr : placeV f c ≠ 1) (hR : R.length = f.p.length) (hb : -1 ≤ R.getD (idxN f n) default ∧ R.getD (idxN f n) default ≤ 4800) : Spec Try.prog 120 [celA n, .ptr 0 0 0, .ptr 2 0 0, .ptr 3 0 0] (watH f R c) (B (nxtP R f c n)) (watH f R c) := by
  have hnF : idxN f n < R.length := by rw [hR]; have := place_ix hf hn; unfold idxN; omega
  have hcF : idxN f c < R.length := by rw [hR]; have := place_ix hf hc; unfold idxN; omega
  have hkv := kV_b (placeV f c)
  have hpl := (fldE_ok hf).2.2.2 (placeV f c) (getD_mem f.p _ (show (c.y * f.w + c.x).toNat < f.p.length by have := place_ix hf hc; omega))
  have hcost : (if placeV f c = 1 then (-1 : Int) else kV (placeV f c)) = kV (placeV f c) := if_neg hr
  refine spec_am Try.func120 rfl rfl mix 24 rfl [.tmp 5] Try.results120 (Nat.le_of_ble_eq_true rfl) ?_
  (iterate 2 ((try simp (etaStruct := .none) only [push_cast, Int.cast_ofNat_Int, Nat.reduceAdd, Nat.reduceSub, Nat.reduceMul, reduceCtorEq, reduceIte, Nat.reduceEqDiff, Nat.reduceLT, Nat.reduceLeDiff, Nat.reduceBEq, Int.reduceToNat, Int.reduceLE, Int.reduceLT, hcost]); (try simp (disch := omega) only [wrap_in, wk_self, Int.tdiv_eq_ediv_of_nonneg, Int.tmod_eq_emod_of_nonneg]); (repeat with_reducible refine obA ?_)))
  refine drawG_w [some 6, some 7, some 8, some 9, some 10, some 11, some 12, some 13, some 14, some 15, some 16, some 17, some 18, some 19, some 20, some 21, some 22, some 23, some 5] rfl ?_
  intro Oq lq Rq hlq hdq hRq
  subst hlq
  iterate 2 (refine peelD fun rq hrq => ?_; (iterate 2 ((try simp (etaStruct := .none) only [push_cast, Int.cast_ofNat_Int, Nat.reduceAdd, Nat.reduceSub, Nat.reduceMul, reduceCtorEq, reduceIte, Nat.reduceEqDiff, Nat.reduceLT, Nat.reduceLeDiff, Nat.reduceBEq, Int.reduceToNat, Int.reduceLE, Int.reduceLT, hdq, id, hcost]); (try simp (disch := omega) only [wrap_in, wk_self, Int.tdiv_eq_ediv_of_nonneg, Int.tmod_eq_emod_of_nonneg]); (repeat with_reducible refine obA ?_))); subst hrq)
  refine peelD fun rq hrq => ?_
  (iterate 2 ((try simp (etaStruct := .none) only [push_cast, Int.cast_ofNat_Int, Nat.reduceAdd, Nat.reduceSub, Nat.reduceMul, reduceCtorEq, reduceIte, Nat.reduceEqDiff, Nat.reduceLT, Nat.reduceLeDiff, Nat.reduceBEq, Int.reduceToNat, Int.reduceLE, Int.reduceLT, hdq, id, hcost]); (try simp (disch := omega) only [wrap_in, wk_self, Int.tdiv_eq_ediv_of_nonneg, Int.tmod_eq_emod_of_nonneg]); (repeat with_reducible refine obA ?_)))
  refine callB (wat_s f R n hf hn hnF) (WkL.refl _) rfl ?_
  (iterate 2 ((try simp (etaStruct := .none) only [push_cast, Int.cast_ofNat_Int, Nat.reduceAdd, Nat.reduceSub, Nat.reduceMul, reduceCtorEq, reduceIte, Nat.reduceEqDiff, Nat.reduceLT, Nat.reduceLeDiff, Nat.reduceBEq, Int.reduceToNat, Int.reduceLE, Int.reduceLT, hdq, id, hcost]); (try simp (disch := omega) only [wrap_in, wk_self, Int.tdiv_eq_ediv_of_nonneg, Int.tmod_eq_emod_of_nonneg]); (repeat with_reducible refine obA ?_)))
  subst hrq
  iterate 4 (refine peelD fun rq hrq => ?_; (iterate 2 ((try simp (etaStruct := .none) only [push_cast, Int.cast_ofNat_Int, Nat.reduceAdd, Nat.reduceSub, Nat.reduceMul, reduceCtorEq, reduceIte, Nat.reduceEqDiff, Nat.reduceLT, Nat.reduceLeDiff, Nat.reduceBEq, Int.reduceToNat, Int.reduceLE, Int.reduceLT, hdq, id, hcost]); (try simp (disch := omega) only [wrap_in, wk_self, Int.tdiv_eq_ediv_of_nonneg, Int.tmod_eq_emod_of_nonneg]); (repeat with_reducible refine obA ?_))); subst hrq)
  refine peelD fun rq hrq => ?_
  (iterate 2 ((try simp (etaStruct := .none) only [push_cast, Int.cast_ofNat_Int, Nat.reduceAdd, Nat.reduceSub, Nat.reduceMul, reduceCtorEq, reduceIte, Nat.reduceEqDiff, Nat.reduceLT, Nat.reduceLeDiff, Nat.reduceBEq, Int.reduceToNat, Int.reduceLE, Int.reduceLT, hdq, id, hcost]); (try simp (disch := omega) only [wrap_in, wk_self, Int.tdiv_eq_ediv_of_nonneg, Int.tmod_eq_emod_of_nonneg]); (repeat with_reducible refine obA ?_)))
  refine gcallB (fun hcc => wat_s f R n hf hn hnF) (WkL.refl _) rfl (by intro hc; (try simp (etaStruct := .none) only [push_cast, DrawG, Int.cast_ofNat_Int, Nat.reduceAdd, Nat.reduceSub, Nat.reduceMul, reduceCtorEq, reduceIte, Nat.reduceEqDiff, Nat.reduceLT, Nat.reduceLeDiff, Nat.reduceBEq, Int.reduceToNat, Int.reduceLE, Int.reduceLT]); (try simp_all)) ?_
  (iterate 2 ((try simp (etaStruct := .none) only [push_cast, Int.cast_ofNat_Int, Nat.reduceAdd, Nat.reduceSub, Nat.reduceMul, reduceCtorEq, reduceIte, Nat.reduceEqDiff, Nat.reduceLT, Nat.reduceLeDiff, Nat.reduceBEq, Int.reduceToNat, Int.reduceLE, Int.reduceLT, hdq, id, hcost]); (try simp (disch := omega) only [wrap_in, wk_self, Int.tdiv_eq_ediv_of_nonneg, Int.tmod_eq_emod_of_nonneg]); (repeat with_reducible refine obA ?_)))
  subst hrq
  iterate 2 (refine peelD fun rq hrq => ?_; (iterate 2 ((try simp (etaStruct := .none) only [push_cast, Int.cast_ofNat_Int, Nat.reduceAdd, Nat.reduceSub, Nat.reduceMul, reduceCtorEq, reduceIte, Nat.reduceEqDiff, Nat.reduceLT, Nat.reduceLeDiff, Nat.reduceBEq, Int.reduceToNat, Int.reduceLE, Int.reduceLT, hdq, id, hcost]); (try simp (disch := omega) only [wrap_in, wk_self, Int.tdiv_eq_ediv_of_nonneg, Int.tmod_eq_emod_of_nonneg]); (repeat with_reducible refine obA ?_))); subst hrq)
  refine peelD fun rq hrq => ?_
  (iterate 2 ((try simp (etaStruct := .none) only [push_cast, Int.cast_ofNat_Int, Nat.reduceAdd, Nat.reduceSub, Nat.reduceMul, reduceCtorEq, reduceIte, Nat.reduceEqDiff, Nat.reduceLT, Nat.reduceLeDiff, Nat.reduceBEq, Int.reduceToNat, Int.reduceLE, Int.reduceLT, hdq, id, hcost]); (try simp (disch := omega) only [wrap_in, wk_self, Int.tdiv_eq_ediv_of_nonneg, Int.tmod_eq_emod_of_nonneg]); (repeat with_reducible refine obA ?_)))
  refine gcallP (fun hcc => place_s f c hf hc) (WkL.refl _) (by intro hc; (try simp (etaStruct := .none) only [push_cast, DrawG, Int.cast_ofNat_Int, Nat.reduceAdd, Nat.reduceSub, Nat.reduceMul, reduceCtorEq, reduceIte, Nat.reduceEqDiff, Nat.reduceLT, Nat.reduceLeDiff, Nat.reduceBEq, Int.reduceToNat, Int.reduceLE, Int.reduceLT]); (try simp_all)) ?_
  (iterate 2 ((try simp (etaStruct := .none) only [push_cast, Int.cast_ofNat_Int, Nat.reduceAdd, Nat.reduceSub, Nat.reduceMul, reduceCtorEq, reduceIte, Nat.reduceEqDiff, Nat.reduceLT, Nat.reduceLeDiff, Nat.reduceBEq, Int.reduceToNat, Int.reduceLE, Int.reduceLT, hdq, id, hcost]); (try simp (disch := omega) only [wrap_in, wk_self, Int.tdiv_eq_ediv_of_nonneg, Int.tmod_eq_emod_of_nonneg]); (repeat with_reducible refine obA ?_)))
  subst hrq
  refine peelD fun rq hrq => ?_
  (iterate 2 ((try simp (etaStruct := .none) only [push_cast, Int.cast_ofNat_Int, Nat.reduceAdd, Nat.reduceSub, Nat.reduceMul, reduceCtorEq, reduceIte, Nat.reduceEqDiff, Nat.reduceLT, Nat.reduceLeDiff, Nat.reduceBEq, Int.reduceToNat, Int.reduceLE, Int.reduceLT, hdq, id, hcost]); (try simp (disch := omega) only [wrap_in, wk_self, Int.tdiv_eq_ediv_of_nonneg, Int.tmod_eq_emod_of_nonneg]); (repeat with_reducible refine obA ?_)))
  refine gcallP (fun hcc => costOf_s (placeV f c) hpl) (WkL.refl _) (by intro hc; (try simp (etaStruct := .none) only [push_cast, DrawG, Int.cast_ofNat_Int, Nat.reduceAdd, Nat.reduceSub, Nat.reduceMul, reduceCtorEq, reduceIte, Nat.reduceEqDiff, Nat.reduceLT, Nat.reduceLeDiff, Nat.reduceBEq, Int.reduceToNat, Int.reduceLE, Int.reduceLT]); (try simp_all)) ?_
  (iterate 2 ((try simp (etaStruct := .none) only [push_cast, Int.cast_ofNat_Int, Nat.reduceAdd, Nat.reduceSub, Nat.reduceMul, reduceCtorEq, reduceIte, Nat.reduceEqDiff, Nat.reduceLT, Nat.reduceLeDiff, Nat.reduceBEq, Int.reduceToNat, Int.reduceLE, Int.reduceLT, hdq, id, hcost]); (try simp (disch := omega) only [wrap_in, wk_self, Int.tdiv_eq_ediv_of_nonneg, Int.tmod_eq_emod_of_nonneg]); (repeat with_reducible refine obA ?_)))
  subst hrq
  iterate 3 (refine peelD fun rq hrq => ?_; (iterate 2 ((try simp (etaStruct := .none) only [push_cast, Int.cast_ofNat_Int, Nat.reduceAdd, Nat.reduceSub, Nat.reduceMul, reduceCtorEq, reduceIte, Nat.reduceEqDiff, Nat.reduceLT, Nat.reduceLeDiff, Nat.reduceBEq, Int.reduceToNat, Int.reduceLE, Int.reduceLT, hdq, id, hcost]); (try simp (disch := omega) only [wrap_in, wk_self, Int.tdiv_eq_ediv_of_nonneg, Int.tmod_eq_emod_of_nonneg]); (repeat with_reducible refine obA ?_))); subst hrq)
  refine peelD fun rq hrq => ?_
  (iterate 2 ((try simp (etaStruct := .none) only [push_cast, Int.cast_ofNat_Int, Nat.reduceAdd, Nat.reduceSub, Nat.reduceMul, reduceCtorEq, reduceIte, Nat.reduceEqDiff, Nat.reduceLT, Nat.reduceLeDiff, Nat.reduceBEq, Int.reduceToNat, Int.reduceLE, Int.reduceLT, hdq, id, hcost]); (try simp (disch := omega) only [wrap_in, wk_self, Int.tdiv_eq_ediv_of_nonneg, Int.tmod_eq_emod_of_nonneg]); (repeat with_reducible refine obA ?_)))
  refine gcallB (fun hcc => wat_s f R c hf hc hcF) (WkL.refl _) rfl (by intro hc; (try simp (etaStruct := .none) only [push_cast, DrawG, Int.cast_ofNat_Int, Nat.reduceAdd, Nat.reduceSub, Nat.reduceMul, reduceCtorEq, reduceIte, Nat.reduceEqDiff, Nat.reduceLT, Nat.reduceLeDiff, Nat.reduceBEq, Int.reduceToNat, Int.reduceLE, Int.reduceLT]); (try simp_all)) ?_
  (iterate 2 ((try simp (etaStruct := .none) only [push_cast, Int.cast_ofNat_Int, Nat.reduceAdd, Nat.reduceSub, Nat.reduceMul, reduceCtorEq, reduceIte, Nat.reduceEqDiff, Nat.reduceLT, Nat.reduceLeDiff, Nat.reduceBEq, Int.reduceToNat, Int.reduceLE, Int.reduceLT, hdq, id, hcost]); (try simp (disch := omega) only [wrap_in, wk_self, Int.tdiv_eq_ediv_of_nonneg, Int.tmod_eq_emod_of_nonneg]); (repeat with_reducible refine obA ?_)))
  subst hrq
  iterate 3 (refine peelD fun rq hrq => ?_; (iterate 2 ((try simp (etaStruct := .none) only [push_cast, Int.cast_ofNat_Int, Nat.reduceAdd, Nat.reduceSub, Nat.reduceMul, reduceCtorEq, reduceIte, Nat.reduceEqDiff, Nat.reduceLT, Nat.reduceLeDiff, Nat.reduceBEq, Int.reduceToNat, Int.reduceLE, Int.reduceLT, hdq, id, hcost]); (try simp (disch := omega) only [wrap_in, wk_self, Int.tdiv_eq_ediv_of_nonneg, Int.tmod_eq_emod_of_nonneg]); (repeat with_reducible refine obA ?_))); subst hrq)
  refine endD ?_
  subst hRq
  clear hdq Oq
  refine endE (by kernel_rfl) ?_
  (iterate 2 ((try simp (etaStruct := .none) only [push_cast, Int.cast_ofNat_Int, Nat.reduceAdd, Nat.reduceSub, Nat.reduceMul, reduceCtorEq, reduceIte, Nat.reduceEqDiff, Nat.reduceLT, Nat.reduceLeDiff, Nat.reduceBEq, Int.reduceToNat, Int.reduceLE, Int.reduceLT, hcost]); (try simp (disch := omega) only [wrap_in, wk_self, Int.tdiv_eq_ediv_of_nonneg, Int.tmod_eq_emod_of_nonneg]); (repeat with_reducible refine obA ?_)))
  refine retM [0, 1, 2, 3] rfl rfl (by decide) ⟨?_, ?_, ?_, ?_, trivial⟩ trivial ?_ <;> simp (etaStruct := .none) only [push_cast, DrawG, Int.cast_ofNat_Int, Nat.reduceAdd, Nat.reduceSub, Nat.reduceMul, reduceCtorEq, reduceIte, Nat.reduceEqDiff, Nat.reduceLT, Nat.reduceLeDiff, Nat.reduceBEq, Int.reduceToNat, Int.reduceLE, Int.reduceLT, nxtP]
theorem wix_s (f : Fld) (R : List Int) (c : Cel) (l : List Cel) (hl : l.length ≤ 1000) (hf : fldE f = 0) (hc : inF f c = true) (hr : placeV f c ≠ 1) (hR : R.length = f.p.length) (hn : ∀ n ∈ l, inF f n = true ∧ -1 ≤ R.getD (idxN f n) default ∧ R.getD (idxN f n) default ≤ 4800) : Spec Try.prog 119 [.c (.sl 2 (l.map celP)), .clo (.func 120) [] [.ptr 0 0 0, .ptr 2 0 0, .ptr 3 0 0]] (watH f R c) (I .i64 (ixOf (nxtP R f c) l)) (watH f R c) := by
  refine spec_am Try.func119 rfl rfl mix 19 rfl [.tmp 4] Try.results119 (Nat.le_of_ble_eq_true rfl) ?_
  (try simp (etaStruct := .none) only [push_cast, DrawG, Int.cast_ofNat_Int, Nat.reduceAdd, Nat.reduceSub, Nat.reduceMul, reduceCtorEq, reduceIte, Nat.reduceEqDiff, Nat.reduceLT, Nat.reduceLeDiff, Nat.reduceBEq, Int.reduceToNat, Int.reduceLE, Int.reduceLT]); (try simp (disch := omega) only [wrap_in, wk_self, Int.tdiv_eq_ediv_of_nonneg, Int.tmod_eq_emod_of_nonneg]); (repeat with_reducible refine obA ?_)
  refine loopI (fun k : Nat => ⟨[(8, I .i64 k), (7, I .i64 l.length), (1, .clo (.func 120) [] [.ptr 0 0 0, .ptr 2 0 0, .ptr 3 0 0]), (0, .c (.sl 2 (l.map celP)))], [(0, .blk 195 [.clo (.func 117) [] [.ptr 1 0 0, .ptr 2 0 0]]), (1, .blk 63 [.c (.sl 1 (R.map i64P))]), (2, .blk 65 (fldC f)), (3, .blk 25 [I .i64 c.x, I .i64 c.y])], 4⟩) (fun k : Nat => k ≤ l.length ∧ ∀ j (hj : j < l.length), j < k → nxtP R f c l[j] = false) (fun k : Nat => l.length - k) (0) (⟨Nat.zero_le _, fun j _ h => absurd h (Nat.not_lt_zero _)⟩) (To.mk [0, 1, 2, 3] rfl rfl (by decide) ?_ ?_) ?_
  · simp (etaStruct := .none) only [push_cast, DrawG, Int.cast_ofNat_Int, Nat.reduceAdd, Nat.reduceSub, Nat.reduceMul, reduceCtorEq, reduceIte, Nat.reduceEqDiff, Nat.reduceLT, Nat.reduceLeDiff, Nat.reduceBEq, Int.reduceToNat, Int.reduceLE, Int.reduceLT]
  · simp (etaStruct := .none) only [push_cast, DrawG, Int.cast_ofNat_Int, Nat.reduceAdd, Nat.reduceSub, Nat.reduceMul, reduceCtorEq, reduceIte, Nat.reduceEqDiff, Nat.reduceLT, Nat.reduceLeDiff, Nat.reduceBEq, Int.reduceToNat, Int.reduceLE, Int.reduceLT]
  rintro k ⟨hk, hno⟩
  (try simp (etaStruct := .none) only [push_cast, DrawG, Int.cast_ofNat_Int, Nat.reduceAdd, Nat.reduceSub, Nat.reduceMul, reduceCtorEq, reduceIte, Nat.reduceEqDiff, Nat.reduceLT, Nat.reduceLeDiff, Nat.reduceBEq, Int.reduceToNat, Int.reduceLE, Int.reduceLT]); (try simp (disch := omega) only [wrap_in, wk_self, Int.tdiv_eq_ediv_of_nonneg, Int.tmod_eq_emod_of_nonneg]); (repeat with_reducible refine obA ?_)
  refine cond_i (fun h1 => ?_) (fun h1 => ?_)
  · (try simp only [decide_eq_true_eq, decide_eq_false_iff_not, Bool.not_eq_true', Bool.not_eq_false', Bool.or_eq_true, Bool.and_eq_true, Bool.or_eq_false_iff, Bool.and_eq_false_iff, Int.not_lt, Int.not_le, Bool.not_true, Bool.not_false, not_and, not_or] at h1)
    have hlt : k < l.length := by omega
    have hnk := hn _ (getD_mem l k hlt)
    (iterate 2 ((try simp (etaStruct := .none) only [push_cast, DrawG, Int.cast_ofNat_Int, Nat.reduceAdd, Nat.reduceSub, Nat.reduceMul, reduceCtorEq, reduceIte, Nat.reduceEqDiff, Nat.reduceLT, Nat.reduceLeDiff, Nat.reduceBEq, Int.reduceToNat, Int.reduceLE, Int.reduceLT, getD_in _ _ _ hlt, celP]); (try simp (disch := omega) only [wrap_in, wk_self, Int.tdiv_eq_ediv_of_nonneg, Int.tmod_eq_emod_of_nonneg]); (repeat with_reducible refine obA ?_)))
    refine callM [0, 1, 2, 3] (wnx_s f R c (l.getD k default) hf hnk.1 hc hr hR hnk.2) (WkL.refl _) rfl (by decide) (by simp [lookC_c]) ?_
    (iterate 2 ((try simp (etaStruct := .none) only [push_cast, DrawG, Int.cast_ofNat_Int, Nat.reduceAdd, Nat.reduceSub, Nat.reduceMul, reduceCtorEq, reduceIte, Nat.reduceEqDiff, Nat.reduceLT, Nat.reduceLeDiff, Nat.reduceBEq, Int.reduceToNat, Int.reduceLE, Int.reduceLT, getD_in _ _ _ hlt, celP]); (try simp (disch := omega) only [wrap_in, wk_self, Int.tdiv_eq_ediv_of_nonneg, Int.tmod_eq_emod_of_nonneg]); (repeat with_reducible refine obA ?_)))
    refine cond_i (fun h2 => ?_) (fun h2 => ?_)
    · (try simp only [decide_eq_true_eq, decide_eq_false_iff_not, Bool.not_eq_true', Bool.not_eq_false', Bool.or_eq_true, Bool.and_eq_true, Bool.or_eq_false_iff, Bool.and_eq_false_iff, Int.not_lt, Int.not_le, Bool.not_true, Bool.not_false, not_and, not_or] at h2)
      have e := ixOf_hit (nxtP R f c) l k hlt (by rw [← getD_at l k hlt]; exact h2) hno
      rw [e]
      (iterate 2 ((try simp (etaStruct := .none) only [push_cast, DrawG, Int.cast_ofNat_Int, Nat.reduceAdd, Nat.reduceSub, Nat.reduceMul, reduceCtorEq, reduceIte, Nat.reduceEqDiff, Nat.reduceLT, Nat.reduceLeDiff, Nat.reduceBEq, Int.reduceToNat, Int.reduceLE, Int.reduceLT, getD_in _ _ _ hlt, celP]); (try simp (disch := omega) only [wrap_in, wk_self, Int.tdiv_eq_ediv_of_nonneg, Int.tmod_eq_emod_of_nonneg]); (repeat with_reducible refine obA ?_)))
      refine retM [0, 1, 2, 3] rfl rfl (by decide) ⟨?_, ?_, ?_, ?_, trivial⟩ trivial ?_ <;> simp (etaStruct := .none) only [push_cast, DrawG, Int.cast_ofNat_Int, Nat.reduceAdd, Nat.reduceSub, Nat.reduceMul, reduceCtorEq, reduceIte, Nat.reduceEqDiff, Nat.reduceLT, Nat.reduceLeDiff, Nat.reduceBEq, Int.reduceToNat, Int.reduceLE, Int.reduceLT]
    · (try simp only [decide_eq_true_eq, decide_eq_false_iff_not, Bool.not_eq_true', Bool.not_eq_false', Bool.or_eq_true, Bool.and_eq_true, Bool.or_eq_false_iff, Bool.and_eq_false_iff, Int.not_lt, Int.not_le, Bool.not_true, Bool.not_false, not_and, not_or] at h2)
      have hno2 : ∀ j (hj : j < l.length), j < k + 1 → nxtP R f c l[j] = false := fun j hj h => by
        rcases Nat.lt_or_ge j k with h3 | h3
        · exact hno j hj h3
        · obtain rfl : j = k := by omega
          rw [← getD_at l j hj]; exact h2
      (iterate 2 ((try simp (etaStruct := .none) only [push_cast, DrawG, Int.cast_ofNat_Int, Nat.reduceAdd, Nat.reduceSub, Nat.reduceMul, reduceCtorEq, reduceIte, Nat.reduceEqDiff, Nat.reduceLT, Nat.reduceLeDiff, Nat.reduceBEq, Int.reduceToNat, Int.reduceLE, Int.reduceLT, getD_in _ _ _ hlt, celP]); (try simp (disch := omega) only [wrap_in, wk_self, Int.tdiv_eq_ediv_of_nonneg, Int.tmod_eq_emod_of_nonneg]); (repeat with_reducible refine obA ?_)))
      refine ⟨k + 1, ⟨by omega, hno2⟩, by omega, To.mk [0, 1, 2, 3] rfl rfl (by decide) ?_ ?_⟩
      · (iterate 2 ((try simp (etaStruct := .none) only [push_cast, DrawG, Int.cast_ofNat_Int, Nat.reduceAdd, Nat.reduceSub, Nat.reduceMul, reduceCtorEq, reduceIte, Nat.reduceEqDiff, Nat.reduceLT, Nat.reduceLeDiff, Nat.reduceBEq, Int.reduceToNat, Int.reduceLE, Int.reduceLT, getD_in _ _ _ hlt, celP]); (try simp (disch := omega) only [wrap_in, wk_self, Int.tdiv_eq_ediv_of_nonneg, Int.tmod_eq_emod_of_nonneg]); (repeat with_reducible refine obA ?_)))
      · (iterate 2 ((try simp (etaStruct := .none) only [push_cast, DrawG, Int.cast_ofNat_Int, Nat.reduceAdd, Nat.reduceSub, Nat.reduceMul, reduceCtorEq, reduceIte, Nat.reduceEqDiff, Nat.reduceLT, Nat.reduceLeDiff, Nat.reduceBEq, Int.reduceToNat, Int.reduceLE, Int.reduceLT, getD_in _ _ _ hlt, celP]); (try simp (disch := omega) only [wrap_in, wk_self, Int.tdiv_eq_ediv_of_nonneg, Int.tmod_eq_emod_of_nonneg]); (repeat with_reducible refine obA ?_)))
  · (try simp only [decide_eq_true_eq, decide_eq_false_iff_not, Bool.not_eq_true', Bool.not_eq_false', Bool.or_eq_true, Bool.and_eq_true, Bool.or_eq_false_iff, Bool.and_eq_false_iff, Int.not_lt, Int.not_le, Bool.not_true, Bool.not_false, not_and, not_or] at h1)
    have e := ixOf_miss (nxtP R f c) l (fun j hj => hno j hj (by omega))
    rw [e]
    (try simp (etaStruct := .none) only [push_cast, DrawG, Int.cast_ofNat_Int, Nat.reduceAdd, Nat.reduceSub, Nat.reduceMul, reduceCtorEq, reduceIte, Nat.reduceEqDiff, Nat.reduceLT, Nat.reduceLeDiff, Nat.reduceBEq, Int.reduceToNat, Int.reduceLE, Int.reduceLT]); (try simp (disch := omega) only [wrap_in, wk_self, Int.tdiv_eq_ediv_of_nonneg, Int.tmod_eq_emod_of_nonneg]); (repeat with_reducible refine obA ?_)
    refine retM [0, 1, 2, 3] rfl rfl (by decide) ⟨?_, ?_, ?_, ?_, trivial⟩ trivial ?_ <;> simp (etaStruct := .none) only [push_cast, DrawG, Int.cast_ofNat_Int, Nat.reduceAdd, Nat.reduceSub, Nat.reduceMul, reduceCtorEq, reduceIte, Nat.reduceEqDiff, Nat.reduceLT, Nat.reduceLeDiff, Nat.reduceBEq, Int.reduceToNat, Int.reduceLE, Int.reduceLT]
theorem ix_find {α : Type} [Inhabited α] {p : α → Bool} {l : List α} {x : α} (h : l.find? p = some x) : ∃ i : Nat, ixOf p l = (i : Int) ∧ i < l.length ∧ l.getD i default = x := by
  rw [List.find?_eq_some_iff_getElem] at h
  obtain ⟨h1, i, hi, rfl, h2⟩ := h
  exact ⟨i, ixOf_hit p l i hi h1 (fun j hj hji => by simpa using h2 j hji), hi, getD_at _ _ hi⟩
theorem R_bound {f : Fld} {a : Cel} {R : List Int} (hf : fldE f = 0) (ha : inF f a = true) (hpa : placeV f a ≠ 1) (hR : FloodIs f [a] R) {n : Cel} (hn : inF f n = true) : -1 ≤ R.getD (idxN f n) default ∧ R.getD (idxN f n) default ≤ 4800 := by
  obtain ⟨W, H, s⟩ := srch (b := n) hf ha hpa hR
  have hnL := (in_celW s.w s.h s.w0 hf hn).2
  have h1 := s.r.low _ hnL
  refine ⟨h1, ?_⟩
  rcases Int.lt_or_le (R.getD (idxN f n) default) 0 with h | h
  · omega
  · have h2 := ((s.end hf ha hn).2 h).1
    have h3 := (runS_b s (place_ix hf ha).2.2.2.2 _ hnL).2
    omega
theorem wayOf_s (f : Fld) (a b : Cel) (hl : f.p.length ≤ 9223372036854775807) (R : List Int) (hR : FloodIs f [a] R) : Spec Try.prog 36 [fldA f, celA a, celA b] [] (.tup [.c (.sl 2 ((if wayE R f a b = 0 then wayV R f a b else []).map celP)), I .i64 (wayD R f a b), I .i64 (wayE R f a b)]) [] := by
  have hE6 : fldE f ≠ 0 → wayE R f a b = fldE f := fun h => by unfold wayE; rw [if_pos h]
  refine spec_am Try.func36 rfl rfl mix 79 rfl [.tmp 6, .tmp 7, .tmp 8] Try.results36 (Nat.le_of_ble_eq_true rfl) ?_
  (try simp (etaStruct := .none) only [push_cast, DrawG, Int.cast_ofNat_Int, Nat.reduceAdd, Nat.reduceSub, Nat.reduceMul, reduceCtorEq, reduceIte, Nat.reduceEqDiff, Nat.reduceLT, Nat.reduceLeDiff, Nat.reduceBEq, Int.reduceToNat, Int.reduceLE, Int.reduceLT]); (try simp (disch := omega) only [wrap_in, wk_self, Int.tdiv_eq_ediv_of_nonneg, Int.tmod_eq_emod_of_nonneg]); (repeat with_reducible refine obA ?_)
  refine callP (fright_s f hl) (WkL.refl _) ?_
  (try simp (etaStruct := .none) only [push_cast, DrawG, Int.cast_ofNat_Int, Nat.reduceAdd, Nat.reduceSub, Nat.reduceMul, reduceCtorEq, reduceIte, Nat.reduceEqDiff, Nat.reduceLT, Nat.reduceLeDiff, Nat.reduceBEq, Int.reduceToNat, Int.reduceLE, Int.reduceLT]); (try simp (disch := omega) only [wrap_in, wk_self, Int.tdiv_eq_ediv_of_nonneg, Int.tmod_eq_emod_of_nonneg]); (repeat with_reducible refine obA ?_)
  refine cond_i (fun h1 => ?_) (fun h1 => ?_)
  · (try simp only [decide_eq_true_eq, decide_eq_false_iff_not, Bool.not_eq_true', Bool.not_eq_false', Bool.or_eq_true, Bool.and_eq_true, Bool.or_eq_false_iff, Bool.and_eq_false_iff, Int.not_lt, Int.not_le, Bool.not_true, Bool.not_false, not_and, not_or] at h1)
    have e := hE6 h1
    have e2 : wayD R f a b = 0 := by unfold wayD; rw [if_neg (by rw [e]; exact h1)]
    have e3 : (if wayE R f a b = 0 then wayV R f a b else []) = [] := if_neg (by rw [e]; exact h1)
    rw [e3, e2, e]
    (try simp (etaStruct := .none) only [push_cast, DrawG, Int.cast_ofNat_Int, Nat.reduceAdd, Nat.reduceSub, Nat.reduceMul, reduceCtorEq, reduceIte, Nat.reduceEqDiff, Nat.reduceLT, Nat.reduceLeDiff, Nat.reduceBEq, Int.reduceToNat, Int.reduceLE, Int.reduceLT]); (try simp (disch := omega) only [wrap_in, wk_self, Int.tdiv_eq_ediv_of_nonneg, Int.tmod_eq_emod_of_nonneg]); (repeat with_reducible refine obA ?_)
    (first | (refine ret0 rfl (by repeat' (first | exact trivial | exact rfl | refine ⟨?_, ?_⟩)) (Wk.of ?_); (try simp (etaStruct := .none) only [push_cast, DrawG, Int.cast_ofNat_Int, Nat.reduceAdd, Nat.reduceSub, Nat.reduceMul, reduceCtorEq, reduceIte, Nat.reduceEqDiff, Nat.reduceLT, Nat.reduceLeDiff, Nat.reduceBEq, Int.reduceToNat, Int.reduceLE, Int.reduceLT]); first | done | (simp [*]; done) | (simp_all []; done)) | (refine ret0 rfl (by repeat' (first | exact trivial | exact rfl | refine ⟨?_, ?_⟩)) ?_; (try simp (etaStruct := .none) only [push_cast, DrawG, Int.cast_ofNat_Int, Nat.reduceAdd, Nat.reduceSub, Nat.reduceMul, reduceCtorEq, reduceIte, Nat.reduceEqDiff, Nat.reduceLT, Nat.reduceLeDiff, Nat.reduceBEq, Int.reduceToNat, Int.reduceLE, Int.reduceLT]); (try simp [*]); (try (first | exact Wk.refl _ | exact Wk.nil _ | (refine Wk.tup ?_; repeat' (first | exact trivial | exact Wk.refl _ | exact Wk.nil _ | refine ⟨?_, ?_⟩ | (refine Wk.agg ?_)))))))
  · (try simp only [decide_eq_true_eq, decide_eq_false_iff_not, Bool.not_eq_true', Bool.not_eq_false', Bool.or_eq_true, Bool.and_eq_true, Bool.or_eq_false_iff, Bool.and_eq_false_iff, Int.not_lt, Int.not_le, Bool.not_true, Bool.not_false, not_and, not_or] at h1)
    have hf := h1
    (try simp (etaStruct := .none) only [push_cast, DrawG, Int.cast_ofNat_Int, Nat.reduceAdd, Nat.reduceSub, Nat.reduceMul, reduceCtorEq, reduceIte, Nat.reduceEqDiff, Nat.reduceLT, Nat.reduceLeDiff, Nat.reduceBEq, Int.reduceToNat, Int.reduceLE, Int.reduceLT]); (try simp (disch := omega) only [wrap_in, wk_self, Int.tdiv_eq_ediv_of_nonneg, Int.tmod_eq_emod_of_nonneg]); (repeat with_reducible refine obA ?_)
    refine callP (in_s' f a hf) (WkL.refl _) ?_
    (try simp (etaStruct := .none) only [push_cast, DrawG, Int.cast_ofNat_Int, Nat.reduceAdd, Nat.reduceSub, Nat.reduceMul, reduceCtorEq, reduceIte, Nat.reduceEqDiff, Nat.reduceLT, Nat.reduceLeDiff, Nat.reduceBEq, Int.reduceToNat, Int.reduceLE, Int.reduceLT]); (try simp (disch := omega) only [wrap_in, wk_self, Int.tdiv_eq_ediv_of_nonneg, Int.tmod_eq_emod_of_nonneg]); (repeat with_reducible refine obA ?_)
    refine gcallP (fun hcc => in_s' f b hf) (WkL.refl _) (by intro hc; (try simp (etaStruct := .none) only [push_cast, DrawG, Int.cast_ofNat_Int, Nat.reduceAdd, Nat.reduceSub, Nat.reduceMul, reduceCtorEq, reduceIte, Nat.reduceEqDiff, Nat.reduceLT, Nat.reduceLeDiff, Nat.reduceBEq, Int.reduceToNat, Int.reduceLE, Int.reduceLT]); (try simp_all)) ?_
    (try simp (etaStruct := .none) only [push_cast, DrawG, Int.cast_ofNat_Int, Nat.reduceAdd, Nat.reduceSub, Nat.reduceMul, reduceCtorEq, reduceIte, Nat.reduceEqDiff, Nat.reduceLT, Nat.reduceLeDiff, Nat.reduceBEq, Int.reduceToNat, Int.reduceLE, Int.reduceLT]); (try simp (disch := omega) only [wrap_in, wk_self, Int.tdiv_eq_ediv_of_nonneg, Int.tmod_eq_emod_of_nonneg]); (repeat with_reducible refine obA ?_)
    refine cond_i (fun h2 => ?_) (fun h2 => ?_)
    · (try simp only [decide_eq_true_eq, decide_eq_false_iff_not, Bool.not_eq_true', Bool.not_eq_false', Bool.or_eq_true, Bool.and_eq_true, Bool.or_eq_false_iff, Bool.and_eq_false_iff, Int.not_lt, Int.not_le, Bool.not_true, Bool.not_false, not_and, not_or] at h2)
      have e : wayE R f a b = 7 := by
        unfold wayE
        rw [if_neg (by simp [hf]), if_pos]
        rintro ⟨k1, k2⟩
        rw [k1, k2] at h2
        simp at h2
      have e2 : wayD R f a b = 0 := by unfold wayD; rw [if_neg (by rw [e]; decide)]
      have e3 : (if wayE R f a b = 0 then wayV R f a b else []) = [] := if_neg (by rw [e]; decide)
      rw [e3, e2, e]
      (try simp (etaStruct := .none) only [push_cast, DrawG, Int.cast_ofNat_Int, Nat.reduceAdd, Nat.reduceSub, Nat.reduceMul, reduceCtorEq, reduceIte, Nat.reduceEqDiff, Nat.reduceLT, Nat.reduceLeDiff, Nat.reduceBEq, Int.reduceToNat, Int.reduceLE, Int.reduceLT]); (try simp (disch := omega) only [wrap_in, wk_self, Int.tdiv_eq_ediv_of_nonneg, Int.tmod_eq_emod_of_nonneg]); (repeat with_reducible refine obA ?_)
      (first | (refine ret0 rfl (by repeat' (first | exact trivial | exact rfl | refine ⟨?_, ?_⟩)) (Wk.of ?_); (try simp (etaStruct := .none) only [push_cast, DrawG, Int.cast_ofNat_Int, Nat.reduceAdd, Nat.reduceSub, Nat.reduceMul, reduceCtorEq, reduceIte, Nat.reduceEqDiff, Nat.reduceLT, Nat.reduceLeDiff, Nat.reduceBEq, Int.reduceToNat, Int.reduceLE, Int.reduceLT]); first | done | (simp [*]; done) | (simp_all []; done)) | (refine ret0 rfl (by repeat' (first | exact trivial | exact rfl | refine ⟨?_, ?_⟩)) ?_; (try simp (etaStruct := .none) only [push_cast, DrawG, Int.cast_ofNat_Int, Nat.reduceAdd, Nat.reduceSub, Nat.reduceMul, reduceCtorEq, reduceIte, Nat.reduceEqDiff, Nat.reduceLT, Nat.reduceLeDiff, Nat.reduceBEq, Int.reduceToNat, Int.reduceLE, Int.reduceLT]); (try simp [*]); (try (first | exact Wk.refl _ | exact Wk.nil _ | (refine Wk.tup ?_; repeat' (first | exact trivial | exact Wk.refl _ | exact Wk.nil _ | refine ⟨?_, ?_⟩ | (refine Wk.agg ?_)))))))
    · (try simp only [decide_eq_true_eq, decide_eq_false_iff_not, Bool.not_eq_true', Bool.not_eq_false', Bool.or_eq_true, Bool.and_eq_true, Bool.or_eq_false_iff, Bool.and_eq_false_iff, Int.not_lt, Int.not_le, Bool.not_true, Bool.not_false, not_and, not_or] at h2)
      obtain ⟨ha, hb⟩ : inF f a = true ∧ inF f b = true := by simpa using h2
      (try simp (etaStruct := .none) only [push_cast, DrawG, Int.cast_ofNat_Int, Nat.reduceAdd, Nat.reduceSub, Nat.reduceMul, reduceCtorEq, reduceIte, Nat.reduceEqDiff, Nat.reduceLT, Nat.reduceLeDiff, Nat.reduceBEq, Int.reduceToNat, Int.reduceLE, Int.reduceLT]); (try simp (disch := omega) only [wrap_in, wk_self, Int.tdiv_eq_ediv_of_nonneg, Int.tmod_eq_emod_of_nonneg]); (repeat with_reducible refine obA ?_)
      refine callP (place_s f a hf ha) (WkL.refl _) ?_
      (try simp (etaStruct := .none) only [push_cast, DrawG, Int.cast_ofNat_Int, Nat.reduceAdd, Nat.reduceSub, Nat.reduceMul, reduceCtorEq, reduceIte, Nat.reduceEqDiff, Nat.reduceLT, Nat.reduceLeDiff, Nat.reduceBEq, Int.reduceToNat, Int.reduceLE, Int.reduceLT]); (try simp (disch := omega) only [wrap_in, wk_self, Int.tdiv_eq_ediv_of_nonneg, Int.tmod_eq_emod_of_nonneg]); (repeat with_reducible refine obA ?_)
      refine gcallP (fun hcc => place_s f b hf hb) (WkL.refl _) (by intro hc; (try simp (etaStruct := .none) only [push_cast, DrawG, Int.cast_ofNat_Int, Nat.reduceAdd, Nat.reduceSub, Nat.reduceMul, reduceCtorEq, reduceIte, Nat.reduceEqDiff, Nat.reduceLT, Nat.reduceLeDiff, Nat.reduceBEq, Int.reduceToNat, Int.reduceLE, Int.reduceLT]); (try simp_all)) ?_
      (try simp (etaStruct := .none) only [push_cast, DrawG, Int.cast_ofNat_Int, Nat.reduceAdd, Nat.reduceSub, Nat.reduceMul, reduceCtorEq, reduceIte, Nat.reduceEqDiff, Nat.reduceLT, Nat.reduceLeDiff, Nat.reduceBEq, Int.reduceToNat, Int.reduceLE, Int.reduceLT]); (try simp (disch := omega) only [wrap_in, wk_self, Int.tdiv_eq_ediv_of_nonneg, Int.tmod_eq_emod_of_nonneg]); (repeat with_reducible refine obA ?_)
      refine cond_i (fun h3 => ?_) (fun h3 => ?_)
      · (try simp only [decide_eq_true_eq, decide_eq_false_iff_not, Bool.not_eq_true', Bool.not_eq_false', Bool.or_eq_true, Bool.and_eq_true, Bool.or_eq_false_iff, Bool.and_eq_false_iff, Int.not_lt, Int.not_le, Bool.not_true, Bool.not_false, not_and, not_or] at h3)
        have e : wayE R f a b = 9 := by
          unfold wayE
          rw [if_neg (by simp [hf]), if_neg (fun h => h ⟨ha, hb⟩), if_pos h3]
        have e2 : wayD R f a b = 0 := by unfold wayD; rw [if_neg (by rw [e]; decide)]
        have e3 : (if wayE R f a b = 0 then wayV R f a b else []) = [] := if_neg (by rw [e]; decide)
        rw [e3, e2, e]
        (try simp (etaStruct := .none) only [push_cast, DrawG, Int.cast_ofNat_Int, Nat.reduceAdd, Nat.reduceSub, Nat.reduceMul, reduceCtorEq, reduceIte, Nat.reduceEqDiff, Nat.reduceLT, Nat.reduceLeDiff, Nat.reduceBEq, Int.reduceToNat, Int.reduceLE, Int.reduceLT]); (try simp (disch := omega) only [wrap_in, wk_self, Int.tdiv_eq_ediv_of_nonneg, Int.tmod_eq_emod_of_nonneg]); (repeat with_reducible refine obA ?_)
        (first | (refine ret0 rfl (by repeat' (first | exact trivial | exact rfl | refine ⟨?_, ?_⟩)) (Wk.of ?_); (try simp (etaStruct := .none) only [push_cast, DrawG, Int.cast_ofNat_Int, Nat.reduceAdd, Nat.reduceSub, Nat.reduceMul, reduceCtorEq, reduceIte, Nat.reduceEqDiff, Nat.reduceLT, Nat.reduceLeDiff, Nat.reduceBEq, Int.reduceToNat, Int.reduceLE, Int.reduceLT]); first | done | (simp [*]; done) | (simp_all []; done)) | (refine ret0 rfl (by repeat' (first | exact trivial | exact rfl | refine ⟨?_, ?_⟩)) ?_; (try simp (etaStruct := .none) only [push_cast, DrawG, Int.cast_ofNat_Int, Nat.reduceAdd, Nat.reduceSub, Nat.reduceMul, reduceCtorEq, reduceIte, Nat.reduceEqDiff, Nat.reduceLT, Nat.reduceLeDiff, Nat.reduceBEq, Int.reduceToNat, Int.reduceLE, Int.reduceLT]); (try simp [*]); (try (first | exact Wk.refl _ | exact Wk.nil _ | (refine Wk.tup ?_; repeat' (first | exact trivial | exact Wk.refl _ | exact Wk.nil _ | refine ⟨?_, ?_⟩ | (refine Wk.agg ?_)))))))
      · (try simp only [decide_eq_true_eq, decide_eq_false_iff_not, Bool.not_eq_true', Bool.not_eq_false', Bool.or_eq_true, Bool.and_eq_true, Bool.or_eq_false_iff, Bool.and_eq_false_iff, Int.not_lt, Int.not_le, Bool.not_true, Bool.not_false, not_and, not_or] at h3)
        obtain ⟨hpa, hpb⟩ := h3
        have hRl : ∃ W H, Srch f a b R W H := srch hf ha hpa hR
        obtain ⟨W, H, s⟩ := hRl
        have hbF : idxN f b < R.length := by rw [s.r.len]; exact (in_celW s.w s.h s.w0 hf hb).2
        have hpx := place_ix hf ha
        (try simp (etaStruct := .none) only [push_cast, DrawG, Int.cast_ofNat_Int, Nat.reduceAdd, Nat.reduceSub, Nat.reduceMul, reduceCtorEq, reduceIte, Nat.reduceEqDiff, Nat.reduceLT, Nat.reduceLeDiff, Nat.reduceBEq, Int.reduceToNat, Int.reduceLE, Int.reduceLT]); (try simp (disch := omega) only [wrap_in, wk_self, Int.tdiv_eq_ediv_of_nonneg, Int.tmod_eq_emod_of_nonneg]); (repeat with_reducible refine obA ?_)
        refine callM [3] (Spec.hand 0 (floods_s f [a] R hR hl (by simp)) (Nat.zero_le _) rfl (by exact WkL.refl _) rfl) (WkL.refl _) rfl (by decide) (by simp [lookC_c]) ?_
        (try simp (etaStruct := .none) only [push_cast, DrawG, Int.cast_ofNat_Int, Nat.reduceAdd, Nat.reduceSub, Nat.reduceMul, reduceCtorEq, reduceIte, Nat.reduceEqDiff, Nat.reduceLT, Nat.reduceLeDiff, Nat.reduceBEq, Int.reduceToNat, Int.reduceLE, Int.reduceLT]); (try simp (disch := omega) only [wrap_in, wk_self, Int.tdiv_eq_ediv_of_nonneg, Int.tmod_eq_emod_of_nonneg]); (repeat with_reducible refine obA ?_)
        refine callB (wat_s f R b hf hb hbF) (WkL.refl _) rfl ?_
        (try simp (etaStruct := .none) only [push_cast, DrawG, Int.cast_ofNat_Int, Nat.reduceAdd, Nat.reduceSub, Nat.reduceMul, reduceCtorEq, reduceIte, Nat.reduceEqDiff, Nat.reduceLT, Nat.reduceLeDiff, Nat.reduceBEq, Int.reduceToNat, Int.reduceLE, Int.reduceLT]); (try simp (disch := omega) only [wrap_in, wk_self, Int.tdiv_eq_ediv_of_nonneg, Int.tmod_eq_emod_of_nonneg]); (repeat with_reducible refine obA ?_)
        refine cond_i (fun h4 => ?_) (fun h4 => ?_)
        · (try simp only [decide_eq_true_eq, decide_eq_false_iff_not, Bool.not_eq_true', Bool.not_eq_false', Bool.or_eq_true, Bool.and_eq_true, Bool.or_eq_false_iff, Bool.and_eq_false_iff, Int.not_lt, Int.not_le, Bool.not_true, Bool.not_false, not_and, not_or] at h4)
          have e : wayE R f a b = 6 := by
            unfold wayE
            rw [if_neg (by simp [hf]), if_neg (fun h => h ⟨ha, hb⟩), if_neg (fun h => by rcases h with h | h; exact hpa h; exact hpb h), if_pos h4]
          have e2 : wayD R f a b = 0 := by unfold wayD; rw [if_neg (by rw [e]; decide)]
          have e3 : (if wayE R f a b = 0 then wayV R f a b else []) = [] := if_neg (by rw [e]; decide)
          rw [e3, e2, e]
          (try simp (etaStruct := .none) only [push_cast, DrawG, Int.cast_ofNat_Int, Nat.reduceAdd, Nat.reduceSub, Nat.reduceMul, reduceCtorEq, reduceIte, Nat.reduceEqDiff, Nat.reduceLT, Nat.reduceLeDiff, Nat.reduceBEq, Int.reduceToNat, Int.reduceLE, Int.reduceLT]); (try simp (disch := omega) only [wrap_in, wk_self, Int.tdiv_eq_ediv_of_nonneg, Int.tmod_eq_emod_of_nonneg]); (repeat with_reducible refine obA ?_)
          (first | (refine ret0 rfl (by repeat' (first | exact trivial | exact rfl | refine ⟨?_, ?_⟩)) (Wk.of ?_); (try simp (etaStruct := .none) only [push_cast, DrawG, Int.cast_ofNat_Int, Nat.reduceAdd, Nat.reduceSub, Nat.reduceMul, reduceCtorEq, reduceIte, Nat.reduceEqDiff, Nat.reduceLT, Nat.reduceLeDiff, Nat.reduceBEq, Int.reduceToNat, Int.reduceLE, Int.reduceLT]); first | done | (simp [*]; done) | (simp_all []; done)) | (refine ret0 rfl (by repeat' (first | exact trivial | exact rfl | refine ⟨?_, ?_⟩)) ?_; (try simp (etaStruct := .none) only [push_cast, DrawG, Int.cast_ofNat_Int, Nat.reduceAdd, Nat.reduceSub, Nat.reduceMul, reduceCtorEq, reduceIte, Nat.reduceEqDiff, Nat.reduceLT, Nat.reduceLeDiff, Nat.reduceBEq, Int.reduceToNat, Int.reduceLE, Int.reduceLT]); (try simp [*]); (try (first | exact Wk.refl _ | exact Wk.nil _ | (refine Wk.tup ?_; repeat' (first | exact trivial | exact Wk.refl _ | exact Wk.nil _ | refine ⟨?_, ?_⟩ | (refine Wk.agg ?_)))))))
        · (try simp only [decide_eq_true_eq, decide_eq_false_iff_not, Bool.not_eq_true', Bool.not_eq_false', Bool.or_eq_true, Bool.and_eq_true, Bool.or_eq_false_iff, Bool.and_eq_false_iff, Int.not_lt, Int.not_le, Bool.not_true, Bool.not_false, not_and, not_or] at h4)
          have hE : wayE R f a b = 0 := by
            unfold wayE
            rw [if_neg (by simp [hf]), if_neg (fun h => h ⟨ha, hb⟩), if_neg (fun h => by rcases h with h | h; exact hpa h; exact hpb h), if_neg (by omega)]
          have e2 : wayD R f a b = R.getD (idxN f b) default := if_pos hE
          rw [e2, hE, if_pos rfl]
          have hRb := R_bound hf ha hpa hR hb
          (try simp (etaStruct := .none) only [push_cast, DrawG, Int.cast_ofNat_Int, Nat.reduceAdd, Nat.reduceSub, Nat.reduceMul, reduceCtorEq, reduceIte, Nat.reduceEqDiff, Nat.reduceLT, Nat.reduceLeDiff, Nat.reduceBEq, Int.reduceToNat, Int.reduceLE, Int.reduceLT]); (try simp (disch := omega) only [wrap_in, wk_self, Int.tdiv_eq_ediv_of_nonneg, Int.tmod_eq_emod_of_nonneg]); (repeat with_reducible refine obA ?_)
          refine loopI (fun x : Nat × Cel × List Cel => ⟨[(14, .ptr 5 0 0), (13, .own 6), (12, .ptr 0 0 0), (5, .ptr 4 0 0), (4, .ptr 3 0 0), (3, .ptr 2 0 0)], [(0, .blk 195 [.clo (.func 117) [] [.ptr 1 0 0, .ptr 2 0 0]]), (1, .blk 63 [.c (.sl 1 (R.map i64P))]), (2, .blk 65 (fldC f)), (3, .blk 25 [I .i64 a.x, I .i64 a.y]), (4, .blk 25 [I .i64 b.x, I .i64 b.y]), (5, .blk 25 [I .i64 x.2.1.x, I .i64 x.2.1.y]), (6, .row 25 2 (x.2.2.map celP))], 7⟩) (fun x : Nat × Cel × List Cel => inF f x.2.1 = true ∧ 0 ≤ R.getD (idxN f x.2.1) default ∧ R.getD (idxN f x.2.1) default ≤ x.1 ∧ x.2.2 ++ wayL R f a x.1 x.2.1 = b :: wayL R f a (R.getD (idxN f b) default).toNat b ∧ x.2.2.length + x.1 ≤ 4801) (fun x : Nat × Cel × List Cel => x.1) (((R.getD (idxN f b) default).toNat, b, [b])) (⟨hb, by simp only; omega, by simp only; omega, rfl, by simp only [List.length_singleton]; omega⟩) (To.mk [5, 4, 0, 1, 2, 7, 6] rfl rfl (by decide) ?_ ?_) ?_
          · (iterate 2 ((try simp (etaStruct := .none) only [push_cast, DrawG, Int.cast_ofNat_Int, Nat.reduceAdd, Nat.reduceSub, Nat.reduceMul, reduceCtorEq, reduceIte, Nat.reduceEqDiff, Nat.reduceLT, Nat.reduceLeDiff, Nat.reduceBEq, Int.reduceToNat, Int.reduceLE, Int.reduceLT, celP]); (try simp (disch := omega) only [wrap_in, wk_self, Int.tdiv_eq_ediv_of_nonneg, Int.tmod_eq_emod_of_nonneg]); (repeat with_reducible refine obA ?_)))
          · simp (etaStruct := .none) only [push_cast, DrawG, Int.cast_ofNat_Int, Nat.reduceAdd, Nat.reduceSub, Nat.reduceMul, reduceCtorEq, reduceIte, Nat.reduceEqDiff, Nat.reduceLT, Nat.reduceLeDiff, Nat.reduceBEq, Int.reduceToNat, Int.reduceLE, Int.reduceLT]
          rintro ⟨N, c, out⟩ ⟨hc, hc0, hcN, hway, hlen⟩
          simp only at hc hc0 hcN hway hlen
          (try simp (etaStruct := .none) only [push_cast, DrawG, Int.cast_ofNat_Int, Nat.reduceAdd, Nat.reduceSub, Nat.reduceMul, reduceCtorEq, reduceIte, Nat.reduceEqDiff, Nat.reduceLT, Nat.reduceLeDiff, Nat.reduceBEq, Int.reduceToNat, Int.reduceLE, Int.reduceLT]); (try simp (disch := omega) only [wrap_in, wk_self, Int.tdiv_eq_ediv_of_nonneg, Int.tmod_eq_emod_of_nonneg]); (repeat with_reducible refine obA ?_)
          refine cond_i (fun h5 => ?_) (fun h5 => ?_)
          · (try simp only [decide_eq_true_eq, decide_eq_false_iff_not, Bool.not_eq_true', Bool.not_eq_false', Bool.or_eq_true, Bool.and_eq_true, Bool.or_eq_false_iff, Bool.and_eq_false_iff, Int.not_lt, Int.not_le, Bool.not_true, Bool.not_false, not_and, not_or] at h5)
            have hca : c ≠ a := cel_ne.1 (fun h => by rcases h5 with h5 | h5; exact h5 h.1; exact h5 h.2)
            have hci := inF_iff.1 hc
            have hfo := fldE_ok hf
            have hwc := way_cost s hf hpa hc hc0
            have hrk : placeV f c ≠ 1 := fun h => by unfold costC at hwc; rw [if_pos hc, if_pos h] at hwc; simp at hwc
            obtain ⟨g1, g2, g3, g4, g5, g6⟩ := nxt_ok s.w s.h s.w0 hf s.l s.r ha hc hca hc0
            have hkv := kV_b (placeV f c)
            obtain ⟨M, rfl⟩ : ∃ M, N = M + 1 := ⟨N - 1, by omega⟩
            obtain ⟨ix, hix, hixl, hixe⟩ := ix_find g1
            rw [wayL, if_neg hca] at hway
            (iterate 2 ((try simp (etaStruct := .none) only [push_cast, DrawG, Int.cast_ofNat_Int, Nat.reduceAdd, Nat.reduceSub, Nat.reduceMul, reduceCtorEq, reduceIte, Nat.reduceEqDiff, Nat.reduceLT, Nat.reduceLeDiff, Nat.reduceBEq, Int.reduceToNat, Int.reduceLE, Int.reduceLT, hix, getD_in _ _ _ hixl, hixe, celP]); (try simp (disch := omega) only [wrap_in, wk_self, Int.tdiv_eq_ediv_of_nonneg, Int.tmod_eq_emod_of_nonneg]); (repeat with_reducible refine obA ?_)))
            refine callP (besides_s f c hf (by omega) (by omega)) (WkL.refl _) ?_
            (iterate 2 ((try simp (etaStruct := .none) only [push_cast, DrawG, Int.cast_ofNat_Int, Nat.reduceAdd, Nat.reduceSub, Nat.reduceMul, reduceCtorEq, reduceIte, Nat.reduceEqDiff, Nat.reduceLT, Nat.reduceLeDiff, Nat.reduceBEq, Int.reduceToNat, Int.reduceLE, Int.reduceLT, hix, getD_in _ _ _ hixl, hixe, celP]); (try simp (disch := omega) only [wrap_in, wk_self, Int.tdiv_eq_ediv_of_nonneg, Int.tmod_eq_emod_of_nonneg]); (repeat with_reducible refine obA ?_)))
            refine callM [0, 1, 2, 5] (wix_s f R c (besideC f c) (by have := List.length_filter_le (inF f) (sidesC c); rw [show (sidesC c).length = 4 from rfl] at this; unfold besideC; omega) hf hc hrk s.r.len (fun n hn => by have h1 := (List.mem_filter.1 hn).2; exact ⟨h1, R_bound hf ha hpa hR h1⟩)) (WkL.refl _) rfl (by decide) (by simp [lookC_c]) ?_
            (iterate 2 ((try simp (etaStruct := .none) only [push_cast, DrawG, Int.cast_ofNat_Int, Nat.reduceAdd, Nat.reduceSub, Nat.reduceMul, reduceCtorEq, reduceIte, Nat.reduceEqDiff, Nat.reduceLT, Nat.reduceLeDiff, Nat.reduceBEq, Int.reduceToNat, Int.reduceLE, Int.reduceLT, hix, getD_in _ _ _ hixl, hixe, celP]); (try simp (disch := omega) only [wrap_in, wk_self, Int.tdiv_eq_ediv_of_nonneg, Int.tmod_eq_emod_of_nonneg]); (repeat with_reducible refine obA ?_)))
            refine ⟨(M, nxtC R f c, out ++ [nxtC R f c]), ⟨g3, g5, by simp only; omega, by simp only; rw [List.append_assoc]; exact hway, by simp only [List.length_append, List.length_singleton]; omega⟩, by simp only; omega, To.mk [0, 1, 2, 3, 4, 7, 9] rfl rfl (by decide) ?_ ?_⟩
            · (iterate 2 ((try simp (etaStruct := .none) only [push_cast, DrawG, Int.cast_ofNat_Int, Nat.reduceAdd, Nat.reduceSub, Nat.reduceMul, reduceCtorEq, reduceIte, Nat.reduceEqDiff, Nat.reduceLT, Nat.reduceLeDiff, Nat.reduceBEq, Int.reduceToNat, Int.reduceLE, Int.reduceLT, List.map_append, celP]); (try simp (disch := omega) only [wrap_in, wk_self, Int.tdiv_eq_ediv_of_nonneg, Int.tmod_eq_emod_of_nonneg]); (repeat with_reducible refine obA ?_)))
            · (iterate 2 ((try simp (etaStruct := .none) only [push_cast, DrawG, Int.cast_ofNat_Int, Nat.reduceAdd, Nat.reduceSub, Nat.reduceMul, reduceCtorEq, reduceIte, Nat.reduceEqDiff, Nat.reduceLT, Nat.reduceLeDiff, Nat.reduceBEq, Int.reduceToNat, Int.reduceLE, Int.reduceLT, hix, getD_in _ _ _ hixl, hixe, celP]); (try simp (disch := omega) only [wrap_in, wk_self, Int.tdiv_eq_ediv_of_nonneg, Int.tmod_eq_emod_of_nonneg]); (repeat with_reducible refine obA ?_)))
          · (try simp only [decide_eq_true_eq, decide_eq_false_iff_not, Bool.not_eq_true', Bool.not_eq_false', Bool.or_eq_true, Bool.and_eq_true, Bool.or_eq_false_iff, Bool.and_eq_false_iff, Int.not_lt, Int.not_le, Bool.not_true, Bool.not_false, not_and, not_or] at h5)
            have hca : c = a := Decidable.byContradiction fun h => cel_ne.2 h h5
            have hout : out = b :: wayL R f a (R.getD (idxN f b) default).toNat b := by
              have e0 : wayL R f a N c = [] := by
                cases N with
                | zero => rfl
                | succ N => rw [wayL, if_pos hca]
              rw [← hway, e0, List.append_nil]
            have hov : out.reverse = wayV R f a b := by unfold wayV; rw [hout]
            (iterate 2 ((try simp (etaStruct := .none) only [push_cast, DrawG, Int.cast_ofNat_Int, Nat.reduceAdd, Nat.reduceSub, Nat.reduceMul, reduceCtorEq, reduceIte, Nat.reduceEqDiff, Nat.reduceLT, Nat.reduceLeDiff, Nat.reduceBEq, Int.reduceToNat, Int.reduceLE, Int.reduceLT, hov]); (try simp (disch := omega) only [wrap_in, wk_self, Int.tdiv_eq_ediv_of_nonneg, Int.tmod_eq_emod_of_nonneg]); (repeat with_reducible refine obA ?_)))
            refine callM [6] (cel_rev out (by omega)) (WkL.refl _) rfl (by decide) (by simp [lookC_c]) ?_
            (iterate 2 ((try simp (etaStruct := .none) only [push_cast, DrawG, Int.cast_ofNat_Int, Nat.reduceAdd, Nat.reduceSub, Nat.reduceMul, reduceCtorEq, reduceIte, Nat.reduceEqDiff, Nat.reduceLT, Nat.reduceLeDiff, Nat.reduceBEq, Int.reduceToNat, Int.reduceLE, Int.reduceLT, hov]); (try simp (disch := omega) only [wrap_in, wk_self, Int.tdiv_eq_ediv_of_nonneg, Int.tmod_eq_emod_of_nonneg]); (repeat with_reducible refine obA ?_)))
            refine callB (wat_s f R b hf hb hbF) (WkL.refl _) rfl ?_
            (iterate 2 ((try simp (etaStruct := .none) only [push_cast, DrawG, Int.cast_ofNat_Int, Nat.reduceAdd, Nat.reduceSub, Nat.reduceMul, reduceCtorEq, reduceIte, Nat.reduceEqDiff, Nat.reduceLT, Nat.reduceLeDiff, Nat.reduceBEq, Int.reduceToNat, Int.reduceLE, Int.reduceLT, hov]); (try simp (disch := omega) only [wrap_in, wk_self, Int.tdiv_eq_ediv_of_nonneg, Int.tmod_eq_emod_of_nonneg]); (repeat with_reducible refine obA ?_)))
            (first | (refine ret0 rfl (by repeat' (first | exact trivial | exact rfl | refine ⟨?_, ?_⟩)) (Wk.of ?_); (try simp (etaStruct := .none) only [push_cast, DrawG, Int.cast_ofNat_Int, Nat.reduceAdd, Nat.reduceSub, Nat.reduceMul, reduceCtorEq, reduceIte, Nat.reduceEqDiff, Nat.reduceLT, Nat.reduceLeDiff, Nat.reduceBEq, Int.reduceToNat, Int.reduceLE, Int.reduceLT]); first | done | (simp [*]; done) | (simp_all []; done)) | (refine ret0 rfl (by repeat' (first | exact trivial | exact rfl | refine ⟨?_, ?_⟩)) ?_; (try simp (etaStruct := .none) only [push_cast, DrawG, Int.cast_ofNat_Int, Nat.reduceAdd, Nat.reduceSub, Nat.reduceMul, reduceCtorEq, reduceIte, Nat.reduceEqDiff, Nat.reduceLT, Nat.reduceLeDiff, Nat.reduceBEq, Int.reduceToNat, Int.reduceLE, Int.reduceLT]); (try simp [*]); (try (first | exact Wk.refl _ | exact Wk.nil _ | (refine Wk.tup ?_; repeat' (first | exact trivial | exact Wk.refl _ | exact Wk.nil _ | refine ⟨?_, ?_⟩ | (refine Wk.agg ?_)))))))
end Go.Proofs.Ytehcnnodkhcgfaa
namespace Go.Proofs.Ytehcnnodkhcgfaa
set_option linter.all false
open Go.RowKit
set_option maxRecDepth 100000
def wayW (f : Fld) (WR : Cel → List Int) (a b : Cel) : List Cel := if wayE (WR a) f a b = 0 then wayV (WR a) f a b else []
theorem wr_ex (f : Fld) : ∃ WR : Cel → List Int, ∀ a, FloodIs f [a] (WR a) := ⟨fun a => Classical.choose (flood_is f [a]), fun a => Classical.choose_spec (flood_is f [a])⟩
def findG (l : List Gop) (i : Int) : Option Gop := l.find? fun g => decide (g.id = i)
def setC (t : Trp) (c : Cel) : Trp := { t with c := c }
def stepT (f : Fld) (WR : Cel → List Int) (l : List Gop) (ts : List Trp) (t : Trp) : Option Cel := match findG l t.id with
  | none => none
  | some g => if (wayW f WR t.c g.to).length < 2 ∨ (ts.any fun o => decide (o.c = (wayW f WR t.c g.to).getD 1 default)) = true then none else some ((wayW f WR t.c g.to).getD 1 default)
def marchS (f : Fld) (WR : Cel → List Int) (l : List Gop) (s : List Trp × List Int) (i : Nat) : List Trp × List Int := match stepT f WR l s.1 (s.1.getD i default) with
  | none => s
  | some c => (s.1.set i (setC (s.1.getD i default) c), s.2 ++ [(s.1.getD i default).id])
def marchK (f : Fld) (WR : Cel → List Int) (l : List Gop) (ts : List Trp) (k : Nat) : List Trp × List Int := (List.range k).foldl (marchS f WR l) (ts, [])
theorem marchK_zero (f : Fld) (WR : Cel → List Int) (l : List Gop) (ts : List Trp) : marchK f WR l ts 0 = (ts, []) := rfl
theorem marchK_succ (f : Fld) (WR : Cel → List Int) (l : List Gop) (ts : List Trp) (k : Nat) : marchK f WR l ts (k + 1) = marchS f WR l (marchK f WR l ts k) k := by
  unfold marchK; rw [List.range_succ, List.foldl_append]; rfl
theorem marchS_len (f : Fld) (WR : Cel → List Int) (l : List Gop) (s : List Trp × List Int) (i : Nat) : (marchS f WR l s i).1.length = s.1.length ∧ (marchS f WR l s i).2.length ≤ s.2.length + 1 := by
  unfold marchS
  split
  · exact ⟨rfl, by omega⟩
  · simp
theorem marchK_len (f : Fld) (WR : Cel → List Int) (l : List Gop) (ts : List Trp) : ∀ k, (marchK f WR l ts k).1.length = ts.length ∧ (marchK f WR l ts k).2.length ≤ k
  | 0 => ⟨rfl, Nat.le_refl _⟩
  | k + 1 => by
    rw [marchK_succ]
    have h1 := marchK_len f WR l ts k
    have h2 := marchS_len f WR l (marchK f WR l ts k) k
    omega
def marchV (f : Fld) (WR : Cel → List Int) (l : List Gop) (ts : List Trp) : List Trp × List Int := marchK f WR l ts ts.length
def cntC (c : Cel) : List Trp → Nat
  | [] => 0
  | t :: r => (if t.c = c then 1 else 0) + cntC c r
theorem cntC_le (c : Cel) : ∀ l, cntC c l ≤ l.length
  | [] => Nat.le_refl _
  | t :: r => by have := cntC_le c r; rw [cntC, List.length_cons]; split <;> omega
theorem cntC_append (c : Cel) (m : List Trp) : ∀ l, cntC c (l ++ m) = cntC c l + cntC c m
  | [] => by simp [cntC]
  | t :: r => by rw [List.cons_append, cntC, cntC, cntC_append c m r]; omega
theorem cntC_set (c : Cel) (t : Trp) : ∀ (l : List Trp) (i : Nat), i < l.length → cntC c (l.set i t) + (if (l.getD i default).c = c then 1 else 0) = cntC c l + (if t.c = c then 1 else 0)
  | [], i, h => by simp at h
  | a :: r, 0, _ => by rw [List.set_cons_zero, cntC, cntC, List.getD_cons_zero]; omega
  | a :: r, i + 1, h => by
    have := cntC_set c t r i (by simpa using h)
    rw [List.set_cons_succ, cntC, cntC, List.getD_cons_succ]; omega
theorem cntC_pos (c : Cel) : ∀ l : List Trp, 0 < cntC c l ↔ (l.any fun o => decide (o.c = c)) = true
  | [] => by simp [cntC]
  | t :: r => by
    rw [cntC, List.any_cons]
    have := cntC_pos c r
    by_cases h : t.c = c
    · simp [h]; omega
    · simp only [h, if_false, decide_false, Bool.false_or, Nat.zero_add]; exact this
def CntM (ts : List Trp) (es : List (List Int × Int)) : Prop := ∀ x y : Int, mget [x, y] es = (cntC ⟨x, y⟩ ts : Int)
theorem CntM.add {ts : List Trp} {es : List (List Int × Int)} (h : CntM ts es) (t : Trp) : CntM (ts ++ [t]) (mput [t.c.x, t.c.y] (mget [t.c.x, t.c.y] es + 1) es) := by
  intro x y
  rw [mget_put_if, cntC_append, cntC, cntC]
  obtain ⟨i, o, kd, ⟨cx, cy⟩, li, lo⟩ := t
  simp only
  by_cases e : x = cx ∧ y = cy
  · obtain ⟨rfl, rfl⟩ := e
    rw [if_pos rfl, if_pos rfl, h]; omega
  · rw [if_neg (by simpa using e), if_neg (fun he => e (by cases he; exact ⟨rfl, rfl⟩)), h]; omega
theorem CntM.move {ts : List Trp} {es : List (List Int × Int)} (h : CntM ts es) {i : Nat} (hi : i < ts.length) (c : Cel) :
    CntM (ts.set i (setC (ts.getD i default) c)) (mput [c.x, c.y] (mget [c.x, c.y] (mput [(ts.getD i default).c.x, (ts.getD i default).c.y] (mget [(ts.getD i default).c.x, (ts.getD i default).c.y] es - 1) es) + 1) (mput [(ts.getD i default).c.x, (ts.getD i default).c.y] (mget [(ts.getD i default).c.x, (ts.getD i default).c.y] es - 1) es)) := by
  intro x y
  have hs := cntC_set ⟨x, y⟩ (setC (ts.getD i default) c) ts i hi
  obtain ⟨cx, cy⟩ := c
  have e2 : (setC (ts.getD i default) ⟨cx, cy⟩).c = ⟨cx, cy⟩ := rfl
  rw [e2] at hs
  rcases ho : (ts.getD i default).c with ⟨ox, oy⟩
  rw [ho] at hs
  simp only at hs ⊢
  have k1 : (([x, y] : List Int) = [cx, cy]) = ((⟨cx, cy⟩ : Cel) = ⟨x, y⟩) := by
    apply propext; constructor <;> intro h <;> cases h <;> rfl
  have k2 : (([x, y] : List Int) = [ox, oy]) = ((⟨ox, oy⟩ : Cel) = ⟨x, y⟩) := by
    apply propext; constructor <;> intro h <;> cases h <;> rfl
  have k3 : (([cx, cy] : List Int) = [ox, oy]) = ((⟨ox, oy⟩ : Cel) = ⟨cx, cy⟩) := by
    apply propext; constructor <;> intro h <;> cases h <;> rfl
  have h' : ∀ x y : Int, mget [x, y] es = (cntC ⟨x, y⟩ ts : Int) := h
  rw [mget_put_if, mget_put_if, mget_put_if]
  simp only [k1, k2, k3, h']
  by_cases a1 : (⟨cx, cy⟩ : Cel) = ⟨x, y⟩
  · have e3 : x = cx ∧ y = cy := by cases a1; exact ⟨rfl, rfl⟩
    obtain ⟨rfl, rfl⟩ := e3
    rw [if_pos rfl] at hs ⊢
    by_cases a2 : (⟨ox, oy⟩ : Cel) = ⟨x, y⟩
    · have e4 : ox = x ∧ oy = y := by cases a2; exact ⟨rfl, rfl⟩
      obtain ⟨rfl, rfl⟩ := e4
      rw [if_pos rfl] at hs ⊢; omega
    · rw [if_neg a2] at hs
      rw [if_neg a2]; omega
  · rw [if_neg a1] at hs ⊢
    by_cases a2 : (⟨ox, oy⟩ : Cel) = ⟨x, y⟩
    · have e4 : ox = x ∧ oy = y := by cases a2; exact ⟨rfl, rfl⟩
      obtain ⟨rfl, rfl⟩ := e4
      rw [if_pos rfl] at hs ⊢; omega
    · rw [if_neg a2] at hs ⊢; omega
def farK (f : Fld) (WR : Cel → List Int) (l : List Gop) : Nat → List Trp → List Trp × Nat
  | 0, ts => (ts, 0)
  | n + 1, ts => if (marchV f WR l ts).2 = [] then (ts, 0) else ((farK f WR l n (marchV f WR l ts).1).1, (farK f WR l n (marchV f WR l ts).1).2 + 1)
theorem marchK_still (f : Fld) (WR : Cel → List Int) (l : List Gop) (ts : List Trp) : ∀ k, (marchK f WR l ts k).2 = [] → (marchK f WR l ts k).1 = ts
  | 0, _ => rfl
  | k + 1, h => by
    rw [marchK_succ] at h ⊢
    unfold marchS at h ⊢
    split at h
    · rename_i e
      exact marchK_still f WR l ts k h
    · simp at h
end Go.Proofs.Ytehcnnodkhcgfaa
namespace Go.Proofs.Ytehcnnodkhcgfaa
set_option linter.all false
open Go.RowKit
set_option maxRecDepth 100000
set_option maxHeartbeats 2000000
abbrev gopA (g : Gop) : AV := .agg [I .i64 g.id, I .i64 g.to.x, I .i64 g.to.y]
def gidP (t : Trp) (g : Gop) : Bool := decide (g.id = t.id)
theorem mgid_s (ts : List Trp) (i : Nat) (hi : i < ts.length) (g : Gop) : Spec Try.prog 216 [gopA g, .ptr 0 0 0] [.blk 303 [.ptr 1 i 0], .row 103 7 (ts.map trpP)] (B (gidP (ts.getD i default) g)) [.blk 303 [.ptr 1 i 0], .row 103 7 (ts.map trpP)] := by
  refine spec_am Try.func216 rfl rfl mix 11 rfl [.tmp 3] Try.results216 (Nat.le_of_ble_eq_true rfl) ?_
  (iterate 2 ((try simp (etaStruct := .none) only [push_cast, DrawG, Int.cast_ofNat_Int, Nat.reduceAdd, Nat.reduceSub, Nat.reduceMul, reduceCtorEq, reduceIte, Nat.reduceEqDiff, Nat.reduceLT, Nat.reduceLeDiff, Nat.reduceBEq, Int.reduceToNat, Int.reduceLE, Int.reduceLT, getD_in _ _ _ hi, trpP]); (try simp (disch := omega) only [wrap_in, wk_self, Int.tdiv_eq_ediv_of_nonneg, Int.tmod_eq_emod_of_nonneg]); (repeat with_reducible refine obA ?_)))
  (try (refine ⟨by kernel_rfl, ?_⟩))
  (iterate 2 ((try simp (etaStruct := .none) only [push_cast, DrawG, Int.cast_ofNat_Int, Nat.reduceAdd, Nat.reduceSub, Nat.reduceMul, reduceCtorEq, reduceIte, Nat.reduceEqDiff, Nat.reduceLT, Nat.reduceLeDiff, Nat.reduceBEq, Int.reduceToNat, Int.reduceLE, Int.reduceLT, getD_in _ _ _ hi, trpP]); (try simp (disch := omega) only [wrap_in, wk_self, Int.tdiv_eq_ediv_of_nonneg, Int.tmod_eq_emod_of_nonneg]); (repeat with_reducible refine obA ?_)))
  refine retM [0, 1] rfl rfl (by decide) ⟨?_, ?_, trivial⟩ trivial ?_ <;> simp (etaStruct := .none) only [push_cast, DrawG, Int.cast_ofNat_Int, Nat.reduceAdd, Nat.reduceSub, Nat.reduceMul, reduceCtorEq, reduceIte, Nat.reduceEqDiff, Nat.reduceLT, Nat.reduceLeDiff, Nat.reduceBEq, Int.reduceToNat, Int.reduceLE, Int.reduceLT, gidP]
theorem gid_ix (ts : List Trp) (i : Nat) (hi : i < ts.length)(l : List Gop) (hl : l.length ≤ 1000000) : Spec Try.prog 215 [.c (.sl 3 (l.map gopP)), .clo (.func 216) [] [.ptr 0 0 0]] ([.blk 303 [.ptr 1 i 0], .row 103 7 (ts.map trpP)]) (I .i64 (ixOf (gidP (ts.getD i default)) l)) ([.blk 303 [.ptr 1 i 0], .row 103 7 (ts.map trpP)]) := by
  refine spec_am Try.func215 rfl rfl mix 19 rfl [.tmp 4] Try.results215 (Nat.le_of_ble_eq_true rfl) ?_
  (try simp (etaStruct := .none) only [push_cast, DrawG, Int.cast_ofNat_Int, Nat.reduceAdd, Nat.reduceSub, Nat.reduceMul, reduceCtorEq, reduceIte, Nat.reduceEqDiff, Nat.reduceLT, Nat.reduceLeDiff, Nat.reduceBEq, Int.reduceToNat, Int.reduceLE, Int.reduceLT]); (try simp (disch := omega) only [wrap_in, wk_self, Int.tdiv_eq_ediv_of_nonneg, Int.tmod_eq_emod_of_nonneg]); (repeat with_reducible refine obA ?_)
  refine loopI (fun k : Nat => ⟨[(8, I .i64 k), (7, I .i64 l.length), (1, .clo (.func 216) [] [.ptr 0 0 0]), (0, .c (.sl 3 (l.map gopP)))], [(0, .blk 303 [.ptr 1 i 0]), (1, .row 103 7 (ts.map trpP))], 2⟩) (fun k : Nat => k ≤ l.length ∧ ∀ j (hj : j < l.length), j < k → (gidP (ts.getD i default)) l[j] = false) (fun k : Nat => l.length - k) (0) (⟨Nat.zero_le _, fun j _ h => absurd h (Nat.not_lt_zero _)⟩) (To.mk [0, 1] rfl rfl (by decide) ?_ ?_) ?_
  · simp (etaStruct := .none) only [push_cast, DrawG, Int.cast_ofNat_Int, Nat.reduceAdd, Nat.reduceSub, Nat.reduceMul, reduceCtorEq, reduceIte, Nat.reduceEqDiff, Nat.reduceLT, Nat.reduceLeDiff, Nat.reduceBEq, Int.reduceToNat, Int.reduceLE, Int.reduceLT]
  · simp (etaStruct := .none) only [push_cast, DrawG, Int.cast_ofNat_Int, Nat.reduceAdd, Nat.reduceSub, Nat.reduceMul, reduceCtorEq, reduceIte, Nat.reduceEqDiff, Nat.reduceLT, Nat.reduceLeDiff, Nat.reduceBEq, Int.reduceToNat, Int.reduceLE, Int.reduceLT]
  rintro k ⟨hk, hno⟩
  (try simp (etaStruct := .none) only [push_cast, DrawG, Int.cast_ofNat_Int, Nat.reduceAdd, Nat.reduceSub, Nat.reduceMul, reduceCtorEq, reduceIte, Nat.reduceEqDiff, Nat.reduceLT, Nat.reduceLeDiff, Nat.reduceBEq, Int.reduceToNat, Int.reduceLE, Int.reduceLT]); (try simp (disch := omega) only [wrap_in, wk_self, Int.tdiv_eq_ediv_of_nonneg, Int.tmod_eq_emod_of_nonneg]); (repeat with_reducible refine obA ?_)
  refine cond_i (fun h1 => ?_) (fun h1 => ?_)
  · (try simp only [decide_eq_true_eq, decide_eq_false_iff_not, Bool.not_eq_true', Bool.not_eq_false', Bool.or_eq_true, Bool.and_eq_true, Bool.or_eq_false_iff, Bool.and_eq_false_iff, Int.not_lt, Int.not_le, Bool.not_true, Bool.not_false, not_and, not_or] at h1)
    have hlt : k < l.length := by omega
    (iterate 2 ((try simp (etaStruct := .none) only [push_cast, DrawG, Int.cast_ofNat_Int, Nat.reduceAdd, Nat.reduceSub, Nat.reduceMul, reduceCtorEq, reduceIte, Nat.reduceEqDiff, Nat.reduceLT, Nat.reduceLeDiff, Nat.reduceBEq, Int.reduceToNat, Int.reduceLE, Int.reduceLT, getD_in _ _ _ hlt, gopP]); (try simp (disch := omega) only [wrap_in, wk_self, Int.tdiv_eq_ediv_of_nonneg, Int.tmod_eq_emod_of_nonneg]); (repeat with_reducible refine obA ?_)))
    refine callM [0, 1] (mgid_s ts i hi (l.getD k default)) (WkL.refl _) rfl (by decide) (by simp [lookC_c]) ?_
    (iterate 2 ((try simp (etaStruct := .none) only [push_cast, DrawG, Int.cast_ofNat_Int, Nat.reduceAdd, Nat.reduceSub, Nat.reduceMul, reduceCtorEq, reduceIte, Nat.reduceEqDiff, Nat.reduceLT, Nat.reduceLeDiff, Nat.reduceBEq, Int.reduceToNat, Int.reduceLE, Int.reduceLT, getD_in _ _ _ hlt, gopP]); (try simp (disch := omega) only [wrap_in, wk_self, Int.tdiv_eq_ediv_of_nonneg, Int.tmod_eq_emod_of_nonneg]); (repeat with_reducible refine obA ?_)))
    refine cond_i (fun h2 => ?_) (fun h2 => ?_)
    · (try simp only [decide_eq_true_eq, decide_eq_false_iff_not, Bool.not_eq_true', Bool.not_eq_false', Bool.or_eq_true, Bool.and_eq_true, Bool.or_eq_false_iff, Bool.and_eq_false_iff, Int.not_lt, Int.not_le, Bool.not_true, Bool.not_false, not_and, not_or] at h2)
      have e := ixOf_hit (gidP (ts.getD i default)) l k hlt (by rw [← getD_at l k hlt]; exact h2) hno
      rw [e]
      (iterate 2 ((try simp (etaStruct := .none) only [push_cast, DrawG, Int.cast_ofNat_Int, Nat.reduceAdd, Nat.reduceSub, Nat.reduceMul, reduceCtorEq, reduceIte, Nat.reduceEqDiff, Nat.reduceLT, Nat.reduceLeDiff, Nat.reduceBEq, Int.reduceToNat, Int.reduceLE, Int.reduceLT, getD_in _ _ _ hlt, gopP]); (try simp (disch := omega) only [wrap_in, wk_self, Int.tdiv_eq_ediv_of_nonneg, Int.tmod_eq_emod_of_nonneg]); (repeat with_reducible refine obA ?_)))
      refine retM [0, 1] rfl rfl (by decide) ⟨?_, ?_, trivial⟩ trivial ?_ <;> simp (etaStruct := .none) only [push_cast, DrawG, Int.cast_ofNat_Int, Nat.reduceAdd, Nat.reduceSub, Nat.reduceMul, reduceCtorEq, reduceIte, Nat.reduceEqDiff, Nat.reduceLT, Nat.reduceLeDiff, Nat.reduceBEq, Int.reduceToNat, Int.reduceLE, Int.reduceLT]
    · (try simp only [decide_eq_true_eq, decide_eq_false_iff_not, Bool.not_eq_true', Bool.not_eq_false', Bool.or_eq_true, Bool.and_eq_true, Bool.or_eq_false_iff, Bool.and_eq_false_iff, Int.not_lt, Int.not_le, Bool.not_true, Bool.not_false, not_and, not_or] at h2)
      have hno2 : ∀ j (hj : j < l.length), j < k + 1 → (gidP (ts.getD i default)) l[j] = false := fun j hj h => by
        rcases Nat.lt_or_ge j k with h3 | h3
        · exact hno j hj h3
        · obtain rfl : j = k := by omega
          rw [← getD_at l j hj]; exact h2
      (iterate 2 ((try simp (etaStruct := .none) only [push_cast, DrawG, Int.cast_ofNat_Int, Nat.reduceAdd, Nat.reduceSub, Nat.reduceMul, reduceCtorEq, reduceIte, Nat.reduceEqDiff, Nat.reduceLT, Nat.reduceLeDiff, Nat.reduceBEq, Int.reduceToNat, Int.reduceLE, Int.reduceLT, getD_in _ _ _ hlt, gopP]); (try simp (disch := omega) only [wrap_in, wk_self, Int.tdiv_eq_ediv_of_nonneg, Int.tmod_eq_emod_of_nonneg]); (repeat with_reducible refine obA ?_)))
      refine ⟨k + 1, ⟨by omega, hno2⟩, by omega, To.mk [0, 1] rfl rfl (by decide) ?_ ?_⟩
      · (iterate 2 ((try simp (etaStruct := .none) only [push_cast, DrawG, Int.cast_ofNat_Int, Nat.reduceAdd, Nat.reduceSub, Nat.reduceMul, reduceCtorEq, reduceIte, Nat.reduceEqDiff, Nat.reduceLT, Nat.reduceLeDiff, Nat.reduceBEq, Int.reduceToNat, Int.reduceLE, Int.reduceLT, getD_in _ _ _ hlt, gopP]); (try simp (disch := omega) only [wrap_in, wk_self, Int.tdiv_eq_ediv_of_nonneg, Int.tmod_eq_emod_of_nonneg]); (repeat with_reducible refine obA ?_)))
      · (iterate 2 ((try simp (etaStruct := .none) only [push_cast, DrawG, Int.cast_ofNat_Int, Nat.reduceAdd, Nat.reduceSub, Nat.reduceMul, reduceCtorEq, reduceIte, Nat.reduceEqDiff, Nat.reduceLT, Nat.reduceLeDiff, Nat.reduceBEq, Int.reduceToNat, Int.reduceLE, Int.reduceLT, getD_in _ _ _ hlt, gopP]); (try simp (disch := omega) only [wrap_in, wk_self, Int.tdiv_eq_ediv_of_nonneg, Int.tmod_eq_emod_of_nonneg]); (repeat with_reducible refine obA ?_)))
  · (try simp only [decide_eq_true_eq, decide_eq_false_iff_not, Bool.not_eq_true', Bool.not_eq_false', Bool.or_eq_true, Bool.and_eq_true, Bool.or_eq_false_iff, Bool.and_eq_false_iff, Int.not_lt, Int.not_le, Bool.not_true, Bool.not_false, not_and, not_or] at h1)
    have e := ixOf_miss (gidP (ts.getD i default)) l (fun j hj => hno j hj (by omega))
    rw [e]
    (try simp (etaStruct := .none) only [push_cast, DrawG, Int.cast_ofNat_Int, Nat.reduceAdd, Nat.reduceSub, Nat.reduceMul, reduceCtorEq, reduceIte, Nat.reduceEqDiff, Nat.reduceLT, Nat.reduceLeDiff, Nat.reduceBEq, Int.reduceToNat, Int.reduceLE, Int.reduceLT]); (try simp (disch := omega) only [wrap_in, wk_self, Int.tdiv_eq_ediv_of_nonneg, Int.tmod_eq_emod_of_nonneg]); (repeat with_reducible refine obA ?_)
    refine retM [0, 1] rfl rfl (by decide) ⟨?_, ?_, trivial⟩ trivial ?_ <;> simp (etaStruct := .none) only [push_cast, DrawG, Int.cast_ofNat_Int, Nat.reduceAdd, Nat.reduceSub, Nat.reduceMul, reduceCtorEq, reduceIte, Nat.reduceEqDiff, Nat.reduceLT, Nat.reduceLeDiff, Nat.reduceBEq, Int.reduceToNat, Int.reduceLE, Int.reduceLT]
theorem findG_ix {l : List Gop} {t : Trp} : (findG l t.id = none ∧ ixOf (gidP t) l = -1) ∨ ∃ (g : Gop) (j : Nat), findG l t.id = some g ∧ ixOf (gidP t) l = (j : Int) ∧ j < l.length ∧ l.getD j default = g := by
  cases h : findG l t.id with
  | none =>
    refine .inl ⟨rfl, ?_⟩
    unfold findG at h
    refine ixOf_miss _ l fun j hj => ?_
    have := List.find?_eq_none.1 h _ (List.getElem_mem hj)
    unfold gidP; simpa using this
  | some g =>
    unfold findG at h
    obtain ⟨j, h1, h2, h3⟩ := ix_find (p := gidP t) (l := l) (x := g) h
    exact .inr ⟨g, j, rfl, h1, h2, h3⟩
theorem marchS_none {f : Fld} {WR : Cel → List Int} {l : List Gop} {s : List Trp × List Int} {i : Nat} (h : stepT f WR l s.1 (s.1.getD i default) = none) : marchS f WR l s i = s := by unfold marchS; rw [h]
theorem marchS_some {f : Fld} {WR : Cel → List Int} {l : List Gop} {s : List Trp × List Int} {i : Nat} {c : Cel} (h : stepT f WR l s.1 (s.1.getD i default) = some c) : marchS f WR l s i = (s.1.set i (setC (s.1.getD i default) c), s.2 ++ [(s.1.getD i default).id]) := by unfold marchS; rw [h]
theorem stepT_some {f : Fld} {WR : Cel → List Int} {l : List Gop} {ts : List Trp} {t : Trp} {g : Gop} (h : findG l t.id = some g) : stepT f WR l ts t = if (wayW f WR t.c g.to).length < 2 ∨ (ts.any fun o => decide (o.c = (wayW f WR t.c g.to).getD 1 default)) = true then none else some ((wayW f WR t.c g.to).getD 1 default) := by unfold stepT; rw [h]
theorem mstep_s (w : Wld) (l : List Gop) (WR : Cel → List Int) (hWR : ∀ a, FloodIs w.f [a] (WR a)) (hl : w.f.p.length ≤ 9223372036854775807) (hll : l.length ≤ 1000) (hnt : w.troops.length ≤ 100) : Spec Try.prog 155 [.agg [I .i64 w.f.w, I .i64 w.f.h, .c (.sl 1 (w.f.p.map i64P)), .c (.sl 2 (w.bases.map celP)), .c (.sl 1 (w.stocks.map i64P)), .c (.sl 1 (w.mines.map i64P)), .own 0, I .i64 w.next, I .i64 w.now], .c (.sl 3 (l.map gopP))] [.row 103 7 (w.troops.map trpP)]
    (.c (.sl 1 ((marchV w.f WR l w.troops).2.map i64P))) [.row 103 7 ((marchV w.f WR l w.troops).1.map trpP)] := by
  refine spec_am Try.func155 rfl rfl mix 110 rfl [.tmp 4] Try.results155 (Nat.le_of_ble_eq_true rfl) ?_
  (iterate 2 ((try simp (etaStruct := .none) only [push_cast, Int.cast_ofNat_Int, Nat.reduceAdd, Nat.reduceSub, Nat.reduceMul, reduceCtorEq, reduceIte, Nat.reduceEqDiff, Nat.reduceLT, Nat.reduceLeDiff, Nat.reduceBEq, Int.reduceToNat, Int.reduceLE, Int.reduceLT, mput_def]); (try simp (disch := omega) only [wrap_in, wk_self, Int.tdiv_eq_ediv_of_nonneg, Int.tmod_eq_emod_of_nonneg]); (repeat with_reducible refine obA ?_)))
  refine loopI (fun x : Nat × List (List Int × Int) => ⟨[(19, I .i64 x.1), (18, I .i64 w.troops.length), (17, .own 0), (5, .map 2), (2, .ptr 1 0 0), (1, .c (.sl 3 (l.map gopP)))], [(0, .row 103 7 (w.troops.map trpP)), (1, .blk 91 [I .i64 w.f.w, I .i64 w.f.h, .c (.sl 1 (w.f.p.map i64P)), .c (.sl 2 (w.bases.map celP)), .c (.sl 1 (w.stocks.map i64P)), .c (.sl 1 (w.mines.map i64P)), .own 0, I .i64 w.next, I .i64 w.now]), (2, .mp true 2 x.2)], 3⟩) (fun x : Nat × List (List Int × Int) => x.1 ≤ w.troops.length ∧ CntM (w.troops.take x.1) x.2) (fun x : Nat × List (List Int × Int) => w.troops.length - x.1) ((0, [])) (⟨Nat.zero_le _, fun _ _ => rfl⟩) (To.mk [0, 1, 2] rfl rfl (by decide) ?_ ?_) ?_
  · simp (etaStruct := .none) only [push_cast, DrawG, Int.cast_ofNat_Int, Nat.reduceAdd, Nat.reduceSub, Nat.reduceMul, reduceCtorEq, reduceIte, Nat.reduceEqDiff, Nat.reduceLT, Nat.reduceLeDiff, Nat.reduceBEq, Int.reduceToNat, Int.reduceLE, Int.reduceLT]
  · simp (etaStruct := .none) only [push_cast, DrawG, Int.cast_ofNat_Int, Nat.reduceAdd, Nat.reduceSub, Nat.reduceMul, reduceCtorEq, reduceIte, Nat.reduceEqDiff, Nat.reduceLT, Nat.reduceLeDiff, Nat.reduceBEq, Int.reduceToNat, Int.reduceLE, Int.reduceLT]
  rintro ⟨k, es⟩ ⟨hk, hc⟩
  simp only at hk hc
  (iterate 2 ((try simp (etaStruct := .none) only [push_cast, Int.cast_ofNat_Int, Nat.reduceAdd, Nat.reduceSub, Nat.reduceMul, reduceCtorEq, reduceIte, Nat.reduceEqDiff, Nat.reduceLT, Nat.reduceLeDiff, Nat.reduceBEq, Int.reduceToNat, Int.reduceLE, Int.reduceLT, mput_def]); (try simp (disch := omega) only [wrap_in, wk_self, Int.tdiv_eq_ediv_of_nonneg, Int.tmod_eq_emod_of_nonneg]); (repeat with_reducible refine obA ?_)))
  refine cond_i (fun h1 => ?_) (fun h1 => ?_)
  · (try simp only [decide_eq_true_eq, decide_eq_false_iff_not, Bool.not_eq_true', Bool.not_eq_false', Bool.or_eq_true, Bool.and_eq_true, Bool.or_eq_false_iff, Bool.and_eq_false_iff, Int.not_lt, Int.not_le, Bool.not_true, Bool.not_false, not_and, not_or] at h1)
    have hlt : k < w.troops.length := by omega
    have hca := hc.add (w.troops.getD k default)
    rw [← take_snoc _ _ hlt] at hca
    have hcb := hc (w.troops.getD k default).c.x (w.troops.getD k default).c.y
    have hcl := cntC_le ⟨(w.troops.getD k default).c.x, (w.troops.getD k default).c.y⟩ (w.troops.take k)
    rw [List.length_take] at hcl
    have hmp := mpos_lt [(w.troops.getD k default).c.x, (w.troops.getD k default).c.y] es
    (iterate 2 ((try simp (etaStruct := .none) only [push_cast, Int.cast_ofNat_Int, Nat.reduceAdd, Nat.reduceSub, Nat.reduceMul, reduceCtorEq, reduceIte, Nat.reduceEqDiff, Nat.reduceLT, Nat.reduceLeDiff, Nat.reduceBEq, Int.reduceToNat, Int.reduceLE, Int.reduceLT, mput_def, getD_in _ _ _ hlt, trpP]); (try simp (disch := omega) only [wrap_in, wk_self, Int.tdiv_eq_ediv_of_nonneg, Int.tmod_eq_emod_of_nonneg]); (repeat with_reducible refine obA ?_)))
    refine drawG_w [some 23, some 24, some 25, some 26, some 27, some 28, some 29, none] rfl ?_
    intro Oq lq Rq hlq hdq hRq
    subst hlq
    iterate 8 (refine peelD fun rq hrq => ?_; (iterate 2 ((try simp (etaStruct := .none) only [push_cast, Int.cast_ofNat_Int, Nat.reduceAdd, Nat.reduceSub, Nat.reduceMul, reduceCtorEq, reduceIte, Nat.reduceEqDiff, Nat.reduceLT, Nat.reduceLeDiff, Nat.reduceBEq, Int.reduceToNat, Int.reduceLE, Int.reduceLT, hdq, id, mput_def, getD_in _ _ _ hlt, trpP]); (try simp (disch := omega) only [wrap_in, wk_self, Int.tdiv_eq_ediv_of_nonneg, Int.tmod_eq_emod_of_nonneg]); (repeat with_reducible refine obA ?_))); subst hrq)
    refine endD ?_
    subst hRq
    clear hdq Oq
    refine endE (by kernel_rfl) ?_
    (iterate 2 ((try simp (etaStruct := .none) only [push_cast, Int.cast_ofNat_Int, Nat.reduceAdd, Nat.reduceSub, Nat.reduceMul, reduceCtorEq, reduceIte, Nat.reduceEqDiff, Nat.reduceLT, Nat.reduceLeDiff, Nat.reduceBEq, Int.reduceToNat, Int.reduceLE, Int.reduceLT, mput_def, getD_in _ _ _ hlt, trpP]); (try simp (disch := omega) only [wrap_in, wk_self, Int.tdiv_eq_ediv_of_nonneg, Int.tmod_eq_emod_of_nonneg]); (repeat with_reducible refine obA ?_)))
    refine ⟨(k + 1, mput [(w.troops.getD k default).c.x, (w.troops.getD k default).c.y] (mget [(w.troops.getD k default).c.x, (w.troops.getD k default).c.y] es + 1) es), ⟨by simp only; omega, hca⟩, by simp only; omega, To.mk [0, 1, 2] rfl rfl (by decide) ?_ ?_⟩
    · (iterate 2 ((try simp (etaStruct := .none) only [push_cast, Int.cast_ofNat_Int, Nat.reduceAdd, Nat.reduceSub, Nat.reduceMul, reduceCtorEq, reduceIte, Nat.reduceEqDiff, Nat.reduceLT, Nat.reduceLeDiff, Nat.reduceBEq, Int.reduceToNat, Int.reduceLE, Int.reduceLT, mput_def, getD_in _ _ _ hlt, trpP]); (try simp (disch := omega) only [wrap_in, wk_self, Int.tdiv_eq_ediv_of_nonneg, Int.tmod_eq_emod_of_nonneg]); (repeat with_reducible refine obA ?_)))
    · (iterate 2 ((try simp (etaStruct := .none) only [push_cast, Int.cast_ofNat_Int, Nat.reduceAdd, Nat.reduceSub, Nat.reduceMul, reduceCtorEq, reduceIte, Nat.reduceEqDiff, Nat.reduceLT, Nat.reduceLeDiff, Nat.reduceBEq, Int.reduceToNat, Int.reduceLE, Int.reduceLT, mput_def, getD_in _ _ _ hlt, trpP]); (try simp (disch := omega) only [wrap_in, wk_self, Int.tdiv_eq_ediv_of_nonneg, Int.tmod_eq_emod_of_nonneg]); (repeat with_reducible refine obA ?_)))
  · (try simp only [decide_eq_true_eq, decide_eq_false_iff_not, Bool.not_eq_true', Bool.not_eq_false', Bool.or_eq_true, Bool.and_eq_true, Bool.or_eq_false_iff, Bool.and_eq_false_iff, Int.not_lt, Int.not_le, Bool.not_true, Bool.not_false, not_and, not_or] at h1)
    obtain rfl : k = w.troops.length := by omega
    rw [List.take_length] at hc
    (iterate 2 ((try simp (etaStruct := .none) only [push_cast, Int.cast_ofNat_Int, Nat.reduceAdd, Nat.reduceSub, Nat.reduceMul, reduceCtorEq, reduceIte, Nat.reduceEqDiff, Nat.reduceLT, Nat.reduceLeDiff, Nat.reduceBEq, Int.reduceToNat, Int.reduceLE, Int.reduceLT, mput_def]); (try simp (disch := omega) only [wrap_in, wk_self, Int.tdiv_eq_ediv_of_nonneg, Int.tmod_eq_emod_of_nonneg]); (repeat with_reducible refine obA ?_)))
    refine loopI (fun x : Nat × List (List Int × Int) => ⟨[(34, I .i64 x.1), (33, I .i64 w.troops.length), (8, .own 3), (5, .map 2), (2, .ptr 1 0 0), (1, .c (.sl 3 (l.map gopP)))], [(0, .row 103 7 ((marchK w.f WR l w.troops x.1).1.map trpP)), (1, .blk 91 [I .i64 w.f.w, I .i64 w.f.h, .c (.sl 1 (w.f.p.map i64P)), .c (.sl 2 (w.bases.map celP)), .c (.sl 1 (w.stocks.map i64P)), .c (.sl 1 (w.mines.map i64P)), .own 0, I .i64 w.next, I .i64 w.now]), (2, .mp true 2 x.2), (3, .row 3 1 ((marchK w.f WR l w.troops x.1).2.map i64P))], 4⟩) (fun x : Nat × List (List Int × Int) => x.1 ≤ w.troops.length ∧ CntM (marchK w.f WR l w.troops x.1).1 x.2) (fun x : Nat × List (List Int × Int) => w.troops.length - x.1) ((0, es)) (⟨Nat.zero_le _, hc⟩) ((To.nil 8 3 1 rfl).trans (To.mk [0, 1, 2, 3] rfl rfl (by decide) ?_ ?_)) ?_
    · simp (etaStruct := .none) only [push_cast, DrawG, Int.cast_ofNat_Int, Nat.reduceAdd, Nat.reduceSub, Nat.reduceMul, reduceCtorEq, reduceIte, Nat.reduceEqDiff, Nat.reduceLT, Nat.reduceLeDiff, Nat.reduceBEq, Int.reduceToNat, Int.reduceLE, Int.reduceLT, marchK_zero, List.map_nil]
    · simp (etaStruct := .none) only [push_cast, DrawG, Int.cast_ofNat_Int, Nat.reduceAdd, Nat.reduceSub, Nat.reduceMul, reduceCtorEq, reduceIte, Nat.reduceEqDiff, Nat.reduceLT, Nat.reduceLeDiff, Nat.reduceBEq, Int.reduceToNat, Int.reduceLE, Int.reduceLT]
    rintro ⟨k, em⟩ ⟨hk, hm⟩
    simp only at hk hm
    have hln := marchK_len w.f WR l w.troops k
    have hsk := marchK_succ w.f WR l w.troops k
    obtain ⟨S, hS⟩ : ∃ S, S = marchK w.f WR l w.troops k := ⟨_, rfl⟩
    rw [← hS] at hm hln hsk
    (iterate 2 ((try simp (etaStruct := .none) only [push_cast, Int.cast_ofNat_Int, Nat.reduceAdd, Nat.reduceSub, Nat.reduceMul, reduceCtorEq, reduceIte, Nat.reduceEqDiff, Nat.reduceLT, Nat.reduceLeDiff, Nat.reduceBEq, Int.reduceToNat, Int.reduceLE, Int.reduceLT, mput_def, ← hS, hln.1]); (try simp (disch := omega) only [wrap_in, wk_self, Int.tdiv_eq_ediv_of_nonneg, Int.tmod_eq_emod_of_nonneg]); (repeat with_reducible refine obA ?_)))
    refine cond_i (fun h2 => ?_) (fun h2 => ?_)
    · (try simp only [decide_eq_true_eq, decide_eq_false_iff_not, Bool.not_eq_true', Bool.not_eq_false', Bool.or_eq_true, Bool.and_eq_true, Bool.or_eq_false_iff, Bool.and_eq_false_iff, Int.not_lt, Int.not_le, Bool.not_true, Bool.not_false, not_and, not_or] at h2)
      have hlt : k < S.1.length := by omega
      (iterate 2 ((try simp (etaStruct := .none) only [push_cast, Int.cast_ofNat_Int, Nat.reduceAdd, Nat.reduceSub, Nat.reduceMul, reduceCtorEq, reduceIte, Nat.reduceEqDiff, Nat.reduceLT, Nat.reduceLeDiff, Nat.reduceBEq, Int.reduceToNat, Int.reduceLE, Int.reduceLT, mput_def, ← hS, hln.1, getD_in _ _ _ hlt, trpP]); (try simp (disch := omega) only [wrap_in, wk_self, Int.tdiv_eq_ediv_of_nonneg, Int.tmod_eq_emod_of_nonneg]); (repeat with_reducible refine obA ?_)))
      refine callM [4, 0] (gid_ix S.1 k hlt l (by omega)) (WkL.refl _) rfl (by decide) (by simp [lookC_c]) ?_
      (iterate 2 ((try simp (etaStruct := .none) only [push_cast, Int.cast_ofNat_Int, Nat.reduceAdd, Nat.reduceSub, Nat.reduceMul, reduceCtorEq, reduceIte, Nat.reduceEqDiff, Nat.reduceLT, Nat.reduceLeDiff, Nat.reduceBEq, Int.reduceToNat, Int.reduceLE, Int.reduceLT, mput_def, ← hS, hln.1, getD_in _ _ _ hlt, trpP]); (try simp (disch := omega) only [wrap_in, wk_self, Int.tdiv_eq_ediv_of_nonneg, Int.tmod_eq_emod_of_nonneg]); (repeat with_reducible refine obA ?_)))
      refine cond_i (fun h3 => ?_) (fun h3 => ?_)
      · (try simp only [decide_eq_true_eq, decide_eq_false_iff_not, Bool.not_eq_true', Bool.not_eq_false', Bool.or_eq_true, Bool.and_eq_true, Bool.or_eq_false_iff, Bool.and_eq_false_iff, Int.not_lt, Int.not_le, Bool.not_true, Bool.not_false, not_and, not_or] at h3)
        have hnone : findG l (S.1.getD k default).id = none := by
          rcases findG_ix (l := l) (t := S.1.getD k default) with ⟨h, _⟩ | ⟨_, j, _, h, _⟩
          · exact h
          · rw [h] at h3; omega
        have hms : marchS w.f WR l S k = S := marchS_none (by unfold stepT; rw [hnone])
        (iterate 2 ((try simp (etaStruct := .none) only [push_cast, Int.cast_ofNat_Int, Nat.reduceAdd, Nat.reduceSub, Nat.reduceMul, reduceCtorEq, reduceIte, Nat.reduceEqDiff, Nat.reduceLT, Nat.reduceLeDiff, Nat.reduceBEq, Int.reduceToNat, Int.reduceLE, Int.reduceLT, mput_def, ← hS, hln.1, getD_in _ _ _ hlt, trpP]); (try simp (disch := omega) only [wrap_in, wk_self, Int.tdiv_eq_ediv_of_nonneg, Int.tmod_eq_emod_of_nonneg]); (repeat with_reducible refine obA ?_)))
        refine ⟨(k + 1, em), ⟨by simp only; omega, by simp only; rw [hsk, hms]; exact hm⟩, by simp only; omega, To.mk [0, 1, 2, 3] rfl rfl (by decide) ?_ ?_⟩
        · (iterate 2 ((try simp (etaStruct := .none) only [push_cast, DrawG, Int.cast_ofNat_Int, Nat.reduceAdd, Nat.reduceSub, Nat.reduceMul, reduceCtorEq, reduceIte, Nat.reduceEqDiff, Nat.reduceLT, Nat.reduceLeDiff, Nat.reduceBEq, Int.reduceToNat, Int.reduceLE, Int.reduceLT, hsk, hms]); (try simp (disch := omega) only [wrap_in, wk_self, Int.tdiv_eq_ediv_of_nonneg, Int.tmod_eq_emod_of_nonneg]); (repeat with_reducible refine obA ?_)))
        · (iterate 2 ((try simp (etaStruct := .none) only [push_cast, Int.cast_ofNat_Int, Nat.reduceAdd, Nat.reduceSub, Nat.reduceMul, reduceCtorEq, reduceIte, Nat.reduceEqDiff, Nat.reduceLT, Nat.reduceLeDiff, Nat.reduceBEq, Int.reduceToNat, Int.reduceLE, Int.reduceLT, mput_def, ← hS, hln.1, getD_in _ _ _ hlt, trpP]); (try simp (disch := omega) only [wrap_in, wk_self, Int.tdiv_eq_ediv_of_nonneg, Int.tmod_eq_emod_of_nonneg]); (repeat with_reducible refine obA ?_)))
      · (try simp only [decide_eq_true_eq, decide_eq_false_iff_not, Bool.not_eq_true', Bool.not_eq_false', Bool.or_eq_true, Bool.and_eq_true, Bool.or_eq_false_iff, Bool.and_eq_false_iff, Int.not_lt, Int.not_le, Bool.not_true, Bool.not_false, not_and, not_or] at h3)
        obtain ⟨g, j, hg, hj, hjl, hge⟩ : ∃ (g : Gop) (j : Nat), findG l (S.1.getD k default).id = some g ∧ ixOf (gidP (S.1.getD k default)) l = (j : Int) ∧ j < l.length ∧ l.getD j default = g := by
          rcases findG_ix (l := l) (t := S.1.getD k default) with ⟨_, h⟩ | h
          · rw [h] at h3; omega
          · exact h
        obtain ⟨wl, hwl⟩ : ∃ wl, wl = wayW w.f WR (S.1.getD k default).c g.to := ⟨_, rfl⟩
        have hwy : (if wayE (WR (S.1.getD k default).c) w.f (S.1.getD k default).c g.to = 0 then wayV (WR (S.1.getD k default).c) w.f (S.1.getD k default).c g.to else []) = wl := hwl.symm
        have hst := stepT_some (f := w.f) (WR := WR) (ts := S.1) hg
        rw [← hwl] at hst
        rcases Nat.lt_or_ge wl.length 2 with hA | hB
        · have hms : marchS w.f WR l S k = S := marchS_none (by rw [hst, if_pos (.inl hA)])
          have hAg : (wl.map celP).getD 1 [] = [] := by rw [List.getD_eq_getElem?_getD, List.getElem?_eq_none (by rw [List.length_map]; omega)]; rfl
          have hAl : ((wl.length : Int) < 2) = True := eq_true (by omega)
          (iterate 2 ((try simp (etaStruct := .none) only [push_cast, Int.cast_ofNat_Int, Nat.reduceAdd, Nat.reduceSub, Nat.reduceMul, reduceCtorEq, reduceIte, Nat.reduceEqDiff, Nat.reduceLT, Nat.reduceLeDiff, Nat.reduceBEq, Int.reduceToNat, Int.reduceLE, Int.reduceLT, mput_def, ← hS, hln.1, getD_in _ _ _ hlt, trpP, hj, getD_in _ _ _ hjl, hge, gopP]); (try simp (disch := omega) only [wrap_in, wk_self, Int.tdiv_eq_ediv_of_nonneg, Int.tmod_eq_emod_of_nonneg]); (repeat with_reducible refine obA ?_)))
          refine drawG_w [some 47, some 48, some 49, some 50, some 51, some 52, some 53, some 54, some 55, some 56, some 57, some 58, some 46, some 59, some 60, some 61, some 12, some 13, some 14] rfl ?_
          intro Oq lq Rq hlq hdq hRq
          subst hlq
          iterate 11 (refine peelD fun rq hrq => ?_; (iterate 2 ((try simp (etaStruct := .none) only [push_cast, Int.cast_ofNat_Int, Nat.reduceAdd, Nat.reduceSub, Nat.reduceMul, reduceCtorEq, reduceIte, Nat.reduceEqDiff, Nat.reduceLT, Nat.reduceLeDiff, Nat.reduceBEq, Int.reduceToNat, Int.reduceLE, Int.reduceLT, hdq, id, mput_def, ← hS, hln.1, getD_in _ _ _ hlt, trpP, hj, getD_in _ _ _ hjl, hge, gopP]); (try simp (disch := omega) only [wrap_in, wk_self, Int.tdiv_eq_ediv_of_nonneg, Int.tmod_eq_emod_of_nonneg]); (repeat with_reducible refine obA ?_))); subst hrq)
          refine peelD fun rq hrq => ?_
          (iterate 2 ((try simp (etaStruct := .none) only [push_cast, Int.cast_ofNat_Int, Nat.reduceAdd, Nat.reduceSub, Nat.reduceMul, reduceCtorEq, reduceIte, Nat.reduceEqDiff, Nat.reduceLT, Nat.reduceLeDiff, Nat.reduceBEq, Int.reduceToNat, Int.reduceLE, Int.reduceLT, hdq, id, mput_def, ← hS, hln.1, getD_in _ _ _ hlt, trpP, hj, getD_in _ _ _ hjl, hge, gopP]); (try simp (disch := omega) only [wrap_in, wk_self, Int.tdiv_eq_ediv_of_nonneg, Int.tmod_eq_emod_of_nonneg]); (repeat with_reducible refine obA ?_)))
          refine callP (pfind_s w.f (S.1.getD k default).c g.to hl (WR (S.1.getD k default).c) (hWR _)) (WkL.refl _) ?_
          rw [hwy]
          (iterate 2 ((try simp (etaStruct := .none) only [push_cast, Int.cast_ofNat_Int, Nat.reduceAdd, Nat.reduceSub, Nat.reduceMul, reduceCtorEq, reduceIte, Nat.reduceEqDiff, Nat.reduceLT, Nat.reduceLeDiff, Nat.reduceBEq, Int.reduceToNat, Int.reduceLE, Int.reduceLT, hdq, id, mput_def, ← hS, hln.1, getD_in _ _ _ hlt, trpP, hj, getD_in _ _ _ hjl, hge, gopP]); (try simp (disch := omega) only [wrap_in, wk_self, Int.tdiv_eq_ediv_of_nonneg, Int.tmod_eq_emod_of_nonneg]); (repeat with_reducible refine obA ?_)))
          subst hrq
          iterate 7 (refine peelD fun rq hrq => ?_; (iterate 2 ((try simp (etaStruct := .none) only [push_cast, Int.cast_ofNat_Int, Nat.reduceAdd, Nat.reduceSub, Nat.reduceMul, reduceCtorEq, reduceIte, Nat.reduceEqDiff, Nat.reduceLT, Nat.reduceLeDiff, Nat.reduceBEq, Int.reduceToNat, Int.reduceLE, Int.reduceLT, hdq, id, mput_def, ← hS, hln.1, getD_in _ _ _ hlt, trpP, hj, getD_in _ _ _ hjl, hge, gopP]); (try simp (disch := omega) only [wrap_in, wk_self, Int.tdiv_eq_ediv_of_nonneg, Int.tmod_eq_emod_of_nonneg]); (repeat with_reducible refine obA ?_))); subst hrq)
          refine endD ?_
          subst hRq
          clear hdq Oq
          refine endE (by kernel_rfl) ?_
          (iterate 2 ((try simp (etaStruct := .none) only [push_cast, Int.cast_ofNat_Int, Nat.reduceAdd, Nat.reduceSub, Nat.reduceMul, reduceCtorEq, reduceIte, Nat.reduceEqDiff, Nat.reduceLT, Nat.reduceLeDiff, Nat.reduceBEq, Int.reduceToNat, Int.reduceLE, Int.reduceLT, mput_def, ← hS, hln.1, getD_in _ _ _ hlt, trpP, hAg, hAl, List.take_nil, List.map_nil]); (try simp (disch := omega) only [wrap_in, wk_self, Int.tdiv_eq_ediv_of_nonneg, Int.tmod_eq_emod_of_nonneg]); (repeat with_reducible refine obA ?_)))
          refine cond_i (fun h4 => ?_) (fun h4 => ?_)
          · (iterate 2 ((try simp (etaStruct := .none) only [push_cast, Int.cast_ofNat_Int, Nat.reduceAdd, Nat.reduceSub, Nat.reduceMul, reduceCtorEq, reduceIte, Nat.reduceEqDiff, Nat.reduceLT, Nat.reduceLeDiff, Nat.reduceBEq, Int.reduceToNat, Int.reduceLE, Int.reduceLT]); (try simp (disch := omega) only [wrap_in, wk_self, Int.tdiv_eq_ediv_of_nonneg, Int.tmod_eq_emod_of_nonneg]); (repeat with_reducible refine obA ?_)))
            refine ⟨(k + 1, em), ⟨by simp only; omega, by simp only; rw [hsk, hms]; exact hm⟩, by simp only; omega, To.mk [0, 1, 2, 3] rfl rfl (by decide) ?_ ?_⟩
            · (iterate 2 ((try simp (etaStruct := .none) only [push_cast, DrawG, Int.cast_ofNat_Int, Nat.reduceAdd, Nat.reduceSub, Nat.reduceMul, reduceCtorEq, reduceIte, Nat.reduceEqDiff, Nat.reduceLT, Nat.reduceLeDiff, Nat.reduceBEq, Int.reduceToNat, Int.reduceLE, Int.reduceLT, hsk, hms]); (try simp (disch := omega) only [wrap_in, wk_self, Int.tdiv_eq_ediv_of_nonneg, Int.tmod_eq_emod_of_nonneg]); (repeat with_reducible refine obA ?_)))
            · (iterate 2 ((try simp (etaStruct := .none) (maxSteps := 1000000) only [push_cast, DrawG, Int.cast_ofNat_Int, Nat.reduceAdd, Nat.reduceSub, Nat.reduceMul, reduceCtorEq, reduceIte, Nat.reduceEqDiff, Nat.reduceLT, Nat.reduceLeDiff, Nat.reduceBEq, Int.reduceToNat, Int.reduceLE, Int.reduceLT]); (try simp (disch := omega) only [wrap_in, wk_self, Int.tdiv_eq_ediv_of_nonneg, Int.tmod_eq_emod_of_nonneg]); (repeat with_reducible refine obA ?_)))
          · simp at h4
        have hB1 : 1 < wl.length := by omega
        have hBl : ((wl.length : Int) < 2) = False := eq_false (by omega)
        have hE0 : wayE (WR (S.1.getD k default).c) w.f (S.1.getD k default).c g.to = 0 := by
          rcases Decidable.em (wayE (WR (S.1.getD k default).c) w.f (S.1.getD k default).c g.to = 0) with h | h
          · exact h
          · rw [hwl] at hB1; unfold wayW at hB1; rw [if_neg h] at hB1; simp at hB1
        have hcm := hm (wl.getD 1 default).x (wl.getD 1 default).y
        have hcl := cntC_le ⟨(wl.getD 1 default).x, (wl.getD 1 default).y⟩ S.1
        have hanyc := cntC_pos ⟨(wl.getD 1 default).x, (wl.getD 1 default).y⟩ S.1
        (iterate 2 ((try simp (etaStruct := .none) only [push_cast, Int.cast_ofNat_Int, Nat.reduceAdd, Nat.reduceSub, Nat.reduceMul, reduceCtorEq, reduceIte, Nat.reduceEqDiff, Nat.reduceLT, Nat.reduceLeDiff, Nat.reduceBEq, Int.reduceToNat, Int.reduceLE, Int.reduceLT, mput_def, ← hS, hln.1, getD_in _ _ _ hlt, trpP, hj, getD_in _ _ _ hjl, hge, gopP, getD_in _ _ _ hB1, celP, hBl, hE0]); (try simp (disch := omega) only [wrap_in, wk_self, Int.tdiv_eq_ediv_of_nonneg, Int.tmod_eq_emod_of_nonneg]); (repeat with_reducible refine obA ?_)))
        refine drawG_w [some 47, some 48, some 49, some 50, some 51, some 52, some 53, some 54, some 55, some 56, some 57, some 58, some 46, some 59, some 60, some 61, some 12, some 13, some 14] rfl ?_
        intro Oq lq Rq hlq hdq hRq
        subst hlq
        iterate 11 (refine peelD fun rq hrq => ?_; (iterate 2 ((try simp (etaStruct := .none) only [push_cast, Int.cast_ofNat_Int, Nat.reduceAdd, Nat.reduceSub, Nat.reduceMul, reduceCtorEq, reduceIte, Nat.reduceEqDiff, Nat.reduceLT, Nat.reduceLeDiff, Nat.reduceBEq, Int.reduceToNat, Int.reduceLE, Int.reduceLT, hdq, id, mput_def, ← hS, hln.1, getD_in _ _ _ hlt, trpP, hj, getD_in _ _ _ hjl, hge, gopP, getD_in _ _ _ hB1, celP, hBl, hE0]); (try simp (disch := omega) only [wrap_in, wk_self, Int.tdiv_eq_ediv_of_nonneg, Int.tmod_eq_emod_of_nonneg]); (repeat with_reducible refine obA ?_))); subst hrq)
        refine peelD fun rq hrq => ?_
        (iterate 2 ((try simp (etaStruct := .none) only [push_cast, Int.cast_ofNat_Int, Nat.reduceAdd, Nat.reduceSub, Nat.reduceMul, reduceCtorEq, reduceIte, Nat.reduceEqDiff, Nat.reduceLT, Nat.reduceLeDiff, Nat.reduceBEq, Int.reduceToNat, Int.reduceLE, Int.reduceLT, hdq, id, mput_def, ← hS, hln.1, getD_in _ _ _ hlt, trpP, hj, getD_in _ _ _ hjl, hge, gopP, getD_in _ _ _ hB1, celP, hBl, hE0]); (try simp (disch := omega) only [wrap_in, wk_self, Int.tdiv_eq_ediv_of_nonneg, Int.tmod_eq_emod_of_nonneg]); (repeat with_reducible refine obA ?_)))
        refine callP (pfind_s w.f (S.1.getD k default).c g.to hl (WR (S.1.getD k default).c) (hWR _)) (WkL.refl _) ?_
        rw [hwy]
        (iterate 2 ((try simp (etaStruct := .none) only [push_cast, Int.cast_ofNat_Int, Nat.reduceAdd, Nat.reduceSub, Nat.reduceMul, reduceCtorEq, reduceIte, Nat.reduceEqDiff, Nat.reduceLT, Nat.reduceLeDiff, Nat.reduceBEq, Int.reduceToNat, Int.reduceLE, Int.reduceLT, hdq, id, mput_def, ← hS, hln.1, getD_in _ _ _ hlt, trpP, hj, getD_in _ _ _ hjl, hge, gopP, getD_in _ _ _ hB1, celP, hBl, hE0]); (try simp (disch := omega) only [wrap_in, wk_self, Int.tdiv_eq_ediv_of_nonneg, Int.tmod_eq_emod_of_nonneg]); (repeat with_reducible refine obA ?_)))
        subst hrq
        iterate 7 (refine peelD fun rq hrq => ?_; (iterate 2 ((try simp (etaStruct := .none) only [push_cast, Int.cast_ofNat_Int, Nat.reduceAdd, Nat.reduceSub, Nat.reduceMul, reduceCtorEq, reduceIte, Nat.reduceEqDiff, Nat.reduceLT, Nat.reduceLeDiff, Nat.reduceBEq, Int.reduceToNat, Int.reduceLE, Int.reduceLT, hdq, id, mput_def, ← hS, hln.1, getD_in _ _ _ hlt, trpP, hj, getD_in _ _ _ hjl, hge, gopP, getD_in _ _ _ hB1, celP, hBl, hE0]); (try simp (disch := omega) only [wrap_in, wk_self, Int.tdiv_eq_ediv_of_nonneg, Int.tmod_eq_emod_of_nonneg]); (repeat with_reducible refine obA ?_))); subst hrq)
        refine endD ?_
        subst hRq
        clear hdq Oq
        refine endE (by kernel_rfl) ?_
        (iterate 2 ((try simp (etaStruct := .none) only [push_cast, Int.cast_ofNat_Int, Nat.reduceAdd, Nat.reduceSub, Nat.reduceMul, reduceCtorEq, reduceIte, Nat.reduceEqDiff, Nat.reduceLT, Nat.reduceLeDiff, Nat.reduceBEq, Int.reduceToNat, Int.reduceLE, Int.reduceLT, mput_def, ← hS, hln.1, getD_in _ _ _ hlt, trpP, hj, getD_in _ _ _ hjl, hge, gopP, getD_in _ _ _ hB1, celP, hBl, hE0]); (try simp (disch := omega) only [wrap_in, wk_self, Int.tdiv_eq_ediv_of_nonneg, Int.tmod_eq_emod_of_nonneg]); (repeat with_reducible refine obA ?_)))
        refine cond_i (fun h4 => ?_) (fun h4 => ?_)
        · (try simp only [decide_eq_true_eq, decide_eq_false_iff_not, Bool.not_eq_true', Bool.not_eq_false', Bool.or_eq_true, Bool.and_eq_true, Bool.or_eq_false_iff, Bool.and_eq_false_iff, Int.not_lt, Int.not_le, Bool.not_true, Bool.not_false, not_and, not_or] at h4)
          have hms : marchS w.f WR l S k = S := marchS_none (by rw [hst, if_pos (.inr (hanyc.1 (by omega)))])
          (iterate 2 ((try simp (etaStruct := .none) only [push_cast, Int.cast_ofNat_Int, Nat.reduceAdd, Nat.reduceSub, Nat.reduceMul, reduceCtorEq, reduceIte, Nat.reduceEqDiff, Nat.reduceLT, Nat.reduceLeDiff, Nat.reduceBEq, Int.reduceToNat, Int.reduceLE, Int.reduceLT, mput_def, ← hS, hln.1, getD_in _ _ _ hlt, trpP, hj, getD_in _ _ _ hjl, hge, gopP, getD_in _ _ _ hB1, celP, hBl, hE0]); (try simp (disch := omega) only [wrap_in, wk_self, Int.tdiv_eq_ediv_of_nonneg, Int.tmod_eq_emod_of_nonneg]); (repeat with_reducible refine obA ?_)))
          refine ⟨(k + 1, em), ⟨by simp only; omega, by simp only; rw [hsk, hms]; exact hm⟩, by simp only; omega, To.mk [0, 1, 2, 3] rfl rfl (by decide) ?_ ?_⟩
          · (iterate 2 ((try simp (etaStruct := .none) only [push_cast, DrawG, Int.cast_ofNat_Int, Nat.reduceAdd, Nat.reduceSub, Nat.reduceMul, reduceCtorEq, reduceIte, Nat.reduceEqDiff, Nat.reduceLT, Nat.reduceLeDiff, Nat.reduceBEq, Int.reduceToNat, Int.reduceLE, Int.reduceLT, hsk, hms]); (try simp (disch := omega) only [wrap_in, wk_self, Int.tdiv_eq_ediv_of_nonneg, Int.tmod_eq_emod_of_nonneg]); (repeat with_reducible refine obA ?_)))
          · (iterate 2 ((try simp (etaStruct := .none) only [push_cast, Int.cast_ofNat_Int, Nat.reduceAdd, Nat.reduceSub, Nat.reduceMul, reduceCtorEq, reduceIte, Nat.reduceEqDiff, Nat.reduceLT, Nat.reduceLeDiff, Nat.reduceBEq, Int.reduceToNat, Int.reduceLE, Int.reduceLT, mput_def, ← hS, hln.1, getD_in _ _ _ hlt, trpP, hj, getD_in _ _ _ hjl, hge, gopP, getD_in _ _ _ hB1, celP, hBl, hE0]); (try simp (disch := omega) only [wrap_in, wk_self, Int.tdiv_eq_ediv_of_nonneg, Int.tmod_eq_emod_of_nonneg]); (repeat with_reducible refine obA ?_)))
        · (try simp only [decide_eq_true_eq, decide_eq_false_iff_not, Bool.not_eq_true', Bool.not_eq_false', Bool.or_eq_true, Bool.and_eq_true, Bool.or_eq_false_iff, Bool.and_eq_false_iff, Int.not_lt, Int.not_le, Bool.not_true, Bool.not_false, not_and, not_or] at h4)
          have hno : ¬ (S.1.any fun o => decide (o.c = (wl.getD 1 default))) = true := fun h => by have := hanyc.2 h; omega
          have hms : marchS w.f WR l S k = (S.1.set k (setC (S.1.getD k default) (wl.getD 1 default)), S.2 ++ [(S.1.getD k default).id]) := marchS_some (by rw [hst, if_neg (fun h => by rcases h with h | h; omega; exact hno h)])
          have hmv := hm.move hlt (wl.getD 1 default)
          have hmp1 := mpos_lt [(S.1.getD k default).c.x, (S.1.getD k default).c.y] em
          have hc1 := hm (S.1.getD k default).c.x (S.1.getD k default).c.y
          have hcl1 := cntC_le ⟨(S.1.getD k default).c.x, (S.1.getD k default).c.y⟩ S.1
          have hmp2 := mpos_lt [(wl.getD 1 default).x, (wl.getD 1 default).y] (mput [(S.1.getD k default).c.x, (S.1.getD k default).c.y] (mget [(S.1.getD k default).c.x, (S.1.getD k default).c.y] em - 1) em)
          have hb2 : -1 ≤ mget [(wl.getD 1 default).x, (wl.getD 1 default).y] (mput [(S.1.getD k default).c.x, (S.1.getD k default).c.y] (mget [(S.1.getD k default).c.x, (S.1.getD k default).c.y] em - 1) em) ∧ mget [(wl.getD 1 default).x, (wl.getD 1 default).y] (mput [(S.1.getD k default).c.x, (S.1.getD k default).c.y] (mget [(S.1.getD k default).c.x, (S.1.getD k default).c.y] em - 1) em) ≤ 100 := by
            rw [mget_put_if]; split <;> omega
          have hgs : ∀ x : List PV, ((S.1.map trpP).set k x).getD k [] = x := fun x => by
            rw [List.getD_eq_getElem?_getD, List.getElem?_set_self (by rw [List.length_map]; exact hlt)]; rfl
          (iterate 2 ((try simp (etaStruct := .none) only [push_cast, Int.cast_ofNat_Int, Nat.reduceAdd, Nat.reduceSub, Nat.reduceMul, reduceCtorEq, reduceIte, Nat.reduceEqDiff, Nat.reduceLT, Nat.reduceLeDiff, Nat.reduceBEq, Int.reduceToNat, Int.reduceLE, Int.reduceLT, mput_def, ← hS, hln.1, getD_in _ _ _ hlt, trpP, hj, getD_in _ _ _ hjl, hge, gopP, getD_in _ _ _ hB1, celP, hBl, hE0, hgs, List.length_set, List.set_set]); (try simp (disch := omega) only [wrap_in, wk_self, Int.tdiv_eq_ediv_of_nonneg, Int.tmod_eq_emod_of_nonneg]); (repeat with_reducible refine obA ?_)))
          refine drawG_w [some 77, some 78, some 79, some 80, some 81, some 82, some 83, some 84, some 85, none] rfl ?_
          intro Oq lq Rq hlq hdq hRq
          subst hlq
          iterate 10 (refine peelD fun rq hrq => ?_; (iterate 2 ((try simp (etaStruct := .none) only [push_cast, Int.cast_ofNat_Int, Nat.reduceAdd, Nat.reduceSub, Nat.reduceMul, reduceCtorEq, reduceIte, Nat.reduceEqDiff, Nat.reduceLT, Nat.reduceLeDiff, Nat.reduceBEq, Int.reduceToNat, Int.reduceLE, Int.reduceLT, hdq, id, mput_def, ← hS, hln.1, getD_in _ _ _ hlt, trpP, hj, getD_in _ _ _ hjl, hge, gopP, getD_in _ _ _ hB1, celP, hBl, hE0, hgs, List.length_set, List.set_set]); (try simp (disch := omega) only [wrap_in, wk_self, Int.tdiv_eq_ediv_of_nonneg, Int.tmod_eq_emod_of_nonneg]); (repeat with_reducible refine obA ?_))); subst hrq)
          refine endD ?_
          subst hRq
          clear hdq Oq
          refine endE (by kernel_rfl) ?_
          (iterate 2 ((try simp (etaStruct := .none) only [push_cast, Int.cast_ofNat_Int, Nat.reduceAdd, Nat.reduceSub, Nat.reduceMul, reduceCtorEq, reduceIte, Nat.reduceEqDiff, Nat.reduceLT, Nat.reduceLeDiff, Nat.reduceBEq, Int.reduceToNat, Int.reduceLE, Int.reduceLT, mput_def, ← hS, hln.1, getD_in _ _ _ hlt, trpP, hj, getD_in _ _ _ hjl, hge, gopP, getD_in _ _ _ hB1, celP, hBl, hE0, hgs, List.length_set, List.set_set]); (try simp (disch := omega) only [wrap_in, wk_self, Int.tdiv_eq_ediv_of_nonneg, Int.tmod_eq_emod_of_nonneg]); (repeat with_reducible refine obA ?_)))
          refine drawG_w [some 86, some 87, some 88, some 89, some 90, some 91, none] rfl ?_
          intro Oq lq Rq hlq hdq hRq
          subst hlq
          iterate 7 (refine peelD fun rq hrq => ?_; (iterate 2 ((try simp (etaStruct := .none) only [push_cast, Int.cast_ofNat_Int, Nat.reduceAdd, Nat.reduceSub, Nat.reduceMul, reduceCtorEq, reduceIte, Nat.reduceEqDiff, Nat.reduceLT, Nat.reduceLeDiff, Nat.reduceBEq, Int.reduceToNat, Int.reduceLE, Int.reduceLT, hdq, id, mput_def, ← hS, hln.1, getD_in _ _ _ hlt, trpP, hj, getD_in _ _ _ hjl, hge, gopP, getD_in _ _ _ hB1, celP, hBl, hE0, hgs, List.length_set, List.set_set]); (try simp (disch := omega) only [wrap_in, wk_self, Int.tdiv_eq_ediv_of_nonneg, Int.tmod_eq_emod_of_nonneg]); (repeat with_reducible refine obA ?_))); subst hrq)
          refine endD ?_
          subst hRq
          clear hdq Oq
          refine endE (by kernel_rfl) ?_
          (iterate 2 ((try simp (etaStruct := .none) only [push_cast, Int.cast_ofNat_Int, Nat.reduceAdd, Nat.reduceSub, Nat.reduceMul, reduceCtorEq, reduceIte, Nat.reduceEqDiff, Nat.reduceLT, Nat.reduceLeDiff, Nat.reduceBEq, Int.reduceToNat, Int.reduceLE, Int.reduceLT, mput_def, ← hS, hln.1, getD_in _ _ _ hlt, trpP, hj, getD_in _ _ _ hjl, hge, gopP, getD_in _ _ _ hB1, celP, hBl, hE0, hgs, List.length_set, List.set_set]); (try simp (disch := omega) only [wrap_in, wk_self, Int.tdiv_eq_ediv_of_nonneg, Int.tmod_eq_emod_of_nonneg]); (repeat with_reducible refine obA ?_)))
          refine drawG_w [some 92, some 93, some 94, some 95, some 96, some 97, some 98, some 99, some 100, none] rfl ?_
          intro Oq lq Rq hlq hdq hRq
          subst hlq
          iterate 10 (refine peelD fun rq hrq => ?_; (iterate 2 ((try simp (etaStruct := .none) only [push_cast, Int.cast_ofNat_Int, Nat.reduceAdd, Nat.reduceSub, Nat.reduceMul, reduceCtorEq, reduceIte, Nat.reduceEqDiff, Nat.reduceLT, Nat.reduceLeDiff, Nat.reduceBEq, Int.reduceToNat, Int.reduceLE, Int.reduceLT, hdq, id, mput_def, ← hS, hln.1, getD_in _ _ _ hlt, trpP, hj, getD_in _ _ _ hjl, hge, gopP, getD_in _ _ _ hB1, celP, hBl, hE0, hgs, List.length_set, List.set_set]); (try simp (disch := omega) only [wrap_in, wk_self, Int.tdiv_eq_ediv_of_nonneg, Int.tmod_eq_emod_of_nonneg]); (repeat with_reducible refine obA ?_))); subst hrq)
          refine endD ?_
          subst hRq
          clear hdq Oq
          refine endE (by kernel_rfl) ?_
          (iterate 2 ((try simp (etaStruct := .none) only [push_cast, Int.cast_ofNat_Int, Nat.reduceAdd, Nat.reduceSub, Nat.reduceMul, reduceCtorEq, reduceIte, Nat.reduceEqDiff, Nat.reduceLT, Nat.reduceLeDiff, Nat.reduceBEq, Int.reduceToNat, Int.reduceLE, Int.reduceLT, mput_def, ← hS, hln.1, getD_in _ _ _ hlt, trpP, hj, getD_in _ _ _ hjl, hge, gopP, getD_in _ _ _ hB1, celP, hBl, hE0, hgs, List.length_set, List.set_set]); (try simp (disch := omega) only [wrap_in, wk_self, Int.tdiv_eq_ediv_of_nonneg, Int.tmod_eq_emod_of_nonneg]); (repeat with_reducible refine obA ?_)))
          refine ⟨(k + 1, mput [(wl.getD 1 default).x, (wl.getD 1 default).y] (mget [(wl.getD 1 default).x, (wl.getD 1 default).y] (mput [(S.1.getD k default).c.x, (S.1.getD k default).c.y] (mget [(S.1.getD k default).c.x, (S.1.getD k default).c.y] em - 1) em) + 1) (mput [(S.1.getD k default).c.x, (S.1.getD k default).c.y] (mget [(S.1.getD k default).c.x, (S.1.getD k default).c.y] em - 1) em)), ⟨by simp only; omega, by simp only; rw [hsk, hms]; exact hmv⟩, by simp only; omega, To.mk [0, 1, 2, 190] rfl rfl (by decide) ?_ ?_⟩
          · (iterate 2 ((try simp (etaStruct := .none) only [push_cast, DrawG, Int.cast_ofNat_Int, Nat.reduceAdd, Nat.reduceSub, Nat.reduceMul, reduceCtorEq, reduceIte, Nat.reduceEqDiff, Nat.reduceLT, Nat.reduceLeDiff, Nat.reduceBEq, Int.reduceToNat, Int.reduceLE, Int.reduceLT, hsk, hms, List.map_set, List.map_append, trpP, setC, i64P]); (try simp (disch := omega) only [wrap_in, wk_self, Int.tdiv_eq_ediv_of_nonneg, Int.tmod_eq_emod_of_nonneg]); (repeat with_reducible refine obA ?_)))
          · (iterate 2 ((try simp (etaStruct := .none) only [push_cast, Int.cast_ofNat_Int, Nat.reduceAdd, Nat.reduceSub, Nat.reduceMul, reduceCtorEq, reduceIte, Nat.reduceEqDiff, Nat.reduceLT, Nat.reduceLeDiff, Nat.reduceBEq, Int.reduceToNat, Int.reduceLE, Int.reduceLT, mput_def, ← hS, hln.1, getD_in _ _ _ hlt, trpP, hj, getD_in _ _ _ hjl, hge, gopP, getD_in _ _ _ hB1, celP, hBl, hE0, hgs, List.length_set, List.set_set]); (try simp (disch := omega) only [wrap_in, wk_self, Int.tdiv_eq_ediv_of_nonneg, Int.tmod_eq_emod_of_nonneg]); (repeat with_reducible refine obA ?_)))
    · (try simp only [decide_eq_true_eq, decide_eq_false_iff_not, Bool.not_eq_true', Bool.not_eq_false', Bool.or_eq_true, Bool.and_eq_true, Bool.or_eq_false_iff, Bool.and_eq_false_iff, Int.not_lt, Int.not_le, Bool.not_true, Bool.not_false, not_and, not_or] at h2)
      obtain rfl : k = w.troops.length := by omega
      have hmv : marchV w.f WR l w.troops = S := hS.symm
      (iterate 2 ((try simp (etaStruct := .none) only [push_cast, Int.cast_ofNat_Int, Nat.reduceAdd, Nat.reduceSub, Nat.reduceMul, reduceCtorEq, reduceIte, Nat.reduceEqDiff, Nat.reduceLT, Nat.reduceLeDiff, Nat.reduceBEq, Int.reduceToNat, Int.reduceLE, Int.reduceLT, mput_def, ← hS, hln.1]); (try simp (disch := omega) only [wrap_in, wk_self, Int.tdiv_eq_ediv_of_nonneg, Int.tmod_eq_emod_of_nonneg]); (repeat with_reducible refine obA ?_)))
      refine retM [0] rfl rfl (by decide) ⟨?_, trivial⟩ trivial ?_ <;> simp (etaStruct := .none) only [push_cast, DrawG, Int.cast_ofNat_Int, Nat.reduceAdd, Nat.reduceSub, Nat.reduceMul, reduceCtorEq, reduceIte, Nat.reduceEqDiff, Nat.reduceLT, Nat.reduceLeDiff, Nat.reduceBEq, Int.reduceToNat, Int.reduceLE, Int.reduceLT, hmv]
end Go.Proofs.Ytehcnnodkhcgfaa
namespace Go.Proofs.Ytehcnnodkhcgfaa
set_option linter.all false
open Go.RowKit
set_option maxRecDepth 100000
structure Right (w : Wld) : Prop where
  f : fldE w.f = 0
  nb : w.bases.length ≤ 8
  nt : w.troops.length ≤ 100
  sl : w.stocks.length = w.bases.length
  ml : w.mines.length = w.f.p.length
  nx : 1 ≤ w.next ∧ w.next ≤ 1000000
  nw : 0 ≤ w.now ∧ w.now ≤ 1000000
  base : ∀ i, i < w.bases.length → groundV w.f (w.bases.getD i default) = true ∧ (0 ≤ w.stocks.getD i default ∧ w.stocks.getD i default ≤ 1000000) ∧ ∀ j, j < i → w.bases.getD j default ≠ w.bases.getD i default
  mine : ∀ i, i < w.mines.length → (0 ≤ w.mines.getD i default ∧ w.mines.getD i default ≤ 1000000) ∧ (w.mines.getD i default = 0 ∨ w.f.p.getD i default = 3)
  trp : ∀ k, k < w.troops.length → TrpOk w (w.troops.getD k default)
  ord : ∀ j k, j < k → k < w.troops.length → (w.troops.getD j default).id < (w.troops.getD k default).id ∧ (w.troops.getD j default).c ≠ (w.troops.getD k default).c
theorem right_of {w : Wld} (h : worldE w = 0) : Right w := by
  obtain ⟨h1, h2, h3, h4, h5⟩ := worldE_ok h
  obtain ⟨g1, g2, g3, g4⟩ := worldF_ok h4
  unfold worldB at h5
  simp only [Bool.and_eq_true] at h5
  obtain ⟨⟨b1, b2⟩, b3⟩ := h5
  rw [allN_iff] at b1 b2 b3
  refine ⟨h1, h2, h3, g1, g2, g3, g4, fun i hi => ?_, fun i hi => ?_, fun k hk => (troop_ok h hk).1, fun j k hjk hk => ?_⟩
  · have := b1 i hi
    unfold baseB at this
    simp only [Bool.and_eq_true, within_iff] at this
    obtain ⟨⟨a1, a2⟩, a3⟩ := this
    rw [allN_iff] at a3
    exact ⟨a1, a2, fun j hj => by have := a3 j hj; simpa using this⟩
  · have := b2 i hi
    unfold mineB at this
    simp only [Bool.and_eq_true, Bool.or_eq_true, within_iff, decide_eq_true_eq] at this
    exact this
  · have h6 := (troop_ok h hk).2
    unfold trp2 at h6
    have := (allN_iff _ _).1 h6 j hjk
    simp only [Bool.and_eq_true, decide_eq_true_eq, Bool.not_eq_true', decide_eq_false_iff_not] at this
    exact this
theorem Right.e {w : Wld} (h : Right w) : worldE w = 0 := by
  have hb : ¬ (8 < w.bases.length ∨ 100 < w.troops.length) := by have := h.nb; have := h.nt; omega
  refine worldE_fine h.f hb ?_ ?_
  · unfold worldF
    rw [decide_eq_true h.sl, decide_eq_true h.ml, (within_iff).2 h.nx, (within_iff).2 h.nw]; rfl
  · unfold worldB
    rw [Bool.and_eq_true, Bool.and_eq_true, allN_iff, allN_iff, allN_iff]
    refine ⟨⟨fun i hi => ?_, fun i hi => ?_⟩, fun i hi => ?_⟩
    · obtain ⟨a1, a2, a3⟩ := h.base i hi
      unfold baseB
      rw [a1, (within_iff).2 a2, Bool.true_and, Bool.true_and, allN_iff]
      intro j hj
      rw [decide_eq_false (a3 j hj)]; rfl
    · obtain ⟨a1, a2⟩ := h.mine i hi
      unfold mineB
      rw [(within_iff).2 a1, Bool.true_and, Bool.or_eq_true, decide_eq_true_eq, decide_eq_true_eq]; exact a2
    · have ok := h.trp i hi
      unfold troopB trp1 trp2
      rw [(within_iff).2 (by rcases ok.kind with e | e <;> omega), (within_iff).2 ok.id, (within_iff).2 ok.owner, ok.at_, (within_iff).2 ok.life, (within_iff).2 ok.load, Bool.true_and, Bool.true_and, Bool.true_and, Bool.true_and, Bool.true_and, Bool.true_and, allN_iff]
      intro j hj
      obtain ⟨c1, c2⟩ := h.ord j i hj hi
      rw [decide_eq_true c1, decide_eq_false c2]; rfl
theorem Right.l {w : Wld} (h : Right w) : wldL w := by
  obtain ⟨⟨f1, f2⟩, ⟨f3, f4⟩, f5, f6⟩ := fldE_ok h.f
  have hm : w.f.w * w.f.h ≤ 40 * 40 := Int.mul_le_mul f2 f4 (by omega) (by omega)
  have a1 := h.nb; have a2 := h.nt; have a3 := h.sl; have a4 := h.ml
  unfold wldL; omega
end Go.Proofs.Ytehcnnodkhcgfaa
namespace Go.Proofs.Ytehcnnodkhcgfaa
set_option linter.all false
open Go.RowKit
set_option maxRecDepth 100000
set_option maxHeartbeats 2000000
def setT (w : Wld) (ts : List Trp) : Wld := { w with troops := ts }
abbrev wldT (w : Wld) (t : AV) : List AV := [I .i64 w.f.w, I .i64 w.f.h, .c (.sl 1 (w.f.p.map i64P)), .c (.sl 2 (w.bases.map celP)), .c (.sl 1 (w.stocks.map i64P)), .c (.sl 1 (w.mines.map i64P)), t, I .i64 w.next, I .i64 w.now]
theorem mown_s (w : Wld) (hb : w.f.p.length ≤ 1600 ∧ w.bases.length ≤ 8 ∧ w.stocks.length ≤ 8 ∧ w.mines.length ≤ 1600 ∧ w.troops.length ≤ 100) : Spec Try.prog 154 [wldA w] [] (.agg (wldT w (.own 0))) [.row 103 7 (w.troops.map trpP)] := by
  refine spec_am Try.func154 rfl rfl mix 26 rfl [.cell 2 91] Try.results154 (Nat.le_of_ble_eq_true rfl) ?_
  (try simp (etaStruct := .none) only [push_cast, DrawG, Int.cast_ofNat_Int, Nat.reduceAdd, Nat.reduceSub, Nat.reduceMul, reduceCtorEq, reduceIte, Nat.reduceEqDiff, Nat.reduceLT, Nat.reduceLeDiff, Nat.reduceBEq, Int.reduceToNat, Int.reduceLE, Int.reduceLT]); (try simp (disch := omega) only [wrap_in, wk_self, Int.tdiv_eq_ediv_of_nonneg, Int.tmod_eq_emod_of_nonneg]); (repeat with_reducible refine obA ?_)
  refine callM [] (int_clone w.f.p (by omega)) (WkL.refl _) rfl (by decide) (by simp [lookC_c]) ?_
  (try simp (etaStruct := .none) only [push_cast, DrawG, Int.cast_ofNat_Int, Nat.reduceAdd, Nat.reduceSub, Nat.reduceMul, reduceCtorEq, reduceIte, Nat.reduceEqDiff, Nat.reduceLT, Nat.reduceLeDiff, Nat.reduceBEq, Int.reduceToNat, Int.reduceLE, Int.reduceLT]); (try simp (disch := omega) only [wrap_in, wk_self, Int.tdiv_eq_ediv_of_nonneg, Int.tmod_eq_emod_of_nonneg]); (repeat with_reducible refine obA ?_)
  refine callM [] (cel_clone w.bases (by omega)) (WkL.refl _) rfl (by decide) (by simp [lookC_c]) ?_
  (try simp (etaStruct := .none) only [push_cast, DrawG, Int.cast_ofNat_Int, Nat.reduceAdd, Nat.reduceSub, Nat.reduceMul, reduceCtorEq, reduceIte, Nat.reduceEqDiff, Nat.reduceLT, Nat.reduceLeDiff, Nat.reduceBEq, Int.reduceToNat, Int.reduceLE, Int.reduceLT]); (try simp (disch := omega) only [wrap_in, wk_self, Int.tdiv_eq_ediv_of_nonneg, Int.tmod_eq_emod_of_nonneg]); (repeat with_reducible refine obA ?_)
  refine callM [] (int_clone w.stocks (by omega)) (WkL.refl _) rfl (by decide) (by simp [lookC_c]) ?_
  (try simp (etaStruct := .none) only [push_cast, DrawG, Int.cast_ofNat_Int, Nat.reduceAdd, Nat.reduceSub, Nat.reduceMul, reduceCtorEq, reduceIte, Nat.reduceEqDiff, Nat.reduceLT, Nat.reduceLeDiff, Nat.reduceBEq, Int.reduceToNat, Int.reduceLE, Int.reduceLT]); (try simp (disch := omega) only [wrap_in, wk_self, Int.tdiv_eq_ediv_of_nonneg, Int.tmod_eq_emod_of_nonneg]); (repeat with_reducible refine obA ?_)
  (try (refine ⟨by kernel_rfl, ?_⟩))
  (try simp (etaStruct := .none) only [push_cast, DrawG, Int.cast_ofNat_Int, Nat.reduceAdd, Nat.reduceSub, Nat.reduceMul, reduceCtorEq, reduceIte, Nat.reduceEqDiff, Nat.reduceLT, Nat.reduceLeDiff, Nat.reduceBEq, Int.reduceToNat, Int.reduceLE, Int.reduceLT]); (try simp (disch := omega) only [wrap_in, wk_self, Int.tdiv_eq_ediv_of_nonneg, Int.tmod_eq_emod_of_nonneg]); (repeat with_reducible refine obA ?_)
  refine callM [] (int_clone w.mines (by omega)) (WkL.refl _) rfl (by decide) (by simp [lookC_c]) ?_
  (try simp (etaStruct := .none) only [push_cast, DrawG, Int.cast_ofNat_Int, Nat.reduceAdd, Nat.reduceSub, Nat.reduceMul, reduceCtorEq, reduceIte, Nat.reduceEqDiff, Nat.reduceLT, Nat.reduceLeDiff, Nat.reduceBEq, Int.reduceToNat, Int.reduceLE, Int.reduceLT]); (try simp (disch := omega) only [wrap_in, wk_self, Int.tdiv_eq_ediv_of_nonneg, Int.tmod_eq_emod_of_nonneg]); (repeat with_reducible refine obA ?_)
  refine callM [] (trp_clone w.troops (by omega)) (WkL.refl _) rfl (by decide) (by simp [lookC_c]) ?_
  (try simp (etaStruct := .none) only [push_cast, DrawG, Int.cast_ofNat_Int, Nat.reduceAdd, Nat.reduceSub, Nat.reduceMul, reduceCtorEq, reduceIte, Nat.reduceEqDiff, Nat.reduceLT, Nat.reduceLeDiff, Nat.reduceBEq, Int.reduceToNat, Int.reduceLE, Int.reduceLT]); (try simp (disch := omega) only [wrap_in, wk_self, Int.tdiv_eq_ediv_of_nonneg, Int.tmod_eq_emod_of_nonneg]); (repeat with_reducible refine obA ?_)
  (try (refine ⟨by kernel_rfl, ?_⟩))
  (try simp (etaStruct := .none) only [push_cast, DrawG, Int.cast_ofNat_Int, Nat.reduceAdd, Nat.reduceSub, Nat.reduceMul, reduceCtorEq, reduceIte, Nat.reduceEqDiff, Nat.reduceLT, Nat.reduceLeDiff, Nat.reduceBEq, Int.reduceToNat, Int.reduceLE, Int.reduceLT]); (try simp (disch := omega) only [wrap_in, wk_self, Int.tdiv_eq_ediv_of_nonneg, Int.tmod_eq_emod_of_nonneg]); (repeat with_reducible refine obA ?_)
  refine retM [63] rfl rfl (by decide) ⟨?_, trivial⟩ ⟨rfl, trivial⟩ (Wk.of ?_)
  · simp (etaStruct := .none) only [push_cast, DrawG, Int.cast_ofNat_Int, Nat.reduceAdd, Nat.reduceSub, Nat.reduceMul, reduceCtorEq, reduceIte, Nat.reduceEqDiff, Nat.reduceLT, Nat.reduceLeDiff, Nat.reduceBEq, Int.reduceToNat, Int.reduceLE, Int.reduceLT]
  · first | rfl | kernel_rfl
def stepE (w : Wld) (l : List Gop) : Int := if worldE w ≠ 0 then worldE w else if 200 < l.length then 2 else 0
theorem right_b {w : Wld} (hw : Right w) : w.f.p.length ≤ 1600 ∧ w.bases.length ≤ 8 ∧ w.stocks.length ≤ 8 ∧ w.mines.length ≤ 1600 ∧ w.troops.length ≤ 100 := by
  have hfo := fldE_ok hw.f
  have hm2 : w.f.w * w.f.h ≤ 40 * 40 := Int.mul_le_mul hfo.1.2 hfo.2.1.2 (by omega) (by omega)
  have h1 := hw.nb
  have h2 := hw.sl
  have h3 := hw.ml
  have h4 := hw.nt
  omega
theorem mstepW_s (w : Wld) (l : List Gop) (WR : Cel → List Int) (hWR : ∀ a, FloodIs w.f [a] (WR a)) (hl : wldL w) (hll : l.length ≤ 9223372036854775807) : Spec Try.prog 60 [wldA w, .c (.sl 3 (l.map gopP))] [] (.tup [wldA (if stepE w l = 0 then setT w (marchV w.f WR l w.troops).1 else default), .c (.sl 1 ((if stepE w l = 0 then (marchV w.f WR l w.troops).2 else []).map i64P)), I .i64 (stepE w l)]) [] := by
  refine spec_am Try.func60 rfl rfl mix 26 rfl [.cell 4 91, .tmp 5, .tmp 6] Try.results60 (Nat.le_of_ble_eq_true rfl) ?_
  (try simp (etaStruct := .none) only [push_cast, DrawG, Int.cast_ofNat_Int, Nat.reduceAdd, Nat.reduceSub, Nat.reduceMul, reduceCtorEq, reduceIte, Nat.reduceEqDiff, Nat.reduceLT, Nat.reduceLeDiff, Nat.reduceBEq, Int.reduceToNat, Int.reduceLE, Int.reduceLT]); (try simp (disch := omega) only [wrap_in, wk_self, Int.tdiv_eq_ediv_of_nonneg, Int.tmod_eq_emod_of_nonneg]); (repeat with_reducible refine obA ?_)
  refine callP (tcheck_s w hl) (WkL.refl _) ?_
  (try simp (etaStruct := .none) only [push_cast, DrawG, Int.cast_ofNat_Int, Nat.reduceAdd, Nat.reduceSub, Nat.reduceMul, reduceCtorEq, reduceIte, Nat.reduceEqDiff, Nat.reduceLT, Nat.reduceLeDiff, Nat.reduceBEq, Int.reduceToNat, Int.reduceLE, Int.reduceLT]); (try simp (disch := omega) only [wrap_in, wk_self, Int.tdiv_eq_ediv_of_nonneg, Int.tmod_eq_emod_of_nonneg]); (repeat with_reducible refine obA ?_)
  refine cond_i (fun h1 => ?_) (fun h1 => ?_)
  · (try simp only [decide_eq_true_eq, decide_eq_false_iff_not, Bool.not_eq_true', Bool.not_eq_false', Bool.or_eq_true, Bool.and_eq_true, Bool.or_eq_false_iff, Bool.and_eq_false_iff, Int.not_lt, Int.not_le, Bool.not_true, Bool.not_false, not_and, not_or] at h1)
    have e : stepE w l = worldE w := by unfold stepE; rw [if_pos h1]
    rw [e, if_neg h1, if_neg h1]
    (try simp (etaStruct := .none) only [push_cast, DrawG, Int.cast_ofNat_Int, Nat.reduceAdd, Nat.reduceSub, Nat.reduceMul, reduceCtorEq, reduceIte, Nat.reduceEqDiff, Nat.reduceLT, Nat.reduceLeDiff, Nat.reduceBEq, Int.reduceToNat, Int.reduceLE, Int.reduceLT]); (try simp (disch := omega) only [wrap_in, wk_self, Int.tdiv_eq_ediv_of_nonneg, Int.tmod_eq_emod_of_nonneg]); (repeat with_reducible refine obA ?_)
    (first | (refine ret0 rfl (by repeat' (first | exact trivial | exact rfl | refine ⟨?_, ?_⟩)) (Wk.of ?_); (try simp (etaStruct := .none) only [push_cast, DrawG, Int.cast_ofNat_Int, Nat.reduceAdd, Nat.reduceSub, Nat.reduceMul, reduceCtorEq, reduceIte, Nat.reduceEqDiff, Nat.reduceLT, Nat.reduceLeDiff, Nat.reduceBEq, Int.reduceToNat, Int.reduceLE, Int.reduceLT]); first | done | (simp [*]; done) | (simp_all []; done)) | (refine ret0 rfl (by repeat' (first | exact trivial | exact rfl | refine ⟨?_, ?_⟩)) ?_; (try simp (etaStruct := .none) only [push_cast, DrawG, Int.cast_ofNat_Int, Nat.reduceAdd, Nat.reduceSub, Nat.reduceMul, reduceCtorEq, reduceIte, Nat.reduceEqDiff, Nat.reduceLT, Nat.reduceLeDiff, Nat.reduceBEq, Int.reduceToNat, Int.reduceLE, Int.reduceLT]); (try simp [*]); (try (first | exact Wk.refl _ | exact Wk.nil _ | (refine Wk.tup ?_; repeat' (first | exact trivial | exact Wk.refl _ | exact Wk.nil _ | refine ⟨?_, ?_⟩ | (refine Wk.agg ?_)))))))
  · (try simp only [decide_eq_true_eq, decide_eq_false_iff_not, Bool.not_eq_true', Bool.not_eq_false', Bool.or_eq_true, Bool.and_eq_true, Bool.or_eq_false_iff, Bool.and_eq_false_iff, Int.not_lt, Int.not_le, Bool.not_true, Bool.not_false, not_and, not_or] at h1)
    have hw := right_of h1
    (try simp (etaStruct := .none) only [push_cast, DrawG, Int.cast_ofNat_Int, Nat.reduceAdd, Nat.reduceSub, Nat.reduceMul, reduceCtorEq, reduceIte, Nat.reduceEqDiff, Nat.reduceLT, Nat.reduceLeDiff, Nat.reduceBEq, Int.reduceToNat, Int.reduceLE, Int.reduceLT]); (try simp (disch := omega) only [wrap_in, wk_self, Int.tdiv_eq_ediv_of_nonneg, Int.tmod_eq_emod_of_nonneg]); (repeat with_reducible refine obA ?_)
    refine cond_i (fun h2 => ?_) (fun h2 => ?_)
    · (try simp only [decide_eq_true_eq, decide_eq_false_iff_not, Bool.not_eq_true', Bool.not_eq_false', Bool.or_eq_true, Bool.and_eq_true, Bool.or_eq_false_iff, Bool.and_eq_false_iff, Int.not_lt, Int.not_le, Bool.not_true, Bool.not_false, not_and, not_or] at h2)
      have e : stepE w l = 2 := by unfold stepE; rw [if_neg (by simp [h1]), if_pos (by omega)]
      rw [e, if_neg (by decide), if_neg (by decide)]
      (try simp (etaStruct := .none) only [push_cast, DrawG, Int.cast_ofNat_Int, Nat.reduceAdd, Nat.reduceSub, Nat.reduceMul, reduceCtorEq, reduceIte, Nat.reduceEqDiff, Nat.reduceLT, Nat.reduceLeDiff, Nat.reduceBEq, Int.reduceToNat, Int.reduceLE, Int.reduceLT]); (try simp (disch := omega) only [wrap_in, wk_self, Int.tdiv_eq_ediv_of_nonneg, Int.tmod_eq_emod_of_nonneg]); (repeat with_reducible refine obA ?_)
      (first | (refine ret0 rfl (by repeat' (first | exact trivial | exact rfl | refine ⟨?_, ?_⟩)) (Wk.of ?_); (try simp (etaStruct := .none) only [push_cast, DrawG, Int.cast_ofNat_Int, Nat.reduceAdd, Nat.reduceSub, Nat.reduceMul, reduceCtorEq, reduceIte, Nat.reduceEqDiff, Nat.reduceLT, Nat.reduceLeDiff, Nat.reduceBEq, Int.reduceToNat, Int.reduceLE, Int.reduceLT]); first | done | (simp [*]; done) | (simp_all []; done)) | (refine ret0 rfl (by repeat' (first | exact trivial | exact rfl | refine ⟨?_, ?_⟩)) ?_; (try simp (etaStruct := .none) only [push_cast, DrawG, Int.cast_ofNat_Int, Nat.reduceAdd, Nat.reduceSub, Nat.reduceMul, reduceCtorEq, reduceIte, Nat.reduceEqDiff, Nat.reduceLT, Nat.reduceLeDiff, Nat.reduceBEq, Int.reduceToNat, Int.reduceLE, Int.reduceLT]); (try simp [*]); (try (first | exact Wk.refl _ | exact Wk.nil _ | (refine Wk.tup ?_; repeat' (first | exact trivial | exact Wk.refl _ | exact Wk.nil _ | refine ⟨?_, ?_⟩ | (refine Wk.agg ?_)))))))
    · (try simp only [decide_eq_true_eq, decide_eq_false_iff_not, Bool.not_eq_true', Bool.not_eq_false', Bool.or_eq_true, Bool.and_eq_true, Bool.or_eq_false_iff, Bool.and_eq_false_iff, Int.not_lt, Int.not_le, Bool.not_true, Bool.not_false, not_and, not_or] at h2)
      have e : stepE w l = 0 := by unfold stepE; rw [if_neg (by simp [h1]), if_neg (by omega)]
      rw [e, if_pos rfl, if_pos rfl]
      have hb := right_b hw
      (try simp (etaStruct := .none) only [push_cast, DrawG, Int.cast_ofNat_Int, Nat.reduceAdd, Nat.reduceSub, Nat.reduceMul, reduceCtorEq, reduceIte, Nat.reduceEqDiff, Nat.reduceLT, Nat.reduceLeDiff, Nat.reduceBEq, Int.reduceToNat, Int.reduceLE, Int.reduceLT]); (try simp (disch := omega) only [wrap_in, wk_self, Int.tdiv_eq_ediv_of_nonneg, Int.tmod_eq_emod_of_nonneg]); (repeat with_reducible refine obA ?_)
      refine callM [] (mown_s w hb) (WkL.refl _) rfl (by decide) (by simp [lookC_c]) ?_
      (try simp (etaStruct := .none) only [push_cast, DrawG, Int.cast_ofNat_Int, Nat.reduceAdd, Nat.reduceSub, Nat.reduceMul, reduceCtorEq, reduceIte, Nat.reduceEqDiff, Nat.reduceLT, Nat.reduceLeDiff, Nat.reduceBEq, Int.reduceToNat, Int.reduceLE, Int.reduceLT]); (try simp (disch := omega) only [wrap_in, wk_self, Int.tdiv_eq_ediv_of_nonneg, Int.tmod_eq_emod_of_nonneg]); (repeat with_reducible refine obA ?_)
      refine callM [2] (mstep_s w l WR hWR (by omega) (by omega) (by omega)) (WkL.refl _) rfl (by decide) (by simp [lookC_c]) ?_
      (try simp (etaStruct := .none) only [push_cast, DrawG, Int.cast_ofNat_Int, Nat.reduceAdd, Nat.reduceSub, Nat.reduceMul, reduceCtorEq, reduceIte, Nat.reduceEqDiff, Nat.reduceLT, Nat.reduceLeDiff, Nat.reduceBEq, Int.reduceToNat, Int.reduceLE, Int.reduceLT]); (try simp (disch := omega) only [wrap_in, wk_self, Int.tdiv_eq_ediv_of_nonneg, Int.tmod_eq_emod_of_nonneg]); (repeat with_reducible refine obA ?_)
      refine ret0 rfl (by repeat' (first | exact trivial | exact rfl | refine ⟨?_, ?_⟩)) (Wk.of ?_)
      first | rfl | kernel_rfl
end Go.Proofs.Ytehcnnodkhcgfaa
