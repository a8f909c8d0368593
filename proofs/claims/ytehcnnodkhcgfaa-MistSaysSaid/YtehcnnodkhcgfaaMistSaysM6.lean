/- Lemmas for the proof of mistSays.proved. -/
import Derived.Test.YtehcnnodkhcgfaaMistSaysM5
namespace Go.Proofs.Ytehcnnodkhcgfaa
set_option linter.all false
open Go.RowKit
set_option maxRecDepth 100000
set_option maxHeartbeats 1000000
theorem cel_index (l : List Cel) (v : Cel) (hl : l.length ≤ 9223372036854775807) : Spec Try.prog 288 [.c (.sl 2 (l.map celP)), celA v] [] (I .i64 (ixOf (fun x => decide (v = x)) l)) [] := by
  refine spec_am Try.func288 rfl rfl mix 19 rfl [.tmp 4] Try.results288 (Nat.le_of_ble_eq_true rfl) ?_
  (try simp (etaStruct := .none) only [push_cast, DrawG, Int.cast_ofNat_Int, Nat.reduceAdd, Nat.reduceSub, Nat.reduceMul, reduceCtorEq, reduceIte, Nat.reduceEqDiff, Nat.reduceLT, Nat.reduceLeDiff, Nat.reduceBEq, Int.reduceToNat, Int.reduceLE, Int.reduceLT]); (try simp (disch := omega) only [wrap_in, wk_self, Int.tdiv_eq_ediv_of_nonneg, Int.tmod_eq_emod_of_nonneg]); (repeat (with_reducible refine And.intro ?_ ?_; · first | omega | decide | (simp; done) | (simp; omega) | (intro hh; refine ⟨hh, ?_⟩; omega) | (simp +contextual; done)))
  refine loopI (fun k : Nat => ⟨[(8, I .i64 k), (7, I .i64 l.length), (3, .ptr 0 0 0), (0, .c (.sl 2 (l.map celP)))], [(0, .blk 25 [I .i64 v.x, I .i64 v.y])], 1⟩) (fun k : Nat => k ≤ l.length ∧ ∀ j (hj : j < l.length), j < k → decide (v = l[j]) = false) (fun k : Nat => l.length - k) (0) (⟨Nat.zero_le _, fun j _ h => by omega⟩) (To.mk [0] rfl rfl (by decide) ?_ ?_) ?_
  · simp (etaStruct := .none) only [push_cast, DrawG, Int.cast_ofNat_Int, Nat.reduceAdd, Nat.reduceSub, Nat.reduceMul, reduceCtorEq, reduceIte, Nat.reduceEqDiff, Nat.reduceLT, Nat.reduceLeDiff, Nat.reduceBEq, Int.reduceToNat, Int.reduceLE, Int.reduceLT]
  · simp (etaStruct := .none) only [push_cast, DrawG, Int.cast_ofNat_Int, Nat.reduceAdd, Nat.reduceSub, Nat.reduceMul, reduceCtorEq, reduceIte, Nat.reduceEqDiff, Nat.reduceLT, Nat.reduceLeDiff, Nat.reduceBEq, Int.reduceToNat, Int.reduceLE, Int.reduceLT]
  rintro k ⟨hk, hn⟩
  (try simp (etaStruct := .none) only [push_cast, DrawG, Int.cast_ofNat_Int, Nat.reduceAdd, Nat.reduceSub, Nat.reduceMul, reduceCtorEq, reduceIte, Nat.reduceEqDiff, Nat.reduceLT, Nat.reduceLeDiff, Nat.reduceBEq, Int.reduceToNat, Int.reduceLE, Int.reduceLT]); (try simp (disch := omega) only [wrap_in, wk_self, Int.tdiv_eq_ediv_of_nonneg, Int.tmod_eq_emod_of_nonneg]); (repeat (with_reducible refine And.intro ?_ ?_; · first | omega | decide | (simp; done) | (simp; omega) | (intro hh; refine ⟨hh, ?_⟩; omega) | (simp +contextual; done)))
  refine cond_i (fun h1 => ?_) (fun h1 => ?_)
  · (try simp only [decide_eq_true_eq, decide_eq_false_iff_not, Bool.not_eq_true', Bool.not_eq_false', Bool.or_eq_true, Bool.and_eq_true, Bool.or_eq_false_iff, Bool.and_eq_false_iff, Int.not_lt, Int.not_le, Bool.not_true, Bool.not_false, not_and, not_or] at h1)
    have hlt : k < l.length := by omega
    (iterate 2 ((try simp (etaStruct := .none) only [push_cast, DrawG, Int.cast_ofNat_Int, Nat.reduceAdd, Nat.reduceSub, Nat.reduceMul, reduceCtorEq, reduceIte, Nat.reduceEqDiff, Nat.reduceLT, Nat.reduceLeDiff, Nat.reduceBEq, Int.reduceToNat, Int.reduceLE, Int.reduceLT, getD_in _ _ _ hlt, celP, cel_dec]); (try simp (disch := omega) only [wrap_in, wk_self, Int.tdiv_eq_ediv_of_nonneg, Int.tmod_eq_emod_of_nonneg]); (repeat (with_reducible refine And.intro ?_ ?_; · first | omega | decide | (simp; done) | (simp; omega) | (intro hh; refine ⟨hh, ?_⟩; omega) | (simp +contextual; done)))))
    (try (refine ⟨by kernel_rfl, ?_⟩))
    (iterate 2 ((try simp (etaStruct := .none) only [push_cast, DrawG, Int.cast_ofNat_Int, Nat.reduceAdd, Nat.reduceSub, Nat.reduceMul, reduceCtorEq, reduceIte, Nat.reduceEqDiff, Nat.reduceLT, Nat.reduceLeDiff, Nat.reduceBEq, Int.reduceToNat, Int.reduceLE, Int.reduceLT, getD_in _ _ _ hlt, celP, cel_dec]); (try simp (disch := omega) only [wrap_in, wk_self, Int.tdiv_eq_ediv_of_nonneg, Int.tmod_eq_emod_of_nonneg]); (repeat (with_reducible refine And.intro ?_ ?_; · first | omega | decide | (simp; done) | (simp; omega) | (intro hh; refine ⟨hh, ?_⟩; omega) | (simp +contextual; done)))))
    refine cond_i (fun h2 => ?_) (fun h2 => ?_)
    · (try simp only [decide_eq_true_eq, decide_eq_false_iff_not, Bool.not_eq_true', Bool.not_eq_false', Bool.or_eq_true, Bool.and_eq_true, Bool.or_eq_false_iff, Bool.and_eq_false_iff, Int.not_lt, Int.not_le, Bool.not_true, Bool.not_false, not_and, not_or] at h2)
      (iterate 2 ((try simp (etaStruct := .none) only [push_cast, DrawG, Int.cast_ofNat_Int, Nat.reduceAdd, Nat.reduceSub, Nat.reduceMul, reduceCtorEq, reduceIte, Nat.reduceEqDiff, Nat.reduceLT, Nat.reduceLeDiff, Nat.reduceBEq, Int.reduceToNat, Int.reduceLE, Int.reduceLT, getD_in _ _ _ hlt, celP, cel_dec]); (try simp (disch := omega) only [wrap_in, wk_self, Int.tdiv_eq_ediv_of_nonneg, Int.tmod_eq_emod_of_nonneg]); (repeat (with_reducible refine And.intro ?_ ?_; · first | omega | decide | (simp; done) | (simp; omega) | (intro hh; refine ⟨hh, ?_⟩; omega) | (simp +contextual; done)))))
      exact ret0 rfl trivial (Wk.of (by rw [ixOf_hit (fun x => decide (v = x)) l k hlt (by rw [← getD_at _ _ hlt]; simpa using h2) hn]; rfl))
    · (try simp only [decide_eq_true_eq, decide_eq_false_iff_not, Bool.not_eq_true', Bool.not_eq_false', Bool.or_eq_true, Bool.and_eq_true, Bool.or_eq_false_iff, Bool.and_eq_false_iff, Int.not_lt, Int.not_le, Bool.not_true, Bool.not_false, not_and, not_or] at h2)
      (iterate 2 ((try simp (etaStruct := .none) only [push_cast, DrawG, Int.cast_ofNat_Int, Nat.reduceAdd, Nat.reduceSub, Nat.reduceMul, reduceCtorEq, reduceIte, Nat.reduceEqDiff, Nat.reduceLT, Nat.reduceLeDiff, Nat.reduceBEq, Int.reduceToNat, Int.reduceLE, Int.reduceLT, getD_in _ _ _ hlt, celP, cel_dec]); (try simp (disch := omega) only [wrap_in, wk_self, Int.tdiv_eq_ediv_of_nonneg, Int.tmod_eq_emod_of_nonneg]); (repeat (with_reducible refine And.intro ?_ ?_; · first | omega | decide | (simp; done) | (simp; omega) | (intro hh; refine ⟨hh, ?_⟩; omega) | (simp +contextual; done)))))
      refine ⟨k + 1, ⟨by omega, fun j hj hjk => by
  rcases Nat.lt_or_ge j k with h | h
  · simpa using hn j hj h
  · obtain rfl : j = k := by omega
    rw [← getD_at _ _ hj]; simpa using h2⟩, by omega, To.mk [0] rfl rfl (by decide) ?_ ?_⟩
      · (iterate 2 ((try simp (etaStruct := .none) only [push_cast, DrawG, Int.cast_ofNat_Int, Nat.reduceAdd, Nat.reduceSub, Nat.reduceMul, reduceCtorEq, reduceIte, Nat.reduceEqDiff, Nat.reduceLT, Nat.reduceLeDiff, Nat.reduceBEq, Int.reduceToNat, Int.reduceLE, Int.reduceLT, getD_in _ _ _ hlt, celP, cel_dec]); (try simp (disch := omega) only [wrap_in, wk_self, Int.tdiv_eq_ediv_of_nonneg, Int.tmod_eq_emod_of_nonneg]); (repeat (with_reducible refine And.intro ?_ ?_; · first | omega | decide | (simp; done) | (simp; omega) | (intro hh; refine ⟨hh, ?_⟩; omega) | (simp +contextual; done)))))
      · (iterate 2 ((try simp (etaStruct := .none) only [push_cast, DrawG, Int.cast_ofNat_Int, Nat.reduceAdd, Nat.reduceSub, Nat.reduceMul, reduceCtorEq, reduceIte, Nat.reduceEqDiff, Nat.reduceLT, Nat.reduceLeDiff, Nat.reduceBEq, Int.reduceToNat, Int.reduceLE, Int.reduceLT, getD_in _ _ _ hlt, celP, cel_dec]); (try simp (disch := omega) only [wrap_in, wk_self, Int.tdiv_eq_ediv_of_nonneg, Int.tmod_eq_emod_of_nonneg]); (repeat (with_reducible refine And.intro ?_ ?_; · first | omega | decide | (simp; done) | (simp; omega) | (intro hh; refine ⟨hh, ?_⟩; omega) | (simp +contextual; done)))))
  · (try simp only [decide_eq_true_eq, decide_eq_false_iff_not, Bool.not_eq_true', Bool.not_eq_false', Bool.or_eq_true, Bool.and_eq_true, Bool.or_eq_false_iff, Bool.and_eq_false_iff, Int.not_lt, Int.not_le, Bool.not_true, Bool.not_false, not_and, not_or] at h1)
    (try simp (etaStruct := .none) only [push_cast, DrawG, Int.cast_ofNat_Int, Nat.reduceAdd, Nat.reduceSub, Nat.reduceMul, reduceCtorEq, reduceIte, Nat.reduceEqDiff, Nat.reduceLT, Nat.reduceLeDiff, Nat.reduceBEq, Int.reduceToNat, Int.reduceLE, Int.reduceLT]); (try simp (disch := omega) only [wrap_in, wk_self, Int.tdiv_eq_ediv_of_nonneg, Int.tmod_eq_emod_of_nonneg]); (repeat (with_reducible refine And.intro ?_ ?_; · first | omega | decide | (simp; done) | (simp; omega) | (intro hh; refine ⟨hh, ?_⟩; omega) | (simp +contextual; done)))
    exact ret0 rfl trivial (Wk.of (by rw [ixOf_miss (fun x => decide (v = x)) l (fun j hj => hn j hj (by omega))]; rfl))
theorem cel_contains (l : List Cel) (v : Cel) (hl : l.length ≤ 9223372036854775807) : Spec Try.prog 256 [.c (.sl 2 (l.map celP)), celA v] [] (B (l.any (fun x => decide (v = x)))) [] := by
  refine spec_am Try.func256 rfl rfl mix 9 rfl [.tmp 4] Try.results256 (Nat.le_of_ble_eq_true rfl) ?_
  (iterate 2 ((try simp (etaStruct := .none) only [push_cast, DrawG, Int.cast_ofNat_Int, Nat.reduceAdd, Nat.reduceSub, Nat.reduceMul, reduceCtorEq, reduceIte, Nat.reduceEqDiff, Nat.reduceLT, Nat.reduceLeDiff, Nat.reduceBEq, Int.reduceToNat, Int.reduceLE, Int.reduceLT, ixOf_any]); (try simp (disch := omega) only [wrap_in, wk_self, Int.tdiv_eq_ediv_of_nonneg, Int.tmod_eq_emod_of_nonneg]); (repeat (with_reducible refine And.intro ?_ ?_; · first | omega | decide | (simp; done) | (simp; omega) | (intro hh; refine ⟨hh, ?_⟩; omega) | (simp +contextual; done)))))
  refine callP (cel_index l v hl) (WkL.refl _) ?_
  (iterate 2 ((try simp (etaStruct := .none) only [push_cast, DrawG, Int.cast_ofNat_Int, Nat.reduceAdd, Nat.reduceSub, Nat.reduceMul, reduceCtorEq, reduceIte, Nat.reduceEqDiff, Nat.reduceLT, Nat.reduceLeDiff, Nat.reduceBEq, Int.reduceToNat, Int.reduceLE, Int.reduceLT, ixOf_any]); (try simp (disch := omega) only [wrap_in, wk_self, Int.tdiv_eq_ediv_of_nonneg, Int.tmod_eq_emod_of_nonneg]); (repeat (with_reducible refine And.intro ?_ ?_; · first | omega | decide | (simp; done) | (simp; omega) | (intro hh; refine ⟨hh, ?_⟩; omega) | (simp +contextual; done)))))
  (first | (refine ret0 rfl (by repeat' (first | exact trivial | exact rfl | refine ⟨?_, ?_⟩)) (Wk.of ?_); (try simp (etaStruct := .none) only [push_cast, DrawG, Int.cast_ofNat_Int, Nat.reduceAdd, Nat.reduceSub, Nat.reduceMul, reduceCtorEq, reduceIte, Nat.reduceEqDiff, Nat.reduceLT, Nat.reduceLeDiff, Nat.reduceBEq, Int.reduceToNat, Int.reduceLE, Int.reduceLT]); first | done | (simp [*]; done) | (simp_all []; done)) | (refine ret0 rfl (by repeat' (first | exact trivial | exact rfl | refine ⟨?_, ?_⟩)) ?_; (try simp (etaStruct := .none) only [push_cast, DrawG, Int.cast_ofNat_Int, Nat.reduceAdd, Nat.reduceSub, Nat.reduceMul, reduceCtorEq, reduceIte, Nat.reduceEqDiff, Nat.reduceLT, Nat.reduceLeDiff, Nat.reduceBEq, Int.reduceToNat, Int.reduceLE, Int.reduceLT]); (try simp [*]); (try (first | exact Wk.refl _ | exact Wk.nil _ | (refine Wk.tup ?_; repeat' (first | exact trivial | exact Wk.refl _ | exact Wk.nil _ | refine ⟨?_, ?_⟩ | (refine Wk.agg ?_)))))))
theorem tground_s (f : Fld) (c : Cel) (h : fldE f = 0) (hl : f.p.length ≤ 9223372036854775807) : Spec Try.prog 255 [fldA f, celA c] [] (B (groundV f c)) [] := by
  refine spec_am Try.func255 rfl rfl mix 19 rfl [.tmp 4] Try.results255 (Nat.le_of_ble_eq_true rfl) ?_
  (try simp (etaStruct := .none) only [push_cast, DrawG, Int.cast_ofNat_Int, Nat.reduceAdd, Nat.reduceSub, Nat.reduceMul, reduceCtorEq, reduceIte, Nat.reduceEqDiff, Nat.reduceLT, Nat.reduceLeDiff, Nat.reduceBEq, Int.reduceToNat, Int.reduceLE, Int.reduceLT]); (try simp (disch := omega) only [wrap_in, wk_self, Int.tdiv_eq_ediv_of_nonneg, Int.tmod_eq_emod_of_nonneg]); (repeat (with_reducible refine And.intro ?_ ?_; · first | omega | decide | (simp; done) | (simp; omega) | (intro hh; refine ⟨hh, ?_⟩; omega) | (simp +contextual; done)))
  refine callP (at_s f c hl) (WkL.refl _) ?_
  (try simp (etaStruct := .none) only [push_cast, DrawG, Int.cast_ofNat_Int, Nat.reduceAdd, Nat.reduceSub, Nat.reduceMul, reduceCtorEq, reduceIte, Nat.reduceEqDiff, Nat.reduceLT, Nat.reduceLeDiff, Nat.reduceBEq, Int.reduceToNat, Int.reduceLE, Int.reduceLT]); (try simp (disch := omega) only [wrap_in, wk_self, Int.tdiv_eq_ediv_of_nonneg, Int.tmod_eq_emod_of_nonneg]); (repeat (with_reducible refine And.intro ?_ ?_; · first | omega | decide | (simp; done) | (simp; omega) | (intro hh; refine ⟨hh, ?_⟩; omega) | (simp +contextual; done)))
  exact ret0 rfl trivial (Wk.of (congrArg B (by unfold atV groundV; rw [if_neg (by simp [h])]; cases inF f c <;> simp)))
theorem twithin_s (n a b : Int) : Spec Try.prog 257 [I .i64 n, I .i64 a, I .i64 b] [] (B (within n a b)) [] := by
  refine spec_am Try.func257 rfl rfl mix 15 rfl [.tmp 6] Try.results257 (Nat.le_of_ble_eq_true rfl) ?_
  (try simp (etaStruct := .none) only [push_cast, DrawG, Int.cast_ofNat_Int, Nat.reduceAdd, Nat.reduceSub, Nat.reduceMul, reduceCtorEq, reduceIte, Nat.reduceEqDiff, Nat.reduceLT, Nat.reduceLeDiff, Nat.reduceBEq, Int.reduceToNat, Int.reduceLE, Int.reduceLT]); (try simp (disch := omega) only [wrap_in, wk_self, Int.tdiv_eq_ediv_of_nonneg, Int.tmod_eq_emod_of_nonneg]); (repeat (with_reducible refine And.intro ?_ ?_; · first | omega | decide | (simp; done) | (simp; omega) | (intro hh; refine ⟨hh, ?_⟩; omega) | (simp +contextual; done)))
  exact ret0 rfl trivial (Wk.of (congrArg B (by unfold within; first | rfl | simp)))
def kindE (k : Int) : Int := if k = 1 ∨ k = 2 then 0 else 1
theorem tkind_s (k : Int) : Spec Try.prog 258 [I .i64 k] [] (.tup [kndA (kindV k), I .i64 (kindE k)]) [] := by
  refine spec_am Try.func258 rfl rfl mix 12 rfl [.cell 2 242, .tmp 3] Try.results258 (Nat.le_of_ble_eq_true rfl) ?_
  (try simp (etaStruct := .none) only [push_cast, DrawG, Int.cast_ofNat_Int, Nat.reduceAdd, Nat.reduceSub, Nat.reduceMul, reduceCtorEq, reduceIte, Nat.reduceEqDiff, Nat.reduceLT, Nat.reduceLeDiff, Nat.reduceBEq, Int.reduceToNat, Int.reduceLE, Int.reduceLT]); (try simp (disch := omega) only [wrap_in, wk_self, Int.tdiv_eq_ediv_of_nonneg, Int.tmod_eq_emod_of_nonneg]); (repeat (with_reducible refine And.intro ?_ ?_; · first | omega | decide | (simp; done) | (simp; omega) | (intro hh; refine ⟨hh, ?_⟩; omega) | (simp +contextual; done)))
  refine cond_i (fun h1 => ?_) (fun h1 => ?_)
  · (try simp only [decide_eq_true_eq, decide_eq_false_iff_not, Bool.not_eq_true', Bool.not_eq_false', Bool.or_eq_true, Bool.and_eq_true, Bool.or_eq_false_iff, Bool.and_eq_false_iff, Int.not_lt, Int.not_le, Bool.not_true, Bool.not_false, not_and, not_or] at h1)
    (try simp (etaStruct := .none) only [push_cast, DrawG, Int.cast_ofNat_Int, Nat.reduceAdd, Nat.reduceSub, Nat.reduceMul, reduceCtorEq, reduceIte, Nat.reduceEqDiff, Nat.reduceLT, Nat.reduceLeDiff, Nat.reduceBEq, Int.reduceToNat, Int.reduceLE, Int.reduceLT]); (try simp (disch := omega) only [wrap_in, wk_self, Int.tdiv_eq_ediv_of_nonneg, Int.tmod_eq_emod_of_nonneg]); (repeat (with_reducible refine And.intro ?_ ?_; · first | omega | decide | (simp; done) | (simp; omega) | (intro hh; refine ⟨hh, ?_⟩; omega) | (simp +contextual; done)))
    (first | (refine ret0 rfl (by repeat' (first | exact trivial | exact rfl | refine ⟨?_, ?_⟩)) (Wk.of ?_); (try simp (etaStruct := .none) only [push_cast, DrawG, Int.cast_ofNat_Int, Nat.reduceAdd, Nat.reduceSub, Nat.reduceMul, reduceCtorEq, reduceIte, Nat.reduceEqDiff, Nat.reduceLT, Nat.reduceLeDiff, Nat.reduceBEq, Int.reduceToNat, Int.reduceLE, Int.reduceLT]); first | done | (simp [kindV, kindE, *]; done) | (simp_all [kindV, kindE]; done)) | (refine ret0 rfl (by repeat' (first | exact trivial | exact rfl | refine ⟨?_, ?_⟩)) ?_; (try simp (etaStruct := .none) only [push_cast, DrawG, Int.cast_ofNat_Int, Nat.reduceAdd, Nat.reduceSub, Nat.reduceMul, reduceCtorEq, reduceIte, Nat.reduceEqDiff, Nat.reduceLT, Nat.reduceLeDiff, Nat.reduceBEq, Int.reduceToNat, Int.reduceLE, Int.reduceLT]); (try simp [kindV, kindE, *]); (try (first | exact Wk.refl _ | exact Wk.nil _ | (refine Wk.tup ?_; repeat' (first | exact trivial | exact Wk.refl _ | exact Wk.nil _ | refine ⟨?_, ?_⟩ | (refine Wk.agg ?_)))))))
  · (try simp only [decide_eq_true_eq, decide_eq_false_iff_not, Bool.not_eq_true', Bool.not_eq_false', Bool.or_eq_true, Bool.and_eq_true, Bool.or_eq_false_iff, Bool.and_eq_false_iff, Int.not_lt, Int.not_le, Bool.not_true, Bool.not_false, not_and, not_or] at h1)
    (try simp (etaStruct := .none) only [push_cast, DrawG, Int.cast_ofNat_Int, Nat.reduceAdd, Nat.reduceSub, Nat.reduceMul, reduceCtorEq, reduceIte, Nat.reduceEqDiff, Nat.reduceLT, Nat.reduceLeDiff, Nat.reduceBEq, Int.reduceToNat, Int.reduceLE, Int.reduceLT]); (try simp (disch := omega) only [wrap_in, wk_self, Int.tdiv_eq_ediv_of_nonneg, Int.tmod_eq_emod_of_nonneg]); (repeat (with_reducible refine And.intro ?_ ?_; · first | omega | decide | (simp; done) | (simp; omega) | (intro hh; refine ⟨hh, ?_⟩; omega) | (simp +contextual; done)))
    refine cond_i (fun h2 => ?_) (fun h2 => ?_)
    · (try simp only [decide_eq_true_eq, decide_eq_false_iff_not, Bool.not_eq_true', Bool.not_eq_false', Bool.or_eq_true, Bool.and_eq_true, Bool.or_eq_false_iff, Bool.and_eq_false_iff, Int.not_lt, Int.not_le, Bool.not_true, Bool.not_false, not_and, not_or] at h2)
      (try simp (etaStruct := .none) only [push_cast, DrawG, Int.cast_ofNat_Int, Nat.reduceAdd, Nat.reduceSub, Nat.reduceMul, reduceCtorEq, reduceIte, Nat.reduceEqDiff, Nat.reduceLT, Nat.reduceLeDiff, Nat.reduceBEq, Int.reduceToNat, Int.reduceLE, Int.reduceLT]); (try simp (disch := omega) only [wrap_in, wk_self, Int.tdiv_eq_ediv_of_nonneg, Int.tmod_eq_emod_of_nonneg]); (repeat (with_reducible refine And.intro ?_ ?_; · first | omega | decide | (simp; done) | (simp; omega) | (intro hh; refine ⟨hh, ?_⟩; omega) | (simp +contextual; done)))
      (first | (refine ret0 rfl (by repeat' (first | exact trivial | exact rfl | refine ⟨?_, ?_⟩)) (Wk.of ?_); (try simp (etaStruct := .none) only [push_cast, DrawG, Int.cast_ofNat_Int, Nat.reduceAdd, Nat.reduceSub, Nat.reduceMul, reduceCtorEq, reduceIte, Nat.reduceEqDiff, Nat.reduceLT, Nat.reduceLeDiff, Nat.reduceBEq, Int.reduceToNat, Int.reduceLE, Int.reduceLT]); first | done | (simp [kindV, kindE, *]; done) | (simp_all [kindV, kindE]; done)) | (refine ret0 rfl (by repeat' (first | exact trivial | exact rfl | refine ⟨?_, ?_⟩)) ?_; (try simp (etaStruct := .none) only [push_cast, DrawG, Int.cast_ofNat_Int, Nat.reduceAdd, Nat.reduceSub, Nat.reduceMul, reduceCtorEq, reduceIte, Nat.reduceEqDiff, Nat.reduceLT, Nat.reduceLeDiff, Nat.reduceBEq, Int.reduceToNat, Int.reduceLE, Int.reduceLT]); (try simp [kindV, kindE, *]); (try (first | exact Wk.refl _ | exact Wk.nil _ | (refine Wk.tup ?_; repeat' (first | exact trivial | exact Wk.refl _ | exact Wk.nil _ | refine ⟨?_, ?_⟩ | (refine Wk.agg ?_)))))))
    · (try simp only [decide_eq_true_eq, decide_eq_false_iff_not, Bool.not_eq_true', Bool.not_eq_false', Bool.or_eq_true, Bool.and_eq_true, Bool.or_eq_false_iff, Bool.and_eq_false_iff, Int.not_lt, Int.not_le, Bool.not_true, Bool.not_false, not_and, not_or] at h2)
      (try simp (etaStruct := .none) only [push_cast, DrawG, Int.cast_ofNat_Int, Nat.reduceAdd, Nat.reduceSub, Nat.reduceMul, reduceCtorEq, reduceIte, Nat.reduceEqDiff, Nat.reduceLT, Nat.reduceLeDiff, Nat.reduceBEq, Int.reduceToNat, Int.reduceLE, Int.reduceLT]); (try simp (disch := omega) only [wrap_in, wk_self, Int.tdiv_eq_ediv_of_nonneg, Int.tmod_eq_emod_of_nonneg]); (repeat (with_reducible refine And.intro ?_ ?_; · first | omega | decide | (simp; done) | (simp; omega) | (intro hh; refine ⟨hh, ?_⟩; omega) | (simp +contextual; done)))
      (first | (refine ret0 rfl (by repeat' (first | exact trivial | exact rfl | refine ⟨?_, ?_⟩)) (Wk.of ?_); (try simp (etaStruct := .none) only [push_cast, DrawG, Int.cast_ofNat_Int, Nat.reduceAdd, Nat.reduceSub, Nat.reduceMul, reduceCtorEq, reduceIte, Nat.reduceEqDiff, Nat.reduceLT, Nat.reduceLeDiff, Nat.reduceBEq, Int.reduceToNat, Int.reduceLE, Int.reduceLT]); first | done | (simp [kindV, kindE, *]; done) | (simp_all [kindV, kindE]; done)) | (refine ret0 rfl (by repeat' (first | exact trivial | exact rfl | refine ⟨?_, ?_⟩)) ?_; (try simp (etaStruct := .none) only [push_cast, DrawG, Int.cast_ofNat_Int, Nat.reduceAdd, Nat.reduceSub, Nat.reduceMul, reduceCtorEq, reduceIte, Nat.reduceEqDiff, Nat.reduceLT, Nat.reduceLeDiff, Nat.reduceBEq, Int.reduceToNat, Int.reduceLE, Int.reduceLT]); (try simp [kindV, kindE, *]); (try (first | exact Wk.refl _ | exact Wk.nil _ | (refine Wk.tup ?_; repeat' (first | exact trivial | exact Wk.refl _ | exact Wk.nil _ | refine ⟨?_, ?_⟩ | (refine Wk.agg ?_)))))))
theorem base_any (w : Wld) (i : Nat) (hi : i < w.bases.length) : ((w.bases.take i).any fun x => decide (w.bases.getD i default = x)) = !allN (fun j => !decide (w.bases.getD j default = w.bases.getD i default)) i := by
  rw [Bool.eq_iff_iff, Bool.not_eq_true', ← Bool.not_eq_true, allN_iff, List.any_eq_true]
  constructor
  · rintro ⟨x, hx, h⟩ hh
    obtain ⟨j, hj, rfl⟩ := List.getElem_of_mem hx
    rw [List.length_take] at hj
    have := hh j (by omega)
    rw [List.getElem_take] at h
    rw [getD_at _ _ (by omega)] at this
    simp only [decide_eq_true_eq] at h
    simp only [Bool.not_eq_true', decide_eq_false_iff_not] at this
    exact this h.symm
  · intro hh
    apply Classical.byContradiction
    intro hn
    apply hh
    intro j hj
    simp only [Bool.not_eq_true', decide_eq_false_iff_not]
    intro he
    apply hn
    refine ⟨w.bases.getD j default, ?_, decide_eq_true he.symm⟩
    rw [getD_at _ _ (by omega)]
    exact List.mem_take_iff_getElem.2 ⟨j, by omega, rfl⟩
def playersV (w : Wld) : Bool := decide (w.stocks.length = w.bases.length) && allN (baseB w) w.bases.length
def minesV (w : Wld) : Bool := decide (w.mines.length = w.f.p.length) && allN (mineB w) w.mines.length
def troopsV (w : Wld) : Bool := within w.next 1 1000000 && within w.now 0 1000000 && allN (troopB w) w.troops.length
theorem ptm (w : Wld) : (playersV w && minesV w && troopsV w) = (worldF w && worldB w) := by
  unfold playersV minesV troopsV worldF worldB
  cases decide (w.stocks.length = w.bases.length) <;> cases decide (w.mines.length = w.f.p.length) <;> cases within w.next 1 1000000 <;> cases within w.now 0 1000000 <;> simp
theorem allN_not {p : Nat → Bool} {n k : Nat} (h : k < n) (hp : p k = false) : allN p n = false := by
  rw [← Bool.not_eq_true, allN_iff]; intro hh
  have := hh k h
  rw [hp] at this; simp at this
theorem tplayers_s (w : Wld) (hl : wldL w) (hf : fldE w.f = 0) : Spec Try.prog 212 [wldA w] [] (B (playersV w)) [] := by
  obtain ⟨l1, l2, l3, l4, l5⟩ := hl
  refine spec_am Try.func212 rfl rfl mix 43 rfl [.tmp 2] Try.results212 (Nat.le_of_ble_eq_true rfl) ?_
  (try simp (etaStruct := .none) only [push_cast, DrawG, Int.cast_ofNat_Int, Nat.reduceAdd, Nat.reduceSub, Nat.reduceMul, reduceCtorEq, reduceIte, Nat.reduceEqDiff, Nat.reduceLT, Nat.reduceLeDiff, Nat.reduceBEq, Int.reduceToNat, Int.reduceLE, Int.reduceLT]); (try simp (disch := omega) only [wrap_in, wk_self, Int.tdiv_eq_ediv_of_nonneg, Int.tmod_eq_emod_of_nonneg]); (repeat (with_reducible refine And.intro ?_ ?_; · first | omega | decide | (simp; done) | (simp; omega) | (intro hh; refine ⟨hh, ?_⟩; omega) | (simp +contextual; done)))
  refine cond_i (fun h1 => ?_) (fun h1 => ?_)
  · (try simp only [decide_eq_true_eq, decide_eq_false_iff_not, Bool.not_eq_true', Bool.not_eq_false', Bool.or_eq_true, Bool.and_eq_true, Bool.or_eq_false_iff, Bool.and_eq_false_iff, Int.not_lt, Int.not_le, Bool.not_true, Bool.not_false, not_and, not_or] at h1)
    have e : playersV w = false := by unfold playersV; rw [decide_eq_false (by omega)]; rfl
    (try simp (etaStruct := .none) only [push_cast, DrawG, Int.cast_ofNat_Int, Nat.reduceAdd, Nat.reduceSub, Nat.reduceMul, reduceCtorEq, reduceIte, Nat.reduceEqDiff, Nat.reduceLT, Nat.reduceLeDiff, Nat.reduceBEq, Int.reduceToNat, Int.reduceLE, Int.reduceLT]); (try simp (disch := omega) only [wrap_in, wk_self, Int.tdiv_eq_ediv_of_nonneg, Int.tmod_eq_emod_of_nonneg]); (repeat (with_reducible refine And.intro ?_ ?_; · first | omega | decide | (simp; done) | (simp; omega) | (intro hh; refine ⟨hh, ?_⟩; omega) | (simp +contextual; done)))
    (first | (refine ret0 rfl (by repeat' (first | exact trivial | exact rfl | refine ⟨?_, ?_⟩)) (Wk.of ?_); (try simp (etaStruct := .none) only [push_cast, DrawG, Int.cast_ofNat_Int, Nat.reduceAdd, Nat.reduceSub, Nat.reduceMul, reduceCtorEq, reduceIte, Nat.reduceEqDiff, Nat.reduceLT, Nat.reduceLeDiff, Nat.reduceBEq, Int.reduceToNat, Int.reduceLE, Int.reduceLT]); first | done | (simp [e, *]; done) | (simp_all [e]; done)) | (refine ret0 rfl (by repeat' (first | exact trivial | exact rfl | refine ⟨?_, ?_⟩)) ?_; (try simp (etaStruct := .none) only [push_cast, DrawG, Int.cast_ofNat_Int, Nat.reduceAdd, Nat.reduceSub, Nat.reduceMul, reduceCtorEq, reduceIte, Nat.reduceEqDiff, Nat.reduceLT, Nat.reduceLeDiff, Nat.reduceBEq, Int.reduceToNat, Int.reduceLE, Int.reduceLT]); (try simp [e, *]); (try (first | exact Wk.refl _ | exact Wk.nil _ | (refine Wk.tup ?_; repeat' (first | exact trivial | exact Wk.refl _ | exact Wk.nil _ | refine ⟨?_, ?_⟩ | (refine Wk.agg ?_)))))))
  · (try simp only [decide_eq_true_eq, decide_eq_false_iff_not, Bool.not_eq_true', Bool.not_eq_false', Bool.or_eq_true, Bool.and_eq_true, Bool.or_eq_false_iff, Bool.and_eq_false_iff, Int.not_lt, Int.not_le, Bool.not_true, Bool.not_false, not_and, not_or] at h1)
    have hls : w.stocks.length = w.bases.length := by omega
    (try simp (etaStruct := .none) only [push_cast, DrawG, Int.cast_ofNat_Int, Nat.reduceAdd, Nat.reduceSub, Nat.reduceMul, reduceCtorEq, reduceIte, Nat.reduceEqDiff, Nat.reduceLT, Nat.reduceLeDiff, Nat.reduceBEq, Int.reduceToNat, Int.reduceLE, Int.reduceLT]); (try simp (disch := omega) only [wrap_in, wk_self, Int.tdiv_eq_ediv_of_nonneg, Int.tmod_eq_emod_of_nonneg]); (repeat (with_reducible refine And.intro ?_ ?_; · first | omega | decide | (simp; done) | (simp; omega) | (intro hh; refine ⟨hh, ?_⟩; omega) | (simp +contextual; done)))
    refine loopI (fun k : Nat => ⟨[(15, I .i64 k), (14, I .i64 w.bases.length), (13, .c (.sl 2 (w.bases.map celP))), (1, .ptr 0 0 0)], [(0, .blk 91 (wldC w))], 1⟩) (fun k : Nat => k ≤ w.bases.length ∧ allN (baseB w) k = true) (fun k : Nat => w.bases.length - k) (0) (⟨Nat.zero_le _, rfl⟩) (To.mk [0] rfl rfl (by decide) ?_ ?_) ?_
    · simp (etaStruct := .none) only [push_cast, DrawG, Int.cast_ofNat_Int, Nat.reduceAdd, Nat.reduceSub, Nat.reduceMul, reduceCtorEq, reduceIte, Nat.reduceEqDiff, Nat.reduceLT, Nat.reduceLeDiff, Nat.reduceBEq, Int.reduceToNat, Int.reduceLE, Int.reduceLT]
    · simp (etaStruct := .none) only [push_cast, DrawG, Int.cast_ofNat_Int, Nat.reduceAdd, Nat.reduceSub, Nat.reduceMul, reduceCtorEq, reduceIte, Nat.reduceEqDiff, Nat.reduceLT, Nat.reduceLeDiff, Nat.reduceBEq, Int.reduceToNat, Int.reduceLE, Int.reduceLT]
    rintro k ⟨hk, hn⟩
    (try simp (etaStruct := .none) only [push_cast, DrawG, Int.cast_ofNat_Int, Nat.reduceAdd, Nat.reduceSub, Nat.reduceMul, reduceCtorEq, reduceIte, Nat.reduceEqDiff, Nat.reduceLT, Nat.reduceLeDiff, Nat.reduceBEq, Int.reduceToNat, Int.reduceLE, Int.reduceLT]); (try simp (disch := omega) only [wrap_in, wk_self, Int.tdiv_eq_ediv_of_nonneg, Int.tmod_eq_emod_of_nonneg]); (repeat (with_reducible refine And.intro ?_ ?_; · first | omega | decide | (simp; done) | (simp; omega) | (intro hh; refine ⟨hh, ?_⟩; omega) | (simp +contextual; done)))
    refine cond_i (fun h2 => ?_) (fun h2 => ?_)
    · (try simp only [decide_eq_true_eq, decide_eq_false_iff_not, Bool.not_eq_true', Bool.not_eq_false', Bool.or_eq_true, Bool.and_eq_true, Bool.or_eq_false_iff, Bool.and_eq_false_iff, Int.not_lt, Int.not_le, Bool.not_true, Bool.not_false, not_and, not_or] at h2)
      have hlt : k < w.bases.length := by omega
      have hlt2 : k < w.stocks.length := by omega
      have et : (w.bases.map celP).take k = (w.bases.take k).map celP := by rw [List.map_take]
      have ba := base_any w k hlt
      (iterate 2 ((try simp (etaStruct := .none) only [push_cast, DrawG, Int.cast_ofNat_Int, Nat.reduceAdd, Nat.reduceSub, Nat.reduceMul, reduceCtorEq, reduceIte, Nat.reduceEqDiff, Nat.reduceLT, Nat.reduceLeDiff, Nat.reduceBEq, Int.reduceToNat, Int.reduceLE, Int.reduceLT, getD_in _ _ _ hlt, celP, getD_in _ _ _ hlt2, i64P, et]); (try simp (disch := omega) only [wrap_in, wk_self, Int.tdiv_eq_ediv_of_nonneg, Int.tmod_eq_emod_of_nonneg]); (repeat (with_reducible refine And.intro ?_ ?_; · first | omega | decide | (simp; done) | (simp; omega) | (intro hh; refine ⟨hh, ?_⟩; omega) | (simp +contextual; done)))))
      refine callP (tground_s w.f (w.bases.getD k default) hf l1) (WkL.refl _) ?_
      (iterate 2 ((try simp (etaStruct := .none) only [push_cast, DrawG, Int.cast_ofNat_Int, Nat.reduceAdd, Nat.reduceSub, Nat.reduceMul, reduceCtorEq, reduceIte, Nat.reduceEqDiff, Nat.reduceLT, Nat.reduceLeDiff, Nat.reduceBEq, Int.reduceToNat, Int.reduceLE, Int.reduceLT, getD_in _ _ _ hlt, celP, getD_in _ _ _ hlt2, i64P, et]); (try simp (disch := omega) only [wrap_in, wk_self, Int.tdiv_eq_ediv_of_nonneg, Int.tmod_eq_emod_of_nonneg]); (repeat (with_reducible refine And.intro ?_ ?_; · first | omega | decide | (simp; done) | (simp; omega) | (intro hh; refine ⟨hh, ?_⟩; omega) | (simp +contextual; done)))))
      refine gcallP (fun hcc => cel_contains (w.bases.take k) (w.bases.getD k default) (by rw [List.length_take]; omega)) (WkL.refl _) (by intro hc; (try simp (etaStruct := .none) only [push_cast, DrawG, Int.cast_ofNat_Int, Nat.reduceAdd, Nat.reduceSub, Nat.reduceMul, reduceCtorEq, reduceIte, Nat.reduceEqDiff, Nat.reduceLT, Nat.reduceLeDiff, Nat.reduceBEq, Int.reduceToNat, Int.reduceLE, Int.reduceLT]); (try simp_all)) ?_
      (iterate 2 ((try simp (etaStruct := .none) only [push_cast, DrawG, Int.cast_ofNat_Int, Nat.reduceAdd, Nat.reduceSub, Nat.reduceMul, reduceCtorEq, reduceIte, Nat.reduceEqDiff, Nat.reduceLT, Nat.reduceLeDiff, Nat.reduceBEq, Int.reduceToNat, Int.reduceLE, Int.reduceLT, getD_in _ _ _ hlt, celP, getD_in _ _ _ hlt2, i64P, et]); (try simp (disch := omega) only [wrap_in, wk_self, Int.tdiv_eq_ediv_of_nonneg, Int.tmod_eq_emod_of_nonneg]); (repeat (with_reducible refine And.intro ?_ ?_; · first | omega | decide | (simp; done) | (simp; omega) | (intro hh; refine ⟨hh, ?_⟩; omega) | (simp +contextual; done)))))
      refine gcallP (fun hcc => twithin_s (w.stocks.getD k default) 0 1000000) (WkL.refl _) (by intro hc; (try simp (etaStruct := .none) only [push_cast, DrawG, Int.cast_ofNat_Int, Nat.reduceAdd, Nat.reduceSub, Nat.reduceMul, reduceCtorEq, reduceIte, Nat.reduceEqDiff, Nat.reduceLT, Nat.reduceLeDiff, Nat.reduceBEq, Int.reduceToNat, Int.reduceLE, Int.reduceLT]); (try simp_all)) ?_
      (iterate 2 ((try simp (etaStruct := .none) only [push_cast, DrawG, Int.cast_ofNat_Int, Nat.reduceAdd, Nat.reduceSub, Nat.reduceMul, reduceCtorEq, reduceIte, Nat.reduceEqDiff, Nat.reduceLT, Nat.reduceLeDiff, Nat.reduceBEq, Int.reduceToNat, Int.reduceLE, Int.reduceLT, getD_in _ _ _ hlt, celP, getD_in _ _ _ hlt2, i64P, et]); (try simp (disch := omega) only [wrap_in, wk_self, Int.tdiv_eq_ediv_of_nonneg, Int.tmod_eq_emod_of_nonneg]); (repeat (with_reducible refine And.intro ?_ ?_; · first | omega | decide | (simp; done) | (simp; omega) | (intro hh; refine ⟨hh, ?_⟩; omega) | (simp +contextual; done)))))
      (try (refine ⟨by kernel_rfl, ?_⟩))
      (iterate 2 ((try simp (etaStruct := .none) only [push_cast, DrawG, Int.cast_ofNat_Int, Nat.reduceAdd, Nat.reduceSub, Nat.reduceMul, reduceCtorEq, reduceIte, Nat.reduceEqDiff, Nat.reduceLT, Nat.reduceLeDiff, Nat.reduceBEq, Int.reduceToNat, Int.reduceLE, Int.reduceLT, getD_in _ _ _ hlt, celP, getD_in _ _ _ hlt2, i64P, et]); (try simp (disch := omega) only [wrap_in, wk_self, Int.tdiv_eq_ediv_of_nonneg, Int.tmod_eq_emod_of_nonneg]); (repeat (with_reducible refine And.intro ?_ ?_; · first | omega | decide | (simp; done) | (simp; omega) | (intro hh; refine ⟨hh, ?_⟩; omega) | (simp +contextual; done)))))
      refine cond_i (fun h3 => ?_) (fun h3 => ?_)
      · (try simp only [decide_eq_true_eq, decide_eq_false_iff_not, Bool.not_eq_true', Bool.not_eq_false', Bool.or_eq_true, Bool.and_eq_true, Bool.or_eq_false_iff, Bool.and_eq_false_iff, Int.not_lt, Int.not_le, Bool.not_true, Bool.not_false, not_and, not_or] at h3)
        have e0 : baseB w k = false := by
          unfold baseB
          rw [ba] at h3
          rcases h3 with (h | h) | h
          · rw [h]; rfl
          · have h' : allN (fun j => !decide (w.bases.getD j default = w.bases.getD k default)) k = false := by simpa using h
            rw [h']; simp
          · rw [h]; simp
        have e : playersV w = false := by unfold playersV; rw [allN_not hlt e0]; simp
        (iterate 2 ((try simp (etaStruct := .none) only [push_cast, DrawG, Int.cast_ofNat_Int, Nat.reduceAdd, Nat.reduceSub, Nat.reduceMul, reduceCtorEq, reduceIte, Nat.reduceEqDiff, Nat.reduceLT, Nat.reduceLeDiff, Nat.reduceBEq, Int.reduceToNat, Int.reduceLE, Int.reduceLT, getD_in _ _ _ hlt, celP, getD_in _ _ _ hlt2, i64P, et]); (try simp (disch := omega) only [wrap_in, wk_self, Int.tdiv_eq_ediv_of_nonneg, Int.tmod_eq_emod_of_nonneg]); (repeat (with_reducible refine And.intro ?_ ?_; · first | omega | decide | (simp; done) | (simp; omega) | (intro hh; refine ⟨hh, ?_⟩; omega) | (simp +contextual; done)))))
        (first | (refine ret0 rfl (by repeat' (first | exact trivial | exact rfl | refine ⟨?_, ?_⟩)) (Wk.of ?_); (try simp (etaStruct := .none) only [push_cast, DrawG, Int.cast_ofNat_Int, Nat.reduceAdd, Nat.reduceSub, Nat.reduceMul, reduceCtorEq, reduceIte, Nat.reduceEqDiff, Nat.reduceLT, Nat.reduceLeDiff, Nat.reduceBEq, Int.reduceToNat, Int.reduceLE, Int.reduceLT]); first | done | (simp [e, *]; done) | (simp_all [e]; done)) | (refine ret0 rfl (by repeat' (first | exact trivial | exact rfl | refine ⟨?_, ?_⟩)) ?_; (try simp (etaStruct := .none) only [push_cast, DrawG, Int.cast_ofNat_Int, Nat.reduceAdd, Nat.reduceSub, Nat.reduceMul, reduceCtorEq, reduceIte, Nat.reduceEqDiff, Nat.reduceLT, Nat.reduceLeDiff, Nat.reduceBEq, Int.reduceToNat, Int.reduceLE, Int.reduceLT]); (try simp [e, *]); (try (first | exact Wk.refl _ | exact Wk.nil _ | (refine Wk.tup ?_; repeat' (first | exact trivial | exact Wk.refl _ | exact Wk.nil _ | refine ⟨?_, ?_⟩ | (refine Wk.agg ?_)))))))
      · (try simp only [decide_eq_true_eq, decide_eq_false_iff_not, Bool.not_eq_true', Bool.not_eq_false', Bool.or_eq_true, Bool.and_eq_true, Bool.or_eq_false_iff, Bool.and_eq_false_iff, Int.not_lt, Int.not_le, Bool.not_true, Bool.not_false, not_and, not_or] at h3)
        have e0 : baseB w k = true := by
          unfold baseB
          rw [ba] at h3
          rw [h3.1.1, h3.2]
          simpa using h3.1.2
        (iterate 2 ((try simp (etaStruct := .none) only [push_cast, DrawG, Int.cast_ofNat_Int, Nat.reduceAdd, Nat.reduceSub, Nat.reduceMul, reduceCtorEq, reduceIte, Nat.reduceEqDiff, Nat.reduceLT, Nat.reduceLeDiff, Nat.reduceBEq, Int.reduceToNat, Int.reduceLE, Int.reduceLT, getD_in _ _ _ hlt, celP, getD_in _ _ _ hlt2, i64P, et]); (try simp (disch := omega) only [wrap_in, wk_self, Int.tdiv_eq_ediv_of_nonneg, Int.tmod_eq_emod_of_nonneg]); (repeat (with_reducible refine And.intro ?_ ?_; · first | omega | decide | (simp; done) | (simp; omega) | (intro hh; refine ⟨hh, ?_⟩; omega) | (simp +contextual; done)))))
        refine ⟨k + 1, ⟨by omega, by rw [allN, hn, e0]; rfl⟩, by omega, To.mk [0] rfl rfl (by decide) ?_ ?_⟩
        · (iterate 2 ((try simp (etaStruct := .none) only [push_cast, DrawG, Int.cast_ofNat_Int, Nat.reduceAdd, Nat.reduceSub, Nat.reduceMul, reduceCtorEq, reduceIte, Nat.reduceEqDiff, Nat.reduceLT, Nat.reduceLeDiff, Nat.reduceBEq, Int.reduceToNat, Int.reduceLE, Int.reduceLT, getD_in _ _ _ hlt, celP, getD_in _ _ _ hlt2, i64P, et]); (try simp (disch := omega) only [wrap_in, wk_self, Int.tdiv_eq_ediv_of_nonneg, Int.tmod_eq_emod_of_nonneg]); (repeat (with_reducible refine And.intro ?_ ?_; · first | omega | decide | (simp; done) | (simp; omega) | (intro hh; refine ⟨hh, ?_⟩; omega) | (simp +contextual; done)))))
        · (iterate 2 ((try simp (etaStruct := .none) only [push_cast, DrawG, Int.cast_ofNat_Int, Nat.reduceAdd, Nat.reduceSub, Nat.reduceMul, reduceCtorEq, reduceIte, Nat.reduceEqDiff, Nat.reduceLT, Nat.reduceLeDiff, Nat.reduceBEq, Int.reduceToNat, Int.reduceLE, Int.reduceLT, getD_in _ _ _ hlt, celP, getD_in _ _ _ hlt2, i64P, et]); (try simp (disch := omega) only [wrap_in, wk_self, Int.tdiv_eq_ediv_of_nonneg, Int.tmod_eq_emod_of_nonneg]); (repeat (with_reducible refine And.intro ?_ ?_; · first | omega | decide | (simp; done) | (simp; omega) | (intro hh; refine ⟨hh, ?_⟩; omega) | (simp +contextual; done)))))
    · (try simp only [decide_eq_true_eq, decide_eq_false_iff_not, Bool.not_eq_true', Bool.not_eq_false', Bool.or_eq_true, Bool.and_eq_true, Bool.or_eq_false_iff, Bool.and_eq_false_iff, Int.not_lt, Int.not_le, Bool.not_true, Bool.not_false, not_and, not_or] at h2)
      obtain rfl : k = w.bases.length := by omega
      have e : playersV w = true := by unfold playersV; rw [decide_eq_true hls, hn]; rfl
      (try simp (etaStruct := .none) only [push_cast, DrawG, Int.cast_ofNat_Int, Nat.reduceAdd, Nat.reduceSub, Nat.reduceMul, reduceCtorEq, reduceIte, Nat.reduceEqDiff, Nat.reduceLT, Nat.reduceLeDiff, Nat.reduceBEq, Int.reduceToNat, Int.reduceLE, Int.reduceLT]); (try simp (disch := omega) only [wrap_in, wk_self, Int.tdiv_eq_ediv_of_nonneg, Int.tmod_eq_emod_of_nonneg]); (repeat (with_reducible refine And.intro ?_ ?_; · first | omega | decide | (simp; done) | (simp; omega) | (intro hh; refine ⟨hh, ?_⟩; omega) | (simp +contextual; done)))
      (first | (refine ret0 rfl (by repeat' (first | exact trivial | exact rfl | refine ⟨?_, ?_⟩)) (Wk.of ?_); (try simp (etaStruct := .none) only [push_cast, DrawG, Int.cast_ofNat_Int, Nat.reduceAdd, Nat.reduceSub, Nat.reduceMul, reduceCtorEq, reduceIte, Nat.reduceEqDiff, Nat.reduceLT, Nat.reduceLeDiff, Nat.reduceBEq, Int.reduceToNat, Int.reduceLE, Int.reduceLT]); first | done | (simp [e, *]; done) | (simp_all [e]; done)) | (refine ret0 rfl (by repeat' (first | exact trivial | exact rfl | refine ⟨?_, ?_⟩)) ?_; (try simp (etaStruct := .none) only [push_cast, DrawG, Int.cast_ofNat_Int, Nat.reduceAdd, Nat.reduceSub, Nat.reduceMul, reduceCtorEq, reduceIte, Nat.reduceEqDiff, Nat.reduceLT, Nat.reduceLeDiff, Nat.reduceBEq, Int.reduceToNat, Int.reduceLE, Int.reduceLT]); (try simp [e, *]); (try (first | exact Wk.refl _ | exact Wk.nil _ | (refine Wk.tup ?_; repeat' (first | exact trivial | exact Wk.refl _ | exact Wk.nil _ | refine ⟨?_, ?_⟩ | (refine Wk.agg ?_)))))))
theorem tmines_s (w : Wld) (hl : wldL w) : Spec Try.prog 213 [wldA w] [] (B (minesV w)) [] := by
  obtain ⟨l1, l2, l3, l4, l5⟩ := hl
  refine spec_am Try.func213 rfl rfl mix 38 rfl [.tmp 2] Try.results213 (Nat.le_of_ble_eq_true rfl) ?_
  (try simp (etaStruct := .none) only [push_cast, DrawG, Int.cast_ofNat_Int, Nat.reduceAdd, Nat.reduceSub, Nat.reduceMul, reduceCtorEq, reduceIte, Nat.reduceEqDiff, Nat.reduceLT, Nat.reduceLeDiff, Nat.reduceBEq, Int.reduceToNat, Int.reduceLE, Int.reduceLT]); (try simp (disch := omega) only [wrap_in, wk_self, Int.tdiv_eq_ediv_of_nonneg, Int.tmod_eq_emod_of_nonneg]); (repeat (with_reducible refine And.intro ?_ ?_; · first | omega | decide | (simp; done) | (simp; omega) | (intro hh; refine ⟨hh, ?_⟩; omega) | (simp +contextual; done)))
  refine cond_i (fun h1 => ?_) (fun h1 => ?_)
  · (try simp only [decide_eq_true_eq, decide_eq_false_iff_not, Bool.not_eq_true', Bool.not_eq_false', Bool.or_eq_true, Bool.and_eq_true, Bool.or_eq_false_iff, Bool.and_eq_false_iff, Int.not_lt, Int.not_le, Bool.not_true, Bool.not_false, not_and, not_or] at h1)
    have e : minesV w = false := by unfold minesV; rw [decide_eq_false (by omega)]; rfl
    (try simp (etaStruct := .none) only [push_cast, DrawG, Int.cast_ofNat_Int, Nat.reduceAdd, Nat.reduceSub, Nat.reduceMul, reduceCtorEq, reduceIte, Nat.reduceEqDiff, Nat.reduceLT, Nat.reduceLeDiff, Nat.reduceBEq, Int.reduceToNat, Int.reduceLE, Int.reduceLT]); (try simp (disch := omega) only [wrap_in, wk_self, Int.tdiv_eq_ediv_of_nonneg, Int.tmod_eq_emod_of_nonneg]); (repeat (with_reducible refine And.intro ?_ ?_; · first | omega | decide | (simp; done) | (simp; omega) | (intro hh; refine ⟨hh, ?_⟩; omega) | (simp +contextual; done)))
    (first | (refine ret0 rfl (by repeat' (first | exact trivial | exact rfl | refine ⟨?_, ?_⟩)) (Wk.of ?_); (try simp (etaStruct := .none) only [push_cast, DrawG, Int.cast_ofNat_Int, Nat.reduceAdd, Nat.reduceSub, Nat.reduceMul, reduceCtorEq, reduceIte, Nat.reduceEqDiff, Nat.reduceLT, Nat.reduceLeDiff, Nat.reduceBEq, Int.reduceToNat, Int.reduceLE, Int.reduceLT]); first | done | (simp [e, *]; done) | (simp_all [e]; done)) | (refine ret0 rfl (by repeat' (first | exact trivial | exact rfl | refine ⟨?_, ?_⟩)) ?_; (try simp (etaStruct := .none) only [push_cast, DrawG, Int.cast_ofNat_Int, Nat.reduceAdd, Nat.reduceSub, Nat.reduceMul, reduceCtorEq, reduceIte, Nat.reduceEqDiff, Nat.reduceLT, Nat.reduceLeDiff, Nat.reduceBEq, Int.reduceToNat, Int.reduceLE, Int.reduceLT]); (try simp [e, *]); (try (first | exact Wk.refl _ | exact Wk.nil _ | (refine Wk.tup ?_; repeat' (first | exact trivial | exact Wk.refl _ | exact Wk.nil _ | refine ⟨?_, ?_⟩ | (refine Wk.agg ?_)))))))
  · (try simp only [decide_eq_true_eq, decide_eq_false_iff_not, Bool.not_eq_true', Bool.not_eq_false', Bool.or_eq_true, Bool.and_eq_true, Bool.or_eq_false_iff, Bool.and_eq_false_iff, Int.not_lt, Int.not_le, Bool.not_true, Bool.not_false, not_and, not_or] at h1)
    have hls : w.mines.length = w.f.p.length := by omega
    (try simp (etaStruct := .none) only [push_cast, DrawG, Int.cast_ofNat_Int, Nat.reduceAdd, Nat.reduceSub, Nat.reduceMul, reduceCtorEq, reduceIte, Nat.reduceEqDiff, Nat.reduceLT, Nat.reduceLeDiff, Nat.reduceBEq, Int.reduceToNat, Int.reduceLE, Int.reduceLT]); (try simp (disch := omega) only [wrap_in, wk_self, Int.tdiv_eq_ediv_of_nonneg, Int.tmod_eq_emod_of_nonneg]); (repeat (with_reducible refine And.intro ?_ ?_; · first | omega | decide | (simp; done) | (simp; omega) | (intro hh; refine ⟨hh, ?_⟩; omega) | (simp +contextual; done)))
    refine loopI (fun k : Nat => ⟨[(16, I .i64 k), (15, I .i64 w.mines.length), (14, .c (.sl 1 (w.mines.map i64P))), (1, .ptr 0 0 0)], [(0, .blk 91 (wldC w))], 1⟩) (fun k : Nat => k ≤ w.mines.length ∧ allN (mineB w) k = true) (fun k : Nat => w.mines.length - k) (0) (⟨Nat.zero_le _, rfl⟩) (To.mk [0] rfl rfl (by decide) ?_ ?_) ?_
    · simp (etaStruct := .none) only [push_cast, DrawG, Int.cast_ofNat_Int, Nat.reduceAdd, Nat.reduceSub, Nat.reduceMul, reduceCtorEq, reduceIte, Nat.reduceEqDiff, Nat.reduceLT, Nat.reduceLeDiff, Nat.reduceBEq, Int.reduceToNat, Int.reduceLE, Int.reduceLT]
    · simp (etaStruct := .none) only [push_cast, DrawG, Int.cast_ofNat_Int, Nat.reduceAdd, Nat.reduceSub, Nat.reduceMul, reduceCtorEq, reduceIte, Nat.reduceEqDiff, Nat.reduceLT, Nat.reduceLeDiff, Nat.reduceBEq, Int.reduceToNat, Int.reduceLE, Int.reduceLT]
    rintro k ⟨hk, hn⟩
    (try simp (etaStruct := .none) only [push_cast, DrawG, Int.cast_ofNat_Int, Nat.reduceAdd, Nat.reduceSub, Nat.reduceMul, reduceCtorEq, reduceIte, Nat.reduceEqDiff, Nat.reduceLT, Nat.reduceLeDiff, Nat.reduceBEq, Int.reduceToNat, Int.reduceLE, Int.reduceLT]); (try simp (disch := omega) only [wrap_in, wk_self, Int.tdiv_eq_ediv_of_nonneg, Int.tmod_eq_emod_of_nonneg]); (repeat (with_reducible refine And.intro ?_ ?_; · first | omega | decide | (simp; done) | (simp; omega) | (intro hh; refine ⟨hh, ?_⟩; omega) | (simp +contextual; done)))
    refine cond_i (fun h2 => ?_) (fun h2 => ?_)
    · (try simp only [decide_eq_true_eq, decide_eq_false_iff_not, Bool.not_eq_true', Bool.not_eq_false', Bool.or_eq_true, Bool.and_eq_true, Bool.or_eq_false_iff, Bool.and_eq_false_iff, Int.not_lt, Int.not_le, Bool.not_true, Bool.not_false, not_and, not_or] at h2)
      have hlt : k < w.mines.length := by omega
      have hlt2 : k < w.f.p.length := by omega
      (iterate 2 ((try simp (etaStruct := .none) only [push_cast, DrawG, Int.cast_ofNat_Int, Nat.reduceAdd, Nat.reduceSub, Nat.reduceMul, reduceCtorEq, reduceIte, Nat.reduceEqDiff, Nat.reduceLT, Nat.reduceLeDiff, Nat.reduceBEq, Int.reduceToNat, Int.reduceLE, Int.reduceLT, getD_in _ _ _ hlt, getD_in _ _ _ hlt2, i64P]); (try simp (disch := omega) only [wrap_in, wk_self, Int.tdiv_eq_ediv_of_nonneg, Int.tmod_eq_emod_of_nonneg]); (repeat (with_reducible refine And.intro ?_ ?_; · first | omega | decide | (simp; done) | (simp; omega) | (intro hh; refine ⟨hh, ?_⟩; omega) | (simp +contextual; done)))))
      refine callP (twithin_s (w.mines.getD k default) 0 1000000) (WkL.refl _) ?_
      (iterate 2 ((try simp (etaStruct := .none) only [push_cast, DrawG, Int.cast_ofNat_Int, Nat.reduceAdd, Nat.reduceSub, Nat.reduceMul, reduceCtorEq, reduceIte, Nat.reduceEqDiff, Nat.reduceLT, Nat.reduceLeDiff, Nat.reduceBEq, Int.reduceToNat, Int.reduceLE, Int.reduceLT, getD_in _ _ _ hlt, getD_in _ _ _ hlt2, i64P]); (try simp (disch := omega) only [wrap_in, wk_self, Int.tdiv_eq_ediv_of_nonneg, Int.tmod_eq_emod_of_nonneg]); (repeat (with_reducible refine And.intro ?_ ?_; · first | omega | decide | (simp; done) | (simp; omega) | (intro hh; refine ⟨hh, ?_⟩; omega) | (simp +contextual; done)))))
      refine cond_i (fun h3 => ?_) (fun h3 => ?_)
      · (try simp only [decide_eq_true_eq, decide_eq_false_iff_not, Bool.not_eq_true', Bool.not_eq_false', Bool.or_eq_true, Bool.and_eq_true, Bool.or_eq_false_iff, Bool.and_eq_false_iff, Int.not_lt, Int.not_le, Bool.not_true, Bool.not_false, not_and, not_or] at h3)
        have e0 : mineB w k = false := by
          unfold mineB
          rcases h3 with h | ⟨h, h'⟩
          · rw [h]; rfl
          · rw [decide_eq_false (by omega), decide_eq_false (by omega)]; simp
        have e : minesV w = false := by unfold minesV; rw [allN_not hlt e0]; simp
        (iterate 2 ((try simp (etaStruct := .none) only [push_cast, DrawG, Int.cast_ofNat_Int, Nat.reduceAdd, Nat.reduceSub, Nat.reduceMul, reduceCtorEq, reduceIte, Nat.reduceEqDiff, Nat.reduceLT, Nat.reduceLeDiff, Nat.reduceBEq, Int.reduceToNat, Int.reduceLE, Int.reduceLT, getD_in _ _ _ hlt, getD_in _ _ _ hlt2, i64P]); (try simp (disch := omega) only [wrap_in, wk_self, Int.tdiv_eq_ediv_of_nonneg, Int.tmod_eq_emod_of_nonneg]); (repeat (with_reducible refine And.intro ?_ ?_; · first | omega | decide | (simp; done) | (simp; omega) | (intro hh; refine ⟨hh, ?_⟩; omega) | (simp +contextual; done)))))
        (first | (refine ret0 rfl (by repeat' (first | exact trivial | exact rfl | refine ⟨?_, ?_⟩)) (Wk.of ?_); (try simp (etaStruct := .none) only [push_cast, DrawG, Int.cast_ofNat_Int, Nat.reduceAdd, Nat.reduceSub, Nat.reduceMul, reduceCtorEq, reduceIte, Nat.reduceEqDiff, Nat.reduceLT, Nat.reduceLeDiff, Nat.reduceBEq, Int.reduceToNat, Int.reduceLE, Int.reduceLT]); first | done | (simp [e, *]; done) | (simp_all [e]; done)) | (refine ret0 rfl (by repeat' (first | exact trivial | exact rfl | refine ⟨?_, ?_⟩)) ?_; (try simp (etaStruct := .none) only [push_cast, DrawG, Int.cast_ofNat_Int, Nat.reduceAdd, Nat.reduceSub, Nat.reduceMul, reduceCtorEq, reduceIte, Nat.reduceEqDiff, Nat.reduceLT, Nat.reduceLeDiff, Nat.reduceBEq, Int.reduceToNat, Int.reduceLE, Int.reduceLT]); (try simp [e, *]); (try (first | exact Wk.refl _ | exact Wk.nil _ | (refine Wk.tup ?_; repeat' (first | exact trivial | exact Wk.refl _ | exact Wk.nil _ | refine ⟨?_, ?_⟩ | (refine Wk.agg ?_)))))))
      · (try simp only [decide_eq_true_eq, decide_eq_false_iff_not, Bool.not_eq_true', Bool.not_eq_false', Bool.or_eq_true, Bool.and_eq_true, Bool.or_eq_false_iff, Bool.and_eq_false_iff, Int.not_lt, Int.not_le, Bool.not_true, Bool.not_false, not_and, not_or] at h3)
        have e0 : mineB w k = true := by
          unfold mineB
          rw [h3.1]
          have := within_iff.1 h3.1
          simp only [Bool.true_and, Bool.or_eq_true, decide_eq_true_eq]
          omega
        (iterate 2 ((try simp (etaStruct := .none) only [push_cast, DrawG, Int.cast_ofNat_Int, Nat.reduceAdd, Nat.reduceSub, Nat.reduceMul, reduceCtorEq, reduceIte, Nat.reduceEqDiff, Nat.reduceLT, Nat.reduceLeDiff, Nat.reduceBEq, Int.reduceToNat, Int.reduceLE, Int.reduceLT, getD_in _ _ _ hlt, getD_in _ _ _ hlt2, i64P]); (try simp (disch := omega) only [wrap_in, wk_self, Int.tdiv_eq_ediv_of_nonneg, Int.tmod_eq_emod_of_nonneg]); (repeat (with_reducible refine And.intro ?_ ?_; · first | omega | decide | (simp; done) | (simp; omega) | (intro hh; refine ⟨hh, ?_⟩; omega) | (simp +contextual; done)))))
        refine ⟨k + 1, ⟨by omega, by rw [allN, hn, e0]; rfl⟩, by omega, To.mk [0] rfl rfl (by decide) ?_ ?_⟩
        · (iterate 2 ((try simp (etaStruct := .none) only [push_cast, DrawG, Int.cast_ofNat_Int, Nat.reduceAdd, Nat.reduceSub, Nat.reduceMul, reduceCtorEq, reduceIte, Nat.reduceEqDiff, Nat.reduceLT, Nat.reduceLeDiff, Nat.reduceBEq, Int.reduceToNat, Int.reduceLE, Int.reduceLT, getD_in _ _ _ hlt, getD_in _ _ _ hlt2, i64P]); (try simp (disch := omega) only [wrap_in, wk_self, Int.tdiv_eq_ediv_of_nonneg, Int.tmod_eq_emod_of_nonneg]); (repeat (with_reducible refine And.intro ?_ ?_; · first | omega | decide | (simp; done) | (simp; omega) | (intro hh; refine ⟨hh, ?_⟩; omega) | (simp +contextual; done)))))
        · (iterate 2 ((try simp (etaStruct := .none) only [push_cast, DrawG, Int.cast_ofNat_Int, Nat.reduceAdd, Nat.reduceSub, Nat.reduceMul, reduceCtorEq, reduceIte, Nat.reduceEqDiff, Nat.reduceLT, Nat.reduceLeDiff, Nat.reduceBEq, Int.reduceToNat, Int.reduceLE, Int.reduceLT, getD_in _ _ _ hlt, getD_in _ _ _ hlt2, i64P]); (try simp (disch := omega) only [wrap_in, wk_self, Int.tdiv_eq_ediv_of_nonneg, Int.tmod_eq_emod_of_nonneg]); (repeat (with_reducible refine And.intro ?_ ?_; · first | omega | decide | (simp; done) | (simp; omega) | (intro hh; refine ⟨hh, ?_⟩; omega) | (simp +contextual; done)))))
    · (try simp only [decide_eq_true_eq, decide_eq_false_iff_not, Bool.not_eq_true', Bool.not_eq_false', Bool.or_eq_true, Bool.and_eq_true, Bool.or_eq_false_iff, Bool.and_eq_false_iff, Int.not_lt, Int.not_le, Bool.not_true, Bool.not_false, not_and, not_or] at h2)
      obtain rfl : k = w.mines.length := by omega
      have e : minesV w = true := by unfold minesV; rw [decide_eq_true hls, hn]; rfl
      (try simp (etaStruct := .none) only [push_cast, DrawG, Int.cast_ofNat_Int, Nat.reduceAdd, Nat.reduceSub, Nat.reduceMul, reduceCtorEq, reduceIte, Nat.reduceEqDiff, Nat.reduceLT, Nat.reduceLeDiff, Nat.reduceBEq, Int.reduceToNat, Int.reduceLE, Int.reduceLT]); (try simp (disch := omega) only [wrap_in, wk_self, Int.tdiv_eq_ediv_of_nonneg, Int.tmod_eq_emod_of_nonneg]); (repeat (with_reducible refine And.intro ?_ ?_; · first | omega | decide | (simp; done) | (simp; omega) | (intro hh; refine ⟨hh, ?_⟩; omega) | (simp +contextual; done)))
      (first | (refine ret0 rfl (by repeat' (first | exact trivial | exact rfl | refine ⟨?_, ?_⟩)) (Wk.of ?_); (try simp (etaStruct := .none) only [push_cast, DrawG, Int.cast_ofNat_Int, Nat.reduceAdd, Nat.reduceSub, Nat.reduceMul, reduceCtorEq, reduceIte, Nat.reduceEqDiff, Nat.reduceLT, Nat.reduceLeDiff, Nat.reduceBEq, Int.reduceToNat, Int.reduceLE, Int.reduceLT]); first | done | (simp [e, *]; done) | (simp_all [e]; done)) | (refine ret0 rfl (by repeat' (first | exact trivial | exact rfl | refine ⟨?_, ?_⟩)) ?_; (try simp (etaStruct := .none) only [push_cast, DrawG, Int.cast_ofNat_Int, Nat.reduceAdd, Nat.reduceSub, Nat.reduceMul, reduceCtorEq, reduceIte, Nat.reduceEqDiff, Nat.reduceLT, Nat.reduceLeDiff, Nat.reduceBEq, Int.reduceToNat, Int.reduceLE, Int.reduceLT]); (try simp [e, *]); (try (first | exact Wk.refl _ | exact Wk.nil _ | (refine Wk.tup ?_; repeat' (first | exact trivial | exact Wk.refl _ | exact Wk.nil _ | refine ⟨?_, ?_⟩ | (refine Wk.agg ?_)))))))
end Go.Proofs.Ytehcnnodkhcgfaa
namespace Go.Proofs.Ytehcnnodkhcgfaa
set_option linter.all false
open Go.RowKit
set_option maxRecDepth 100000
set_option maxHeartbeats 1000000
def lastV (w : Wld) (i : Nat) : Int := if i = 0 then 0 else (w.troops.getD (i - 1) default).id
theorem lastV_0 (w : Wld) : lastV w 0 = 0 := rfl
theorem lastV_s (w : Wld) (k : Nat) : lastV w (k + 1) = (w.troops.getD k default).id := by simp [lastV]
def seenC (w : Wld) (k : Nat) (c : Cel) : Bool := !allN (fun j => !decide ((w.troops.getD j default).c = c)) k
theorem seenC_0 (w : Wld) (c : Cel) : seenC w 0 c = false := rfl
theorem seenC_succ (w : Wld) (k : Nat) (c : Cel) : seenC w (k + 1) c = (seenC w k c || decide ((w.troops.getD k default).c = c)) := by
  unfold seenC; rw [allN]; simp [Bool.not_and]
theorem and_all (p q : Nat → Bool) : ∀ n, allN (fun j => p j && q j) n = (allN p n && allN q n)
  | 0 => rfl
  | n + 1 => by
    rw [allN, allN, allN, and_all p q n]
    cases allN p n <;> cases allN q n <;> cases p n <;> cases q n <;> rfl
theorem last_all {w : Wld} {k : Nat} (h : allN (troopB w) k = true) (t : Trp) : 0 ≤ lastV w k ∧ (lastV w k < t.id ↔ 1 ≤ t.id ∧ allN (fun j => decide ((w.troops.getD j default).id < t.id)) k = true) := by
  have hh := (allN_iff _ _).1 h
  cases k with
  | zero => simp [lastV, allN]; omega
  | succ k =>
    have hk := hh k (by omega)
    unfold troopB trp1 trp2 at hk
    simp only [Bool.and_eq_true, and_all, within_iff] at hk
    have h2 := (allN_iff _ _).1 hk.2.2.1
    have el : lastV w (k + 1) = (w.troops.getD k default).id := by simp [lastV]
    rw [el, allN_iff]
    refine ⟨by omega, fun h3 => ⟨by omega, fun j hj => ?_⟩, fun h3 => ?_⟩
    · rw [decide_eq_true_eq]
      rcases Nat.lt_or_ge j k with h4 | h4
      · have := h2 j h4
        rw [decide_eq_true_eq] at this; omega
      · rw [show j = k by omega]; exact h3
    · have := h3.2 k (by omega)
      rwa [decide_eq_true_eq] at this
theorem troopB_eq {w : Wld} {k : Nat} (h : allN (troopB w) k = true) : troopB w k = (within (w.troops.getD k default).kind 1 2 && within (w.troops.getD k default).id (lastV w k + 1) (w.next - 1) && within (w.troops.getD k default).owner 0 ((w.bases.length : Int) - 1) && groundV w.f (w.troops.getD k default).c && within (w.troops.getD k default).life 1 (kindV (w.troops.getD k default).kind).life && within (w.troops.getD k default).load 0 (5 * (2 - (w.troops.getD k default).kind)) && !seenC w k (w.troops.getD k default).c) := by
  obtain ⟨_, h2⟩ := last_all h (w.troops.getD k default)
  unfold troopB trp1 trp2 seenC
  rw [and_all, Bool.not_not]
  have e : within (w.troops.getD k default).id (lastV w k + 1) (w.next - 1) = (within (w.troops.getD k default).id 1 (w.next - 1) && allN (fun j => decide ((w.troops.getD j default).id < (w.troops.getD k default).id)) k) := by
    rw [Bool.eq_iff_iff, Bool.and_eq_true, within_iff, within_iff]
    constructor
    · rintro ⟨a, b⟩
      have := h2.1 (by omega)
      exact ⟨⟨this.1, b⟩, this.2⟩
    · rintro ⟨⟨a, b⟩, c⟩
      have := h2.2 ⟨a, c⟩
      exact ⟨by omega, b⟩
  rw [e]
  cases within (w.troops.getD k default).kind 1 2 <;> cases within (w.troops.getD k default).id 1 (w.next - 1) <;> cases within (w.troops.getD k default).owner 0 ((w.bases.length : Int) - 1) <;> cases groundV w.f (w.troops.getD k default).c <;> cases within (w.troops.getD k default).life 1 (kindV (w.troops.getD k default).kind).life <;> cases within (w.troops.getD k default).load 0 (5 * (2 - (w.troops.getD k default).kind)) <;> simp
theorem kind_f {k : Int} (h : ¬ kindE k = 0) : within k 1 2 = false := by
  rw [within_f]; unfold kindE at h; split at h <;> omega
theorem kind_t {k : Int} (h : kindE k = 0) : within k 1 2 = true := by
  rw [within_iff]; unfold kindE at h; split at h <;> omega
theorem kind_load {k : Int} (h : within k 1 2 = true) : 5 * (2 - k) = if k = 1 then 5 else 0 := by
  rw [within_iff] at h; split <;> omega
def tkeyC (c : Cel) : List Int := [c.x, c.y]
theorem tkeyC_inj {a b : Cel} : tkeyC a = tkeyC b ↔ a = b := by
  cases a; cases b; simp [tkeyC]
theorem ttroops_s (w : Wld) (hl : wldL w) (hf : fldE w.f = 0) (hn1 : within w.next 1 1000000 = true) (hn2 : within w.now 0 1000000 = true) : Spec Try.prog 214 [wldA w] [] (B (troopsV w)) [] := by
  obtain ⟨l1, l2, l3, l4, l5⟩ := hl
  have hnx := within_iff.1 hn1
  refine spec_am Try.func214 rfl rfl mix 96 rfl [.tmp 2] Try.results214 (Nat.le_of_ble_eq_true rfl) ?_
  (iterate 2 ((try simp (etaStruct := .none) only [push_cast, DrawG, Int.cast_ofNat_Int, Nat.reduceAdd, Nat.reduceSub, Nat.reduceMul, reduceCtorEq, reduceIte, Nat.reduceEqDiff, Nat.reduceLT, Nat.reduceLeDiff, Nat.reduceBEq, Int.reduceToNat, Int.reduceLE, Int.reduceLT, beq_self_eq_true]); (try simp (disch := omega) only [wrap_in, wk_self, Int.tdiv_eq_ediv_of_nonneg, Int.tmod_eq_emod_of_nonneg]); (repeat (with_reducible refine And.intro ?_ ?_; · first | omega | decide | (simp; done) | (simp; omega) | (intro hh; refine ⟨hh, ?_⟩; omega) | (simp +contextual; done)))))
  refine loopI (fun x : Nat × List (List Int × Int) => ⟨[(14, I .i64 x.1), (13, I .i64 w.troops.length), (12, .c (.sl 7 (w.troops.map trpP))), (4, .map 1), (3, I .i64 (lastV w x.1)), (1, .ptr 0 0 0)], [(0, .blk 91 (wldC w)), (1, .mp true 2 x.2)], 2⟩) (fun x : Nat × List (List Int × Int) => x.1 ≤ w.troops.length ∧ allN (troopB w) x.1 = true ∧ (∀ c : Cel, mget (tkeyC c) x.2 = if seenC w x.1 c then 1 else 0)) (fun x : Nat × List (List Int × Int) => w.troops.length - x.1) ((0, [])) (⟨Nat.zero_le _, rfl, fun c => by rw [seenC_0]; rfl⟩) (To.mk [0, 1] rfl rfl (by decide) ?_ ?_) ?_
  · simp (etaStruct := .none) only [push_cast, DrawG, Int.cast_ofNat_Int, Nat.reduceAdd, Nat.reduceSub, Nat.reduceMul, reduceCtorEq, reduceIte, Nat.reduceEqDiff, Nat.reduceLT, Nat.reduceLeDiff, Nat.reduceBEq, Int.reduceToNat, Int.reduceLE, Int.reduceLT]
  · simp (etaStruct := .none) only [push_cast, DrawG, Int.cast_ofNat_Int, Nat.reduceAdd, Nat.reduceSub, Nat.reduceMul, reduceCtorEq, reduceIte, Nat.reduceEqDiff, Nat.reduceLT, Nat.reduceLeDiff, Nat.reduceBEq, Int.reduceToNat, Int.reduceLE, Int.reduceLT, lastV_0]
  rintro ⟨k, es⟩ ⟨hk, hn, hm⟩
  simp only at hk hn hm
  (iterate 2 ((try simp (etaStruct := .none) only [push_cast, DrawG, Int.cast_ofNat_Int, Nat.reduceAdd, Nat.reduceSub, Nat.reduceMul, reduceCtorEq, reduceIte, Nat.reduceEqDiff, Nat.reduceLT, Nat.reduceLeDiff, Nat.reduceBEq, Int.reduceToNat, Int.reduceLE, Int.reduceLT, beq_self_eq_true]); (try simp (disch := omega) only [wrap_in, wk_self, Int.tdiv_eq_ediv_of_nonneg, Int.tmod_eq_emod_of_nonneg]); (repeat (with_reducible refine And.intro ?_ ?_; · first | omega | decide | (simp; done) | (simp; omega) | (intro hh; refine ⟨hh, ?_⟩; omega) | (simp +contextual; done)))))
  refine cond_i (fun h1 => ?_) (fun h1 => ?_)
  · (try simp only [decide_eq_true_eq, decide_eq_false_iff_not, Bool.not_eq_true', Bool.not_eq_false', Bool.or_eq_true, Bool.and_eq_true, Bool.or_eq_false_iff, Bool.and_eq_false_iff, Int.not_lt, Int.not_le, Bool.not_true, Bool.not_false, not_and, not_or] at h1)
    have hlt : k < w.troops.length := by omega
    have hla := (last_all hn (w.troops.getD k default)).1
    have hla2 : lastV w k ≤ 1000000 := by
      unfold lastV
      split
      · omega
      · have := (allN_iff _ _).1 hn (k - 1) (by omega)
        unfold troopB trp1 at this
        simp only [Bool.and_eq_true, within_iff] at this
        omega
    (iterate 2 ((try simp (etaStruct := .none) only [push_cast, DrawG, Int.cast_ofNat_Int, Nat.reduceAdd, Nat.reduceSub, Nat.reduceMul, reduceCtorEq, reduceIte, Nat.reduceEqDiff, Nat.reduceLT, Nat.reduceLeDiff, Nat.reduceBEq, Int.reduceToNat, Int.reduceLE, Int.reduceLT, beq_self_eq_true, getD_in _ _ _ hlt, trpP]); (try simp (disch := omega) only [wrap_in, wk_self, Int.tdiv_eq_ediv_of_nonneg, Int.tmod_eq_emod_of_nonneg]); (repeat (with_reducible refine And.intro ?_ ?_; · first | omega | decide | (simp; done) | (simp; omega) | (intro hh; refine ⟨hh, ?_⟩; omega) | (simp +contextual; done)))))
    refine callP (tkind_s (w.troops.getD k default).kind) (WkL.refl _) ?_
    (iterate 2 ((try simp (etaStruct := .none) only [push_cast, DrawG, Int.cast_ofNat_Int, Nat.reduceAdd, Nat.reduceSub, Nat.reduceMul, reduceCtorEq, reduceIte, Nat.reduceEqDiff, Nat.reduceLT, Nat.reduceLeDiff, Nat.reduceBEq, Int.reduceToNat, Int.reduceLE, Int.reduceLT, beq_self_eq_true, getD_in _ _ _ hlt, trpP]); (try simp (disch := omega) only [wrap_in, wk_self, Int.tdiv_eq_ediv_of_nonneg, Int.tmod_eq_emod_of_nonneg]); (repeat (with_reducible refine And.intro ?_ ?_; · first | omega | decide | (simp; done) | (simp; omega) | (intro hh; refine ⟨hh, ?_⟩; omega) | (simp +contextual; done)))))
    refine cond_j (fun _u : Unit => ⟨[(14, I .i64 k), (13, I .i64 w.troops.length), (12, .c (.sl 7 (w.troops.map trpP))), (9, I .i64 (if (w.troops.getD k default).kind = 1 then 5 else 0)), (8, I .i64 (kindE (w.troops.getD k default).kind)), (7, .ptr 3 0 0), (6, .ptr 2 0 0), (4, .map 1), (3, I .i64 (lastV w k)), (1, .ptr 0 0 0)], [(0, .blk 91 (wldC w)), (1, .mp true 2 es), (2, .blk 103 (trpC (w.troops.getD k default))), (3, .blk 242 [I .i64 (kindV (w.troops.getD k default).kind).life, I .i64 (kindV (w.troops.getD k default).kind).blow, I .i64 (kindV (w.troops.getD k default).kind).load, I .i64 (kindV (w.troops.getD k default).kind).price])], 4⟩) (fun _u : Unit => Tr) (fun h2 => ?_) (fun h2 => ?_) ?_
    · (try simp only [decide_eq_true_eq, decide_eq_false_iff_not, Bool.not_eq_true', Bool.not_eq_false', Bool.or_eq_true, Bool.and_eq_true, Bool.or_eq_false_iff, Bool.and_eq_false_iff, Int.not_lt, Int.not_le, Bool.not_true, Bool.not_false, not_and, not_or] at h2)
      (iterate 2 ((try simp (etaStruct := .none) only [push_cast, DrawG, Int.cast_ofNat_Int, Nat.reduceAdd, Nat.reduceSub, Nat.reduceMul, reduceCtorEq, reduceIte, Nat.reduceEqDiff, Nat.reduceLT, Nat.reduceLeDiff, Nat.reduceBEq, Int.reduceToNat, Int.reduceLE, Int.reduceLT, beq_self_eq_true, getD_in _ _ _ hlt, trpP]); (try simp (disch := omega) only [wrap_in, wk_self, Int.tdiv_eq_ediv_of_nonneg, Int.tmod_eq_emod_of_nonneg]); (repeat (with_reducible refine And.intro ?_ ?_; · first | omega | decide | (simp; done) | (simp; omega) | (intro hh; refine ⟨hh, ?_⟩; omega) | (simp +contextual; done)))))
      refine ⟨(), trI, To.mk [0, 1, 2, 3] rfl rfl (by decide) ?_ ?_⟩
      · (iterate 2 ((try simp (etaStruct := .none) only [push_cast, DrawG, Int.cast_ofNat_Int, Nat.reduceAdd, Nat.reduceSub, Nat.reduceMul, reduceCtorEq, reduceIte, Nat.reduceEqDiff, Nat.reduceLT, Nat.reduceLeDiff, Nat.reduceBEq, Int.reduceToNat, Int.reduceLE, Int.reduceLT, beq_self_eq_true, getD_in _ _ _ hlt, trpP]); (try simp (disch := omega) only [wrap_in, wk_self, Int.tdiv_eq_ediv_of_nonneg, Int.tmod_eq_emod_of_nonneg]); (repeat (with_reducible refine And.intro ?_ ?_; · first | omega | decide | (simp; done) | (simp; omega) | (intro hh; refine ⟨hh, ?_⟩; omega) | (simp +contextual; done)))))
      · (iterate 2 ((try simp (etaStruct := .none) only [push_cast, DrawG, Int.cast_ofNat_Int, Nat.reduceAdd, Nat.reduceSub, Nat.reduceMul, reduceCtorEq, reduceIte, Nat.reduceEqDiff, Nat.reduceLT, Nat.reduceLeDiff, Nat.reduceBEq, Int.reduceToNat, Int.reduceLE, Int.reduceLT, if_pos h2]); (try simp (disch := omega) only [wrap_in, wk_self, Int.tdiv_eq_ediv_of_nonneg, Int.tmod_eq_emod_of_nonneg]); (repeat (with_reducible refine And.intro ?_ ?_; · first | omega | decide | (simp; done) | (simp; omega) | (intro hh; refine ⟨hh, ?_⟩; omega) | (simp +contextual; done)))))
    · (try simp only [decide_eq_true_eq, decide_eq_false_iff_not, Bool.not_eq_true', Bool.not_eq_false', Bool.or_eq_true, Bool.and_eq_true, Bool.or_eq_false_iff, Bool.and_eq_false_iff, Int.not_lt, Int.not_le, Bool.not_true, Bool.not_false, not_and, not_or] at h2)
      (iterate 2 ((try simp (etaStruct := .none) only [push_cast, DrawG, Int.cast_ofNat_Int, Nat.reduceAdd, Nat.reduceSub, Nat.reduceMul, reduceCtorEq, reduceIte, Nat.reduceEqDiff, Nat.reduceLT, Nat.reduceLeDiff, Nat.reduceBEq, Int.reduceToNat, Int.reduceLE, Int.reduceLT, beq_self_eq_true, getD_in _ _ _ hlt, trpP]); (try simp (disch := omega) only [wrap_in, wk_self, Int.tdiv_eq_ediv_of_nonneg, Int.tmod_eq_emod_of_nonneg]); (repeat (with_reducible refine And.intro ?_ ?_; · first | omega | decide | (simp; done) | (simp; omega) | (intro hh; refine ⟨hh, ?_⟩; omega) | (simp +contextual; done)))))
      refine ⟨(), trI, To.mk [0, 1, 2, 3] rfl rfl (by decide) ?_ ?_⟩
      · (iterate 2 ((try simp (etaStruct := .none) only [push_cast, DrawG, Int.cast_ofNat_Int, Nat.reduceAdd, Nat.reduceSub, Nat.reduceMul, reduceCtorEq, reduceIte, Nat.reduceEqDiff, Nat.reduceLT, Nat.reduceLeDiff, Nat.reduceBEq, Int.reduceToNat, Int.reduceLE, Int.reduceLT, beq_self_eq_true, getD_in _ _ _ hlt, trpP]); (try simp (disch := omega) only [wrap_in, wk_self, Int.tdiv_eq_ediv_of_nonneg, Int.tmod_eq_emod_of_nonneg]); (repeat (with_reducible refine And.intro ?_ ?_; · first | omega | decide | (simp; done) | (simp; omega) | (intro hh; refine ⟨hh, ?_⟩; omega) | (simp +contextual; done)))))
      · (iterate 2 ((try simp (etaStruct := .none) only [push_cast, DrawG, Int.cast_ofNat_Int, Nat.reduceAdd, Nat.reduceSub, Nat.reduceMul, reduceCtorEq, reduceIte, Nat.reduceEqDiff, Nat.reduceLT, Nat.reduceLeDiff, Nat.reduceBEq, Int.reduceToNat, Int.reduceLE, Int.reduceLT, if_neg h2]); (try simp (disch := omega) only [wrap_in, wk_self, Int.tdiv_eq_ediv_of_nonneg, Int.tmod_eq_emod_of_nonneg]); (repeat (with_reducible refine And.intro ?_ ?_; · first | omega | decide | (simp; done) | (simp; omega) | (intro hh; refine ⟨hh, ?_⟩; omega) | (simp +contextual; done)))))
    · rintro _ _
      (iterate 2 ((try simp (etaStruct := .none) only [push_cast, DrawG, Int.cast_ofNat_Int, Nat.reduceAdd, Nat.reduceSub, Nat.reduceMul, reduceCtorEq, reduceIte, Nat.reduceEqDiff, Nat.reduceLT, Nat.reduceLeDiff, Nat.reduceBEq, Int.reduceToNat, Int.reduceLE, Int.reduceLT, beq_self_eq_true, getD_in _ _ _ hlt, trpP]); (try simp (disch := omega) only [wrap_in, wk_self, Int.tdiv_eq_ediv_of_nonneg, Int.tmod_eq_emod_of_nonneg]); (repeat (with_reducible refine And.intro ?_ ?_; · first | omega | decide | (simp; done) | (simp; omega) | (intro hh; refine ⟨hh, ?_⟩; omega) | (simp +contextual; done)))))
      refine gcallP (fun hcc => twithin_s (w.troops.getD k default).id (lastV w k + 1) (w.next - 1)) (WkL.refl _) (by intro hc; (try simp (etaStruct := .none) only [push_cast, DrawG, Int.cast_ofNat_Int, Nat.reduceAdd, Nat.reduceSub, Nat.reduceMul, reduceCtorEq, reduceIte, Nat.reduceEqDiff, Nat.reduceLT, Nat.reduceLeDiff, Nat.reduceBEq, Int.reduceToNat, Int.reduceLE, Int.reduceLT]); (try simp_all)) ?_
      (iterate 2 ((try simp (etaStruct := .none) only [push_cast, DrawG, Int.cast_ofNat_Int, Nat.reduceAdd, Nat.reduceSub, Nat.reduceMul, reduceCtorEq, reduceIte, Nat.reduceEqDiff, Nat.reduceLT, Nat.reduceLeDiff, Nat.reduceBEq, Int.reduceToNat, Int.reduceLE, Int.reduceLT, beq_self_eq_true, getD_in _ _ _ hlt, trpP]); (try simp (disch := omega) only [wrap_in, wk_self, Int.tdiv_eq_ediv_of_nonneg, Int.tmod_eq_emod_of_nonneg]); (repeat (with_reducible refine And.intro ?_ ?_; · first | omega | decide | (simp; done) | (simp; omega) | (intro hh; refine ⟨hh, ?_⟩; omega) | (simp +contextual; done)))))
      refine gcallP (fun hcc => twithin_s (w.troops.getD k default).owner 0 ((w.bases.length : Int) - 1)) (WkL.refl _) (by intro hc; (try simp (etaStruct := .none) only [push_cast, DrawG, Int.cast_ofNat_Int, Nat.reduceAdd, Nat.reduceSub, Nat.reduceMul, reduceCtorEq, reduceIte, Nat.reduceEqDiff, Nat.reduceLT, Nat.reduceLeDiff, Nat.reduceBEq, Int.reduceToNat, Int.reduceLE, Int.reduceLT]); (try simp_all)) ?_
      (iterate 2 ((try simp (etaStruct := .none) only [push_cast, DrawG, Int.cast_ofNat_Int, Nat.reduceAdd, Nat.reduceSub, Nat.reduceMul, reduceCtorEq, reduceIte, Nat.reduceEqDiff, Nat.reduceLT, Nat.reduceLeDiff, Nat.reduceBEq, Int.reduceToNat, Int.reduceLE, Int.reduceLT, beq_self_eq_true, getD_in _ _ _ hlt, trpP]); (try simp (disch := omega) only [wrap_in, wk_self, Int.tdiv_eq_ediv_of_nonneg, Int.tmod_eq_emod_of_nonneg]); (repeat (with_reducible refine And.intro ?_ ?_; · first | omega | decide | (simp; done) | (simp; omega) | (intro hh; refine ⟨hh, ?_⟩; omega) | (simp +contextual; done)))))
      refine gcallP (fun hcc => tground_s w.f (w.troops.getD k default).c hf l1) (WkL.refl _) (by intro hc; (try simp (etaStruct := .none) only [push_cast, DrawG, Int.cast_ofNat_Int, Nat.reduceAdd, Nat.reduceSub, Nat.reduceMul, reduceCtorEq, reduceIte, Nat.reduceEqDiff, Nat.reduceLT, Nat.reduceLeDiff, Nat.reduceBEq, Int.reduceToNat, Int.reduceLE, Int.reduceLT]); (try simp_all)) ?_
      (iterate 2 ((try simp (etaStruct := .none) only [push_cast, DrawG, Int.cast_ofNat_Int, Nat.reduceAdd, Nat.reduceSub, Nat.reduceMul, reduceCtorEq, reduceIte, Nat.reduceEqDiff, Nat.reduceLT, Nat.reduceLeDiff, Nat.reduceBEq, Int.reduceToNat, Int.reduceLE, Int.reduceLT, beq_self_eq_true, getD_in _ _ _ hlt, trpP]); (try simp (disch := omega) only [wrap_in, wk_self, Int.tdiv_eq_ediv_of_nonneg, Int.tmod_eq_emod_of_nonneg]); (repeat (with_reducible refine And.intro ?_ ?_; · first | omega | decide | (simp; done) | (simp; omega) | (intro hh; refine ⟨hh, ?_⟩; omega) | (simp +contextual; done)))))
      refine gcallP (fun hcc => twithin_s (w.troops.getD k default).life 1 (kindV (w.troops.getD k default).kind).life) (WkL.refl _) (by intro hc; (try simp (etaStruct := .none) only [push_cast, DrawG, Int.cast_ofNat_Int, Nat.reduceAdd, Nat.reduceSub, Nat.reduceMul, reduceCtorEq, reduceIte, Nat.reduceEqDiff, Nat.reduceLT, Nat.reduceLeDiff, Nat.reduceBEq, Int.reduceToNat, Int.reduceLE, Int.reduceLT]); (try simp_all)) ?_
      (iterate 2 ((try simp (etaStruct := .none) only [push_cast, DrawG, Int.cast_ofNat_Int, Nat.reduceAdd, Nat.reduceSub, Nat.reduceMul, reduceCtorEq, reduceIte, Nat.reduceEqDiff, Nat.reduceLT, Nat.reduceLeDiff, Nat.reduceBEq, Int.reduceToNat, Int.reduceLE, Int.reduceLT, beq_self_eq_true, getD_in _ _ _ hlt, trpP]); (try simp (disch := omega) only [wrap_in, wk_self, Int.tdiv_eq_ediv_of_nonneg, Int.tmod_eq_emod_of_nonneg]); (repeat (with_reducible refine And.intro ?_ ?_; · first | omega | decide | (simp; done) | (simp; omega) | (intro hh; refine ⟨hh, ?_⟩; omega) | (simp +contextual; done)))))
      refine gcallP (fun hcc => twithin_s (w.troops.getD k default).load 0 (if (w.troops.getD k default).kind = 1 then 5 else 0)) (WkL.refl _) (by intro hc; (try simp (etaStruct := .none) only [push_cast, DrawG, Int.cast_ofNat_Int, Nat.reduceAdd, Nat.reduceSub, Nat.reduceMul, reduceCtorEq, reduceIte, Nat.reduceEqDiff, Nat.reduceLT, Nat.reduceLeDiff, Nat.reduceBEq, Int.reduceToNat, Int.reduceLE, Int.reduceLT]); (try simp_all)) ?_
      (iterate 2 ((try simp (etaStruct := .none) only [push_cast, DrawG, Int.cast_ofNat_Int, Nat.reduceAdd, Nat.reduceSub, Nat.reduceMul, reduceCtorEq, reduceIte, Nat.reduceEqDiff, Nat.reduceLT, Nat.reduceLeDiff, Nat.reduceBEq, Int.reduceToNat, Int.reduceLE, Int.reduceLT, beq_self_eq_true, getD_in _ _ _ hlt, trpP]); (try simp (disch := omega) only [wrap_in, wk_self, Int.tdiv_eq_ediv_of_nonneg, Int.tmod_eq_emod_of_nonneg]); (repeat (with_reducible refine And.intro ?_ ?_; · first | omega | decide | (simp; done) | (simp; omega) | (intro hh; refine ⟨hh, ?_⟩; omega) | (simp +contextual; done)))))
      refine cond_i (fun h3 => ?_) (fun h3 => ?_)
      · (try simp only [decide_eq_true_eq, decide_eq_false_iff_not, Bool.not_eq_true', Bool.not_eq_false', Bool.or_eq_true, Bool.and_eq_true, Bool.or_eq_false_iff, Bool.and_eq_false_iff, Int.not_lt, Int.not_le, Bool.not_true, Bool.not_false, not_and, not_or] at h3)
        have e0 : troopB w k = false := by
          rw [troopB_eq hn]
          rcases h3 with ((((h | h) | h) | h) | h) | h
          · rw [kind_f h]; rfl
          · rw [h]; simp
          · rw [h]; simp
          · rw [h]; simp
          · rw [h]; simp
          · cases hkk : within (w.troops.getD k default).kind 1 2 with
            | false => rfl
            | true => rw [kind_load hkk, h]; simp
        have e : troopsV w = false := by unfold troopsV; rw [allN_not hlt e0]; simp
        (iterate 2 ((try simp (etaStruct := .none) only [push_cast, DrawG, Int.cast_ofNat_Int, Nat.reduceAdd, Nat.reduceSub, Nat.reduceMul, reduceCtorEq, reduceIte, Nat.reduceEqDiff, Nat.reduceLT, Nat.reduceLeDiff, Nat.reduceBEq, Int.reduceToNat, Int.reduceLE, Int.reduceLT, beq_self_eq_true, getD_in _ _ _ hlt, trpP]); (try simp (disch := omega) only [wrap_in, wk_self, Int.tdiv_eq_ediv_of_nonneg, Int.tmod_eq_emod_of_nonneg]); (repeat (with_reducible refine And.intro ?_ ?_; · first | omega | decide | (simp; done) | (simp; omega) | (intro hh; refine ⟨hh, ?_⟩; omega) | (simp +contextual; done)))))
        (first | (refine ret0 rfl (by repeat' (first | exact trivial | exact rfl | refine ⟨?_, ?_⟩)) (Wk.of ?_); (try simp (etaStruct := .none) only [push_cast, DrawG, Int.cast_ofNat_Int, Nat.reduceAdd, Nat.reduceSub, Nat.reduceMul, reduceCtorEq, reduceIte, Nat.reduceEqDiff, Nat.reduceLT, Nat.reduceLeDiff, Nat.reduceBEq, Int.reduceToNat, Int.reduceLE, Int.reduceLT]); first | done | (simp [e, *]; done) | (simp_all [e]; done)) | (refine ret0 rfl (by repeat' (first | exact trivial | exact rfl | refine ⟨?_, ?_⟩)) ?_; (try simp (etaStruct := .none) only [push_cast, DrawG, Int.cast_ofNat_Int, Nat.reduceAdd, Nat.reduceSub, Nat.reduceMul, reduceCtorEq, reduceIte, Nat.reduceEqDiff, Nat.reduceLT, Nat.reduceLeDiff, Nat.reduceBEq, Int.reduceToNat, Int.reduceLE, Int.reduceLT]); (try simp [e, *]); (try (first | exact Wk.refl _ | exact Wk.nil _ | (refine Wk.tup ?_; repeat' (first | exact trivial | exact Wk.refl _ | exact Wk.nil _ | refine ⟨?_, ?_⟩ | (refine Wk.agg ?_)))))))
      · (try simp only [decide_eq_true_eq, decide_eq_false_iff_not, Bool.not_eq_true', Bool.not_eq_false', Bool.or_eq_true, Bool.and_eq_true, Bool.or_eq_false_iff, Bool.and_eq_false_iff, Int.not_lt, Int.not_le, Bool.not_true, Bool.not_false, not_and, not_or] at h3)
        have hkk := kind_t h3.1.1.1.1.1
        have e0 : troopB w k = !seenC w k (w.troops.getD k default).c := by
          rw [troopB_eq hn, hkk, kind_load hkk, h3.1.1.1.1.2, h3.1.1.1.2, h3.1.1.2, h3.1.2, h3.2]; rfl
        have hg : mget [(w.troops.getD k default).c.x, (w.troops.getD k default).c.y] es = if seenC w k (w.troops.getD k default).c = true then 1 else 0 := hm (w.troops.getD k default).c
        have hg2 : 0 ≤ mget [(w.troops.getD k default).c.x, (w.troops.getD k default).c.y] es ∧ mget [(w.troops.getD k default).c.x, (w.troops.getD k default).c.y] es ≤ 1 := by rw [hg]; split <;> omega
        obtain ⟨es', hes'⟩ : ∃ es', es' = mput [(w.troops.getD k default).c.x, (w.troops.getD k default).c.y] (mget [(w.troops.getD k default).c.x, (w.troops.getD k default).c.y] es + 1) es := ⟨_, rfl⟩
        have hp1 := mget_put [(w.troops.getD k default).c.x, (w.troops.getD k default).c.y] (mget [(w.troops.getD k default).c.x, (w.troops.getD k default).c.y] es + 1) es
        have hp2 := fun c => mget_put_if [(w.troops.getD k default).c.x, (w.troops.getD k default).c.y] (tkeyC c) (mget [(w.troops.getD k default).c.x, (w.troops.getD k default).c.y] es + 1) es
        rw [← hes'] at hp1 hp2
        have hmp := mpos_lt [(w.troops.getD k default).c.x, (w.troops.getD k default).c.y] es
        (iterate 2 ((try simp (etaStruct := .none) only [push_cast, DrawG, Int.cast_ofNat_Int, Nat.reduceAdd, Nat.reduceSub, Nat.reduceMul, reduceCtorEq, reduceIte, Nat.reduceEqDiff, Nat.reduceLT, Nat.reduceLeDiff, Nat.reduceBEq, Int.reduceToNat, Int.reduceLE, Int.reduceLT, beq_self_eq_true, getD_in _ _ _ hlt, trpP, mput_def, ← hes', hp1]); (try simp (disch := omega) only [wrap_in, wk_self, Int.tdiv_eq_ediv_of_nonneg, Int.tmod_eq_emod_of_nonneg]); (repeat (with_reducible refine And.intro ?_ ?_; · first | omega | decide | (simp; done) | (simp; omega) | (intro hh; refine ⟨hh, ?_⟩; omega) | (simp +contextual; done)))))
        (try (refine ⟨by kernel_rfl, ?_⟩))
        (iterate 2 ((try simp (etaStruct := .none) only [push_cast, DrawG, Int.cast_ofNat_Int, Nat.reduceAdd, Nat.reduceSub, Nat.reduceMul, reduceCtorEq, reduceIte, Nat.reduceEqDiff, Nat.reduceLT, Nat.reduceLeDiff, Nat.reduceBEq, Int.reduceToNat, Int.reduceLE, Int.reduceLT, beq_self_eq_true, getD_in _ _ _ hlt, trpP, mput_def, ← hes', hp1]); (try simp (disch := omega) only [wrap_in, wk_self, Int.tdiv_eq_ediv_of_nonneg, Int.tmod_eq_emod_of_nonneg]); (repeat (with_reducible refine And.intro ?_ ?_; · first | omega | decide | (simp; done) | (simp; omega) | (intro hh; refine ⟨hh, ?_⟩; omega) | (simp +contextual; done)))))
        refine cond_i (fun h4 => ?_) (fun h4 => ?_)
        · (try simp only [decide_eq_true_eq, decide_eq_false_iff_not, Bool.not_eq_true', Bool.not_eq_false', Bool.or_eq_true, Bool.and_eq_true, Bool.or_eq_false_iff, Bool.and_eq_false_iff, Int.not_lt, Int.not_le, Bool.not_true, Bool.not_false, not_and, not_or] at h4)
          have hs : seenC w k (w.troops.getD k default).c = true := by
            cases hs : seenC w k (w.troops.getD k default).c with
            | true => rfl
            | false => rw [hg, hs] at h4; simp at h4
          have e : troopsV w = false := by unfold troopsV; rw [allN_not hlt (by rw [e0, hs]; rfl)]; simp
          (iterate 2 ((try simp (etaStruct := .none) only [push_cast, DrawG, Int.cast_ofNat_Int, Nat.reduceAdd, Nat.reduceSub, Nat.reduceMul, reduceCtorEq, reduceIte, Nat.reduceEqDiff, Nat.reduceLT, Nat.reduceLeDiff, Nat.reduceBEq, Int.reduceToNat, Int.reduceLE, Int.reduceLT, beq_self_eq_true, getD_in _ _ _ hlt, trpP, mput_def, ← hes', hp1]); (try simp (disch := omega) only [wrap_in, wk_self, Int.tdiv_eq_ediv_of_nonneg, Int.tmod_eq_emod_of_nonneg]); (repeat (with_reducible refine And.intro ?_ ?_; · first | omega | decide | (simp; done) | (simp; omega) | (intro hh; refine ⟨hh, ?_⟩; omega) | (simp +contextual; done)))))
          (first | (refine ret0 rfl (by repeat' (first | exact trivial | exact rfl | refine ⟨?_, ?_⟩)) (Wk.of ?_); (try simp (etaStruct := .none) only [push_cast, DrawG, Int.cast_ofNat_Int, Nat.reduceAdd, Nat.reduceSub, Nat.reduceMul, reduceCtorEq, reduceIte, Nat.reduceEqDiff, Nat.reduceLT, Nat.reduceLeDiff, Nat.reduceBEq, Int.reduceToNat, Int.reduceLE, Int.reduceLT]); first | done | (simp [e, *]; done) | (simp_all [e]; done)) | (refine ret0 rfl (by repeat' (first | exact trivial | exact rfl | refine ⟨?_, ?_⟩)) ?_; (try simp (etaStruct := .none) only [push_cast, DrawG, Int.cast_ofNat_Int, Nat.reduceAdd, Nat.reduceSub, Nat.reduceMul, reduceCtorEq, reduceIte, Nat.reduceEqDiff, Nat.reduceLT, Nat.reduceLeDiff, Nat.reduceBEq, Int.reduceToNat, Int.reduceLE, Int.reduceLT]); (try simp [e, *]); (try (first | exact Wk.refl _ | exact Wk.nil _ | (refine Wk.tup ?_; repeat' (first | exact trivial | exact Wk.refl _ | exact Wk.nil _ | refine ⟨?_, ?_⟩ | (refine Wk.agg ?_)))))))
        · (try simp only [decide_eq_true_eq, decide_eq_false_iff_not, Bool.not_eq_true', Bool.not_eq_false', Bool.or_eq_true, Bool.and_eq_true, Bool.or_eq_false_iff, Bool.and_eq_false_iff, Int.not_lt, Int.not_le, Bool.not_true, Bool.not_false, not_and, not_or] at h4)
          have hs : seenC w k (w.troops.getD k default).c = false := by
            cases hs : seenC w k (w.troops.getD k default).c with
            | false => rfl
            | true => rw [hg, hs] at h4; simp at h4
          (iterate 2 ((try simp (etaStruct := .none) only [push_cast, DrawG, Int.cast_ofNat_Int, Nat.reduceAdd, Nat.reduceSub, Nat.reduceMul, reduceCtorEq, reduceIte, Nat.reduceEqDiff, Nat.reduceLT, Nat.reduceLeDiff, Nat.reduceBEq, Int.reduceToNat, Int.reduceLE, Int.reduceLT, beq_self_eq_true, getD_in _ _ _ hlt, trpP, mput_def, ← hes', hp1]); (try simp (disch := omega) only [wrap_in, wk_self, Int.tdiv_eq_ediv_of_nonneg, Int.tmod_eq_emod_of_nonneg]); (repeat (with_reducible refine And.intro ?_ ?_; · first | omega | decide | (simp; done) | (simp; omega) | (intro hh; refine ⟨hh, ?_⟩; omega) | (simp +contextual; done)))))
          refine ⟨(k + 1, es'), ⟨by simp only; omega, by simp only; rw [allN, hn, e0, hs]; rfl, fun c => by
  simp only
  rw [hp2 c, seenC_succ, hg, hs]
  by_cases hc : (w.troops.getD k default).c = c
  · rw [if_pos (show tkeyC c = [(w.troops.getD k default).c.x, (w.troops.getD k default).c.y] from tkeyC_inj.2 hc.symm), decide_eq_true hc]; simp
  · rw [if_neg (show ¬ tkeyC c = [(w.troops.getD k default).c.x, (w.troops.getD k default).c.y] from fun h => hc (tkeyC_inj.1 h).symm), decide_eq_false hc, hm c, Bool.or_false]⟩, by simp only; omega, To.mk [0, 1] rfl rfl (by decide) ?_ ?_⟩
          · (iterate 2 ((try simp (etaStruct := .none) only [push_cast, DrawG, Int.cast_ofNat_Int, Nat.reduceAdd, Nat.reduceSub, Nat.reduceMul, reduceCtorEq, reduceIte, Nat.reduceEqDiff, Nat.reduceLT, Nat.reduceLeDiff, Nat.reduceBEq, Int.reduceToNat, Int.reduceLE, Int.reduceLT, beq_self_eq_true, getD_in _ _ _ hlt, trpP, mput_def, ← hes', hp1]); (try simp (disch := omega) only [wrap_in, wk_self, Int.tdiv_eq_ediv_of_nonneg, Int.tmod_eq_emod_of_nonneg]); (repeat (with_reducible refine And.intro ?_ ?_; · first | omega | decide | (simp; done) | (simp; omega) | (intro hh; refine ⟨hh, ?_⟩; omega) | (simp +contextual; done)))))
          · (iterate 2 ((try simp (etaStruct := .none) only [push_cast, DrawG, Int.cast_ofNat_Int, Nat.reduceAdd, Nat.reduceSub, Nat.reduceMul, reduceCtorEq, reduceIte, Nat.reduceEqDiff, Nat.reduceLT, Nat.reduceLeDiff, Nat.reduceBEq, Int.reduceToNat, Int.reduceLE, Int.reduceLT, lastV_s]); (try simp (disch := omega) only [wrap_in, wk_self, Int.tdiv_eq_ediv_of_nonneg, Int.tmod_eq_emod_of_nonneg]); (repeat (with_reducible refine And.intro ?_ ?_; · first | omega | decide | (simp; done) | (simp; omega) | (intro hh; refine ⟨hh, ?_⟩; omega) | (simp +contextual; done)))))
  · (try simp only [decide_eq_true_eq, decide_eq_false_iff_not, Bool.not_eq_true', Bool.not_eq_false', Bool.or_eq_true, Bool.and_eq_true, Bool.or_eq_false_iff, Bool.and_eq_false_iff, Int.not_lt, Int.not_le, Bool.not_true, Bool.not_false, not_and, not_or] at h1)
    obtain rfl : k = w.troops.length := by omega
    have e : troopsV w = true := by unfold troopsV; rw [hn1, hn2, hn]; rfl
    (iterate 2 ((try simp (etaStruct := .none) only [push_cast, DrawG, Int.cast_ofNat_Int, Nat.reduceAdd, Nat.reduceSub, Nat.reduceMul, reduceCtorEq, reduceIte, Nat.reduceEqDiff, Nat.reduceLT, Nat.reduceLeDiff, Nat.reduceBEq, Int.reduceToNat, Int.reduceLE, Int.reduceLT, beq_self_eq_true]); (try simp (disch := omega) only [wrap_in, wk_self, Int.tdiv_eq_ediv_of_nonneg, Int.tmod_eq_emod_of_nonneg]); (repeat (with_reducible refine And.intro ?_ ?_; · first | omega | decide | (simp; done) | (simp; omega) | (intro hh; refine ⟨hh, ?_⟩; omega) | (simp +contextual; done)))))
    refine callP (twithin_s w.next 1 1000000) (WkL.refl _) ?_
    (iterate 2 ((try simp (etaStruct := .none) only [push_cast, DrawG, Int.cast_ofNat_Int, Nat.reduceAdd, Nat.reduceSub, Nat.reduceMul, reduceCtorEq, reduceIte, Nat.reduceEqDiff, Nat.reduceLT, Nat.reduceLeDiff, Nat.reduceBEq, Int.reduceToNat, Int.reduceLE, Int.reduceLT, beq_self_eq_true]); (try simp (disch := omega) only [wrap_in, wk_self, Int.tdiv_eq_ediv_of_nonneg, Int.tmod_eq_emod_of_nonneg]); (repeat (with_reducible refine And.intro ?_ ?_; · first | omega | decide | (simp; done) | (simp; omega) | (intro hh; refine ⟨hh, ?_⟩; omega) | (simp +contextual; done)))))
    refine gcallP (fun hcc => twithin_s w.now 0 1000000) (WkL.refl _) (by intro hc; (try simp (etaStruct := .none) only [push_cast, DrawG, Int.cast_ofNat_Int, Nat.reduceAdd, Nat.reduceSub, Nat.reduceMul, reduceCtorEq, reduceIte, Nat.reduceEqDiff, Nat.reduceLT, Nat.reduceLeDiff, Nat.reduceBEq, Int.reduceToNat, Int.reduceLE, Int.reduceLT]); (try simp_all)) ?_
    (iterate 2 ((try simp (etaStruct := .none) only [push_cast, DrawG, Int.cast_ofNat_Int, Nat.reduceAdd, Nat.reduceSub, Nat.reduceMul, reduceCtorEq, reduceIte, Nat.reduceEqDiff, Nat.reduceLT, Nat.reduceLeDiff, Nat.reduceBEq, Int.reduceToNat, Int.reduceLE, Int.reduceLT, beq_self_eq_true]); (try simp (disch := omega) only [wrap_in, wk_self, Int.tdiv_eq_ediv_of_nonneg, Int.tmod_eq_emod_of_nonneg]); (repeat (with_reducible refine And.intro ?_ ?_; · first | omega | decide | (simp; done) | (simp; omega) | (intro hh; refine ⟨hh, ?_⟩; omega) | (simp +contextual; done)))))
    exact ret0 rfl trivial (Wk.of (by rw [e, hn1, hn2]; rfl))
theorem ttroops_bad (w : Wld) (hl : wldL w) (hf : fldE w.f = 0) (hb : (within w.next 1 1000000 && within w.now 0 1000000) = false) : Spec Try.prog 214 [wldA w] [] (B (troopsV w)) [] := by
  obtain ⟨l1, l2, l3, l4, l5⟩ := hl
  have e : troopsV w = false := by unfold troopsV; rw [hb]; rfl
  refine spec_am Try.func214 rfl rfl mix 96 rfl [.tmp 2] Try.results214 (Nat.le_of_ble_eq_true rfl) ?_
  (iterate 2 ((try simp (etaStruct := .none) only [push_cast, DrawG, Int.cast_ofNat_Int, Nat.reduceAdd, Nat.reduceSub, Nat.reduceMul, reduceCtorEq, reduceIte, Nat.reduceEqDiff, Nat.reduceLT, Nat.reduceLeDiff, Nat.reduceBEq, Int.reduceToNat, Int.reduceLE, Int.reduceLT, beq_self_eq_true]); (try simp (disch := omega) only [wrap_in, wk_self, Int.tdiv_eq_ediv_of_nonneg, Int.tmod_eq_emod_of_nonneg]); (repeat (with_reducible refine And.intro ?_ ?_; · first | omega | decide | (simp; done) | (simp; omega) | (intro hh; refine ⟨hh, ?_⟩; omega) | (simp +contextual; done)))))
  refine loopI (fun x : Nat × Int × List (List Int × Int) => ⟨[(14, I .i64 x.1), (13, I .i64 w.troops.length), (12, .c (.sl 7 (w.troops.map trpP))), (4, .map 1), (3, I .i64 x.2.1), (1, .ptr 0 0 0)], [(0, .blk 91 (wldC w)), (1, .mp true 2 x.2.2)], 2⟩) (fun x : Nat × Int × List (List Int × Int) => x.1 ≤ w.troops.length) (fun x : Nat × Int × List (List Int × Int) => w.troops.length - x.1) ((0, 0, [])) (Nat.zero_le _) (To.mk [0, 1] rfl rfl (by decide) ?_ ?_) ?_
  · simp (etaStruct := .none) only [push_cast, DrawG, Int.cast_ofNat_Int, Nat.reduceAdd, Nat.reduceSub, Nat.reduceMul, reduceCtorEq, reduceIte, Nat.reduceEqDiff, Nat.reduceLT, Nat.reduceLeDiff, Nat.reduceBEq, Int.reduceToNat, Int.reduceLE, Int.reduceLT]
  · simp (etaStruct := .none) only [push_cast, DrawG, Int.cast_ofNat_Int, Nat.reduceAdd, Nat.reduceSub, Nat.reduceMul, reduceCtorEq, reduceIte, Nat.reduceEqDiff, Nat.reduceLT, Nat.reduceLeDiff, Nat.reduceBEq, Int.reduceToNat, Int.reduceLE, Int.reduceLT]
  rintro ⟨k, last, es⟩ hk
  simp only at hk
  (iterate 2 ((try simp (etaStruct := .none) only [push_cast, DrawG, Int.cast_ofNat_Int, Nat.reduceAdd, Nat.reduceSub, Nat.reduceMul, reduceCtorEq, reduceIte, Nat.reduceEqDiff, Nat.reduceLT, Nat.reduceLeDiff, Nat.reduceBEq, Int.reduceToNat, Int.reduceLE, Int.reduceLT, beq_self_eq_true]); (try simp (disch := omega) only [wrap_in, wk_self, Int.tdiv_eq_ediv_of_nonneg, Int.tmod_eq_emod_of_nonneg]); (repeat (with_reducible refine And.intro ?_ ?_; · first | omega | decide | (simp; done) | (simp; omega) | (intro hh; refine ⟨hh, ?_⟩; omega) | (simp +contextual; done)))))
  refine cond_i (fun h1 => ?_) (fun h1 => ?_)
  · (try simp only [decide_eq_true_eq, decide_eq_false_iff_not, Bool.not_eq_true', Bool.not_eq_false', Bool.or_eq_true, Bool.and_eq_true, Bool.or_eq_false_iff, Bool.and_eq_false_iff, Int.not_lt, Int.not_le, Bool.not_true, Bool.not_false, not_and, not_or] at h1)
    have hlt : k < w.troops.length := by omega
    (iterate 2 ((try simp (etaStruct := .none) only [push_cast, DrawG, Int.cast_ofNat_Int, Nat.reduceAdd, Nat.reduceSub, Nat.reduceMul, reduceCtorEq, reduceIte, Nat.reduceEqDiff, Nat.reduceLT, Nat.reduceLeDiff, Nat.reduceBEq, Int.reduceToNat, Int.reduceLE, Int.reduceLT, beq_self_eq_true, getD_in _ _ _ hlt, trpP]); (try simp (disch := omega) only [wrap_in, wk_self, Int.tdiv_eq_ediv_of_nonneg, Int.tmod_eq_emod_of_nonneg]); (repeat (with_reducible refine And.intro ?_ ?_; · first | omega | decide | (simp; done) | (simp; omega) | (intro hh; refine ⟨hh, ?_⟩; omega) | (simp +contextual; done)))))
    refine callP (tkind_s (w.troops.getD k default).kind) (WkL.refl _) ?_
    (iterate 2 ((try simp (etaStruct := .none) only [push_cast, DrawG, Int.cast_ofNat_Int, Nat.reduceAdd, Nat.reduceSub, Nat.reduceMul, reduceCtorEq, reduceIte, Nat.reduceEqDiff, Nat.reduceLT, Nat.reduceLeDiff, Nat.reduceBEq, Int.reduceToNat, Int.reduceLE, Int.reduceLT, beq_self_eq_true, getD_in _ _ _ hlt, trpP]); (try simp (disch := omega) only [wrap_in, wk_self, Int.tdiv_eq_ediv_of_nonneg, Int.tmod_eq_emod_of_nonneg]); (repeat (with_reducible refine And.intro ?_ ?_; · first | omega | decide | (simp; done) | (simp; omega) | (intro hh; refine ⟨hh, ?_⟩; omega) | (simp +contextual; done)))))
    refine cond_j (fun m : Int => ⟨[(14, I .i64 k), (13, I .i64 w.troops.length), (12, .c (.sl 7 (w.troops.map trpP))), (9, I .i64 m), (8, I .i64 (kindE (w.troops.getD k default).kind)), (7, .ptr 3 0 0), (6, .ptr 2 0 0), (4, .map 1), (3, I .i64 last), (1, .ptr 0 0 0)], [(0, .blk 91 (wldC w)), (1, .mp true 2 es), (2, .blk 103 (trpC (w.troops.getD k default))), (3, .blk 242 [I .i64 (kindV (w.troops.getD k default).kind).life, I .i64 (kindV (w.troops.getD k default).kind).blow, I .i64 (kindV (w.troops.getD k default).kind).load, I .i64 (kindV (w.troops.getD k default).kind).price])], 4⟩) (fun m : Int => Tr) (fun h2 => ?_) (fun h2 => ?_) ?_
    · (try simp only [decide_eq_true_eq, decide_eq_false_iff_not, Bool.not_eq_true', Bool.not_eq_false', Bool.or_eq_true, Bool.and_eq_true, Bool.or_eq_false_iff, Bool.and_eq_false_iff, Int.not_lt, Int.not_le, Bool.not_true, Bool.not_false, not_and, not_or] at h2)
      (iterate 2 ((try simp (etaStruct := .none) only [push_cast, DrawG, Int.cast_ofNat_Int, Nat.reduceAdd, Nat.reduceSub, Nat.reduceMul, reduceCtorEq, reduceIte, Nat.reduceEqDiff, Nat.reduceLT, Nat.reduceLeDiff, Nat.reduceBEq, Int.reduceToNat, Int.reduceLE, Int.reduceLT, beq_self_eq_true, getD_in _ _ _ hlt, trpP]); (try simp (disch := omega) only [wrap_in, wk_self, Int.tdiv_eq_ediv_of_nonneg, Int.tmod_eq_emod_of_nonneg]); (repeat (with_reducible refine And.intro ?_ ?_; · first | omega | decide | (simp; done) | (simp; omega) | (intro hh; refine ⟨hh, ?_⟩; omega) | (simp +contextual; done)))))
      refine ⟨5, trI, To.mk [0, 1, 2, 3] rfl rfl (by decide) ?_ ?_⟩
      · (iterate 2 ((try simp (etaStruct := .none) only [push_cast, DrawG, Int.cast_ofNat_Int, Nat.reduceAdd, Nat.reduceSub, Nat.reduceMul, reduceCtorEq, reduceIte, Nat.reduceEqDiff, Nat.reduceLT, Nat.reduceLeDiff, Nat.reduceBEq, Int.reduceToNat, Int.reduceLE, Int.reduceLT, beq_self_eq_true, getD_in _ _ _ hlt, trpP]); (try simp (disch := omega) only [wrap_in, wk_self, Int.tdiv_eq_ediv_of_nonneg, Int.tmod_eq_emod_of_nonneg]); (repeat (with_reducible refine And.intro ?_ ?_; · first | omega | decide | (simp; done) | (simp; omega) | (intro hh; refine ⟨hh, ?_⟩; omega) | (simp +contextual; done)))))
      · (iterate 2 ((try simp (etaStruct := .none) only [push_cast, DrawG, Int.cast_ofNat_Int, Nat.reduceAdd, Nat.reduceSub, Nat.reduceMul, reduceCtorEq, reduceIte, Nat.reduceEqDiff, Nat.reduceLT, Nat.reduceLeDiff, Nat.reduceBEq, Int.reduceToNat, Int.reduceLE, Int.reduceLT, beq_self_eq_true, getD_in _ _ _ hlt, trpP]); (try simp (disch := omega) only [wrap_in, wk_self, Int.tdiv_eq_ediv_of_nonneg, Int.tmod_eq_emod_of_nonneg]); (repeat (with_reducible refine And.intro ?_ ?_; · first | omega | decide | (simp; done) | (simp; omega) | (intro hh; refine ⟨hh, ?_⟩; omega) | (simp +contextual; done)))))
    · (try simp only [decide_eq_true_eq, decide_eq_false_iff_not, Bool.not_eq_true', Bool.not_eq_false', Bool.or_eq_true, Bool.and_eq_true, Bool.or_eq_false_iff, Bool.and_eq_false_iff, Int.not_lt, Int.not_le, Bool.not_true, Bool.not_false, not_and, not_or] at h2)
      (iterate 2 ((try simp (etaStruct := .none) only [push_cast, DrawG, Int.cast_ofNat_Int, Nat.reduceAdd, Nat.reduceSub, Nat.reduceMul, reduceCtorEq, reduceIte, Nat.reduceEqDiff, Nat.reduceLT, Nat.reduceLeDiff, Nat.reduceBEq, Int.reduceToNat, Int.reduceLE, Int.reduceLT, beq_self_eq_true, getD_in _ _ _ hlt, trpP]); (try simp (disch := omega) only [wrap_in, wk_self, Int.tdiv_eq_ediv_of_nonneg, Int.tmod_eq_emod_of_nonneg]); (repeat (with_reducible refine And.intro ?_ ?_; · first | omega | decide | (simp; done) | (simp; omega) | (intro hh; refine ⟨hh, ?_⟩; omega) | (simp +contextual; done)))))
      refine ⟨0, trI, To.mk [0, 1, 2, 3] rfl rfl (by decide) ?_ ?_⟩
      · (iterate 2 ((try simp (etaStruct := .none) only [push_cast, DrawG, Int.cast_ofNat_Int, Nat.reduceAdd, Nat.reduceSub, Nat.reduceMul, reduceCtorEq, reduceIte, Nat.reduceEqDiff, Nat.reduceLT, Nat.reduceLeDiff, Nat.reduceBEq, Int.reduceToNat, Int.reduceLE, Int.reduceLT, beq_self_eq_true, getD_in _ _ _ hlt, trpP]); (try simp (disch := omega) only [wrap_in, wk_self, Int.tdiv_eq_ediv_of_nonneg, Int.tmod_eq_emod_of_nonneg]); (repeat (with_reducible refine And.intro ?_ ?_; · first | omega | decide | (simp; done) | (simp; omega) | (intro hh; refine ⟨hh, ?_⟩; omega) | (simp +contextual; done)))))
      · (iterate 2 ((try simp (etaStruct := .none) only [push_cast, DrawG, Int.cast_ofNat_Int, Nat.reduceAdd, Nat.reduceSub, Nat.reduceMul, reduceCtorEq, reduceIte, Nat.reduceEqDiff, Nat.reduceLT, Nat.reduceLeDiff, Nat.reduceBEq, Int.reduceToNat, Int.reduceLE, Int.reduceLT, beq_self_eq_true, getD_in _ _ _ hlt, trpP]); (try simp (disch := omega) only [wrap_in, wk_self, Int.tdiv_eq_ediv_of_nonneg, Int.tmod_eq_emod_of_nonneg]); (repeat (with_reducible refine And.intro ?_ ?_; · first | omega | decide | (simp; done) | (simp; omega) | (intro hh; refine ⟨hh, ?_⟩; omega) | (simp +contextual; done)))))
    · rintro m _
      (iterate 2 ((try simp (etaStruct := .none) only [push_cast, DrawG, Int.cast_ofNat_Int, Nat.reduceAdd, Nat.reduceSub, Nat.reduceMul, reduceCtorEq, reduceIte, Nat.reduceEqDiff, Nat.reduceLT, Nat.reduceLeDiff, Nat.reduceBEq, Int.reduceToNat, Int.reduceLE, Int.reduceLT, beq_self_eq_true, getD_in _ _ _ hlt, trpP]); (try simp (disch := omega) only [wrap_in, wk_self, Int.tdiv_eq_ediv_of_nonneg, Int.tmod_eq_emod_of_nonneg]); (repeat (with_reducible refine And.intro ?_ ?_; · first | omega | decide | (simp; done) | (simp; omega) | (intro hh; refine ⟨hh, ?_⟩; omega) | (simp +contextual; done)))))
      refine gcallP (fun hcc => twithin_s (w.troops.getD k default).id _ _) (WkL.refl _) (by intro hc; (try simp (etaStruct := .none) only [push_cast, DrawG, Int.cast_ofNat_Int, Nat.reduceAdd, Nat.reduceSub, Nat.reduceMul, reduceCtorEq, reduceIte, Nat.reduceEqDiff, Nat.reduceLT, Nat.reduceLeDiff, Nat.reduceBEq, Int.reduceToNat, Int.reduceLE, Int.reduceLT]); (try simp_all)) ?_
      (iterate 2 ((try simp (etaStruct := .none) only [push_cast, DrawG, Int.cast_ofNat_Int, Nat.reduceAdd, Nat.reduceSub, Nat.reduceMul, reduceCtorEq, reduceIte, Nat.reduceEqDiff, Nat.reduceLT, Nat.reduceLeDiff, Nat.reduceBEq, Int.reduceToNat, Int.reduceLE, Int.reduceLT, beq_self_eq_true, getD_in _ _ _ hlt, trpP]); (try simp (disch := omega) only [wrap_in, wk_self, Int.tdiv_eq_ediv_of_nonneg, Int.tmod_eq_emod_of_nonneg]); (repeat (with_reducible refine And.intro ?_ ?_; · first | omega | decide | (simp; done) | (simp; omega) | (intro hh; refine ⟨hh, ?_⟩; omega) | (simp +contextual; done)))))
      refine gcallP (fun hcc => twithin_s (w.troops.getD k default).owner 0 ((w.bases.length : Int) - 1)) (WkL.refl _) (by intro hc; (try simp (etaStruct := .none) only [push_cast, DrawG, Int.cast_ofNat_Int, Nat.reduceAdd, Nat.reduceSub, Nat.reduceMul, reduceCtorEq, reduceIte, Nat.reduceEqDiff, Nat.reduceLT, Nat.reduceLeDiff, Nat.reduceBEq, Int.reduceToNat, Int.reduceLE, Int.reduceLT]); (try simp_all)) ?_
      (iterate 2 ((try simp (etaStruct := .none) only [push_cast, DrawG, Int.cast_ofNat_Int, Nat.reduceAdd, Nat.reduceSub, Nat.reduceMul, reduceCtorEq, reduceIte, Nat.reduceEqDiff, Nat.reduceLT, Nat.reduceLeDiff, Nat.reduceBEq, Int.reduceToNat, Int.reduceLE, Int.reduceLT, beq_self_eq_true, getD_in _ _ _ hlt, trpP]); (try simp (disch := omega) only [wrap_in, wk_self, Int.tdiv_eq_ediv_of_nonneg, Int.tmod_eq_emod_of_nonneg]); (repeat (with_reducible refine And.intro ?_ ?_; · first | omega | decide | (simp; done) | (simp; omega) | (intro hh; refine ⟨hh, ?_⟩; omega) | (simp +contextual; done)))))
      refine gcallP (fun hcc => tground_s w.f (w.troops.getD k default).c hf l1) (WkL.refl _) (by intro hc; (try simp (etaStruct := .none) only [push_cast, DrawG, Int.cast_ofNat_Int, Nat.reduceAdd, Nat.reduceSub, Nat.reduceMul, reduceCtorEq, reduceIte, Nat.reduceEqDiff, Nat.reduceLT, Nat.reduceLeDiff, Nat.reduceBEq, Int.reduceToNat, Int.reduceLE, Int.reduceLT]); (try simp_all)) ?_
      (iterate 2 ((try simp (etaStruct := .none) only [push_cast, DrawG, Int.cast_ofNat_Int, Nat.reduceAdd, Nat.reduceSub, Nat.reduceMul, reduceCtorEq, reduceIte, Nat.reduceEqDiff, Nat.reduceLT, Nat.reduceLeDiff, Nat.reduceBEq, Int.reduceToNat, Int.reduceLE, Int.reduceLT, beq_self_eq_true, getD_in _ _ _ hlt, trpP]); (try simp (disch := omega) only [wrap_in, wk_self, Int.tdiv_eq_ediv_of_nonneg, Int.tmod_eq_emod_of_nonneg]); (repeat (with_reducible refine And.intro ?_ ?_; · first | omega | decide | (simp; done) | (simp; omega) | (intro hh; refine ⟨hh, ?_⟩; omega) | (simp +contextual; done)))))
      refine gcallP (fun hcc => twithin_s (w.troops.getD k default).life 1 (kindV (w.troops.getD k default).kind).life) (WkL.refl _) (by intro hc; (try simp (etaStruct := .none) only [push_cast, DrawG, Int.cast_ofNat_Int, Nat.reduceAdd, Nat.reduceSub, Nat.reduceMul, reduceCtorEq, reduceIte, Nat.reduceEqDiff, Nat.reduceLT, Nat.reduceLeDiff, Nat.reduceBEq, Int.reduceToNat, Int.reduceLE, Int.reduceLT]); (try simp_all)) ?_
      (iterate 2 ((try simp (etaStruct := .none) only [push_cast, DrawG, Int.cast_ofNat_Int, Nat.reduceAdd, Nat.reduceSub, Nat.reduceMul, reduceCtorEq, reduceIte, Nat.reduceEqDiff, Nat.reduceLT, Nat.reduceLeDiff, Nat.reduceBEq, Int.reduceToNat, Int.reduceLE, Int.reduceLT, beq_self_eq_true, getD_in _ _ _ hlt, trpP]); (try simp (disch := omega) only [wrap_in, wk_self, Int.tdiv_eq_ediv_of_nonneg, Int.tmod_eq_emod_of_nonneg]); (repeat (with_reducible refine And.intro ?_ ?_; · first | omega | decide | (simp; done) | (simp; omega) | (intro hh; refine ⟨hh, ?_⟩; omega) | (simp +contextual; done)))))
      refine gcallP (fun hcc => twithin_s (w.troops.getD k default).load 0 m) (WkL.refl _) (by intro hc; (try simp (etaStruct := .none) only [push_cast, DrawG, Int.cast_ofNat_Int, Nat.reduceAdd, Nat.reduceSub, Nat.reduceMul, reduceCtorEq, reduceIte, Nat.reduceEqDiff, Nat.reduceLT, Nat.reduceLeDiff, Nat.reduceBEq, Int.reduceToNat, Int.reduceLE, Int.reduceLT]); (try simp_all)) ?_
      (iterate 2 ((try simp (etaStruct := .none) only [push_cast, DrawG, Int.cast_ofNat_Int, Nat.reduceAdd, Nat.reduceSub, Nat.reduceMul, reduceCtorEq, reduceIte, Nat.reduceEqDiff, Nat.reduceLT, Nat.reduceLeDiff, Nat.reduceBEq, Int.reduceToNat, Int.reduceLE, Int.reduceLT, beq_self_eq_true, getD_in _ _ _ hlt, trpP]); (try simp (disch := omega) only [wrap_in, wk_self, Int.tdiv_eq_ediv_of_nonneg, Int.tmod_eq_emod_of_nonneg]); (repeat (with_reducible refine And.intro ?_ ?_; · first | omega | decide | (simp; done) | (simp; omega) | (intro hh; refine ⟨hh, ?_⟩; omega) | (simp +contextual; done)))))
      refine cond_i (fun h3 => ?_) (fun h3 => ?_)
      · (try simp only [decide_eq_true_eq, decide_eq_false_iff_not, Bool.not_eq_true', Bool.not_eq_false', Bool.or_eq_true, Bool.and_eq_true, Bool.or_eq_false_iff, Bool.and_eq_false_iff, Int.not_lt, Int.not_le, Bool.not_true, Bool.not_false, not_and, not_or] at h3)
        (iterate 2 ((try simp (etaStruct := .none) only [push_cast, DrawG, Int.cast_ofNat_Int, Nat.reduceAdd, Nat.reduceSub, Nat.reduceMul, reduceCtorEq, reduceIte, Nat.reduceEqDiff, Nat.reduceLT, Nat.reduceLeDiff, Nat.reduceBEq, Int.reduceToNat, Int.reduceLE, Int.reduceLT, beq_self_eq_true, getD_in _ _ _ hlt, trpP]); (try simp (disch := omega) only [wrap_in, wk_self, Int.tdiv_eq_ediv_of_nonneg, Int.tmod_eq_emod_of_nonneg]); (repeat (with_reducible refine And.intro ?_ ?_; · first | omega | decide | (simp; done) | (simp; omega) | (intro hh; refine ⟨hh, ?_⟩; omega) | (simp +contextual; done)))))
        (first | (refine ret0 rfl (by repeat' (first | exact trivial | exact rfl | refine ⟨?_, ?_⟩)) (Wk.of ?_); (try simp (etaStruct := .none) only [push_cast, DrawG, Int.cast_ofNat_Int, Nat.reduceAdd, Nat.reduceSub, Nat.reduceMul, reduceCtorEq, reduceIte, Nat.reduceEqDiff, Nat.reduceLT, Nat.reduceLeDiff, Nat.reduceBEq, Int.reduceToNat, Int.reduceLE, Int.reduceLT]); first | done | (simp [e, *]; done) | (simp_all [e]; done)) | (refine ret0 rfl (by repeat' (first | exact trivial | exact rfl | refine ⟨?_, ?_⟩)) ?_; (try simp (etaStruct := .none) only [push_cast, DrawG, Int.cast_ofNat_Int, Nat.reduceAdd, Nat.reduceSub, Nat.reduceMul, reduceCtorEq, reduceIte, Nat.reduceEqDiff, Nat.reduceLT, Nat.reduceLeDiff, Nat.reduceBEq, Int.reduceToNat, Int.reduceLE, Int.reduceLT]); (try simp [e, *]); (try (first | exact Wk.refl _ | exact Wk.nil _ | (refine Wk.tup ?_; repeat' (first | exact trivial | exact Wk.refl _ | exact Wk.nil _ | refine ⟨?_, ?_⟩ | (refine Wk.agg ?_)))))))
      · (try simp only [decide_eq_true_eq, decide_eq_false_iff_not, Bool.not_eq_true', Bool.not_eq_false', Bool.or_eq_true, Bool.and_eq_true, Bool.or_eq_false_iff, Bool.and_eq_false_iff, Int.not_lt, Int.not_le, Bool.not_true, Bool.not_false, not_and, not_or] at h3)
        have hmp := mpos_lt [(w.troops.getD k default).c.x, (w.troops.getD k default).c.y] es
        (iterate 2 ((try simp (etaStruct := .none) only [push_cast, DrawG, Int.cast_ofNat_Int, Nat.reduceAdd, Nat.reduceSub, Nat.reduceMul, reduceCtorEq, reduceIte, Nat.reduceEqDiff, Nat.reduceLT, Nat.reduceLeDiff, Nat.reduceBEq, Int.reduceToNat, Int.reduceLE, Int.reduceLT, beq_self_eq_true, getD_in _ _ _ hlt, trpP, mput_def]); (try simp (disch := omega) only [wrap_in, wk_self, Int.tdiv_eq_ediv_of_nonneg, Int.tmod_eq_emod_of_nonneg]); (repeat (with_reducible refine And.intro ?_ ?_; · first | omega | decide | (simp; done) | (simp; omega) | (intro hh; refine ⟨hh, ?_⟩; omega) | (simp +contextual; done)))))
        (try (refine ⟨by kernel_rfl, ?_⟩))
        (iterate 2 ((try simp (etaStruct := .none) only [push_cast, DrawG, Int.cast_ofNat_Int, Nat.reduceAdd, Nat.reduceSub, Nat.reduceMul, reduceCtorEq, reduceIte, Nat.reduceEqDiff, Nat.reduceLT, Nat.reduceLeDiff, Nat.reduceBEq, Int.reduceToNat, Int.reduceLE, Int.reduceLT, beq_self_eq_true, getD_in _ _ _ hlt, trpP, mput_def]); (try simp (disch := omega) only [wrap_in, wk_self, Int.tdiv_eq_ediv_of_nonneg, Int.tmod_eq_emod_of_nonneg]); (repeat (with_reducible refine And.intro ?_ ?_; · first | omega | decide | (simp; done) | (simp; omega) | (intro hh; refine ⟨hh, ?_⟩; omega) | (simp +contextual; done)))))
        refine cond_i (fun h4 => ?_) (fun h4 => ?_)
        · (try simp only [decide_eq_true_eq, decide_eq_false_iff_not, Bool.not_eq_true', Bool.not_eq_false', Bool.or_eq_true, Bool.and_eq_true, Bool.or_eq_false_iff, Bool.and_eq_false_iff, Int.not_lt, Int.not_le, Bool.not_true, Bool.not_false, not_and, not_or] at h4)
          (iterate 2 ((try simp (etaStruct := .none) only [push_cast, DrawG, Int.cast_ofNat_Int, Nat.reduceAdd, Nat.reduceSub, Nat.reduceMul, reduceCtorEq, reduceIte, Nat.reduceEqDiff, Nat.reduceLT, Nat.reduceLeDiff, Nat.reduceBEq, Int.reduceToNat, Int.reduceLE, Int.reduceLT, beq_self_eq_true, getD_in _ _ _ hlt, trpP, mput_def]); (try simp (disch := omega) only [wrap_in, wk_self, Int.tdiv_eq_ediv_of_nonneg, Int.tmod_eq_emod_of_nonneg]); (repeat (with_reducible refine And.intro ?_ ?_; · first | omega | decide | (simp; done) | (simp; omega) | (intro hh; refine ⟨hh, ?_⟩; omega) | (simp +contextual; done)))))
          (first | (refine ret0 rfl (by repeat' (first | exact trivial | exact rfl | refine ⟨?_, ?_⟩)) (Wk.of ?_); (try simp (etaStruct := .none) only [push_cast, DrawG, Int.cast_ofNat_Int, Nat.reduceAdd, Nat.reduceSub, Nat.reduceMul, reduceCtorEq, reduceIte, Nat.reduceEqDiff, Nat.reduceLT, Nat.reduceLeDiff, Nat.reduceBEq, Int.reduceToNat, Int.reduceLE, Int.reduceLT]); first | done | (simp [e, *]; done) | (simp_all [e]; done)) | (refine ret0 rfl (by repeat' (first | exact trivial | exact rfl | refine ⟨?_, ?_⟩)) ?_; (try simp (etaStruct := .none) only [push_cast, DrawG, Int.cast_ofNat_Int, Nat.reduceAdd, Nat.reduceSub, Nat.reduceMul, reduceCtorEq, reduceIte, Nat.reduceEqDiff, Nat.reduceLT, Nat.reduceLeDiff, Nat.reduceBEq, Int.reduceToNat, Int.reduceLE, Int.reduceLT]); (try simp [e, *]); (try (first | exact Wk.refl _ | exact Wk.nil _ | (refine Wk.tup ?_; repeat' (first | exact trivial | exact Wk.refl _ | exact Wk.nil _ | refine ⟨?_, ?_⟩ | (refine Wk.agg ?_)))))))
        · (try simp only [decide_eq_true_eq, decide_eq_false_iff_not, Bool.not_eq_true', Bool.not_eq_false', Bool.or_eq_true, Bool.and_eq_true, Bool.or_eq_false_iff, Bool.and_eq_false_iff, Int.not_lt, Int.not_le, Bool.not_true, Bool.not_false, not_and, not_or] at h4)
          (iterate 2 ((try simp (etaStruct := .none) only [push_cast, DrawG, Int.cast_ofNat_Int, Nat.reduceAdd, Nat.reduceSub, Nat.reduceMul, reduceCtorEq, reduceIte, Nat.reduceEqDiff, Nat.reduceLT, Nat.reduceLeDiff, Nat.reduceBEq, Int.reduceToNat, Int.reduceLE, Int.reduceLT, beq_self_eq_true, getD_in _ _ _ hlt, trpP, mput_def]); (try simp (disch := omega) only [wrap_in, wk_self, Int.tdiv_eq_ediv_of_nonneg, Int.tmod_eq_emod_of_nonneg]); (repeat (with_reducible refine And.intro ?_ ?_; · first | omega | decide | (simp; done) | (simp; omega) | (intro hh; refine ⟨hh, ?_⟩; omega) | (simp +contextual; done)))))
          refine ⟨(k + 1, (w.troops.getD k default).id, mput [(w.troops.getD k default).c.x, (w.troops.getD k default).c.y] (IntKind.i64.wrap (mget [(w.troops.getD k default).c.x, (w.troops.getD k default).c.y] es + 1)) es), by simp only; omega, by simp only; omega, To.mk [0, 1] rfl rfl (by decide) ?_ ?_⟩
          · (iterate 2 ((try simp (etaStruct := .none) only [push_cast, DrawG, Int.cast_ofNat_Int, Nat.reduceAdd, Nat.reduceSub, Nat.reduceMul, reduceCtorEq, reduceIte, Nat.reduceEqDiff, Nat.reduceLT, Nat.reduceLeDiff, Nat.reduceBEq, Int.reduceToNat, Int.reduceLE, Int.reduceLT, beq_self_eq_true, getD_in _ _ _ hlt, trpP, mput_def]); (try simp (disch := omega) only [wrap_in, wk_self, Int.tdiv_eq_ediv_of_nonneg, Int.tmod_eq_emod_of_nonneg]); (repeat (with_reducible refine And.intro ?_ ?_; · first | omega | decide | (simp; done) | (simp; omega) | (intro hh; refine ⟨hh, ?_⟩; omega) | (simp +contextual; done)))))
          · (iterate 2 ((try simp (etaStruct := .none) only [push_cast, DrawG, Int.cast_ofNat_Int, Nat.reduceAdd, Nat.reduceSub, Nat.reduceMul, reduceCtorEq, reduceIte, Nat.reduceEqDiff, Nat.reduceLT, Nat.reduceLeDiff, Nat.reduceBEq, Int.reduceToNat, Int.reduceLE, Int.reduceLT, beq_self_eq_true, getD_in _ _ _ hlt, trpP, mput_def]); (try simp (disch := omega) only [wrap_in, wk_self, Int.tdiv_eq_ediv_of_nonneg, Int.tmod_eq_emod_of_nonneg]); (repeat (with_reducible refine And.intro ?_ ?_; · first | omega | decide | (simp; done) | (simp; omega) | (intro hh; refine ⟨hh, ?_⟩; omega) | (simp +contextual; done)))))
  · (try simp only [decide_eq_true_eq, decide_eq_false_iff_not, Bool.not_eq_true', Bool.not_eq_false', Bool.or_eq_true, Bool.and_eq_true, Bool.or_eq_false_iff, Bool.and_eq_false_iff, Int.not_lt, Int.not_le, Bool.not_true, Bool.not_false, not_and, not_or] at h1)
    (iterate 2 ((try simp (etaStruct := .none) only [push_cast, DrawG, Int.cast_ofNat_Int, Nat.reduceAdd, Nat.reduceSub, Nat.reduceMul, reduceCtorEq, reduceIte, Nat.reduceEqDiff, Nat.reduceLT, Nat.reduceLeDiff, Nat.reduceBEq, Int.reduceToNat, Int.reduceLE, Int.reduceLT, beq_self_eq_true]); (try simp (disch := omega) only [wrap_in, wk_self, Int.tdiv_eq_ediv_of_nonneg, Int.tmod_eq_emod_of_nonneg]); (repeat (with_reducible refine And.intro ?_ ?_; · first | omega | decide | (simp; done) | (simp; omega) | (intro hh; refine ⟨hh, ?_⟩; omega) | (simp +contextual; done)))))
    refine callP (twithin_s w.next 1 1000000) (WkL.refl _) ?_
    (iterate 2 ((try simp (etaStruct := .none) only [push_cast, DrawG, Int.cast_ofNat_Int, Nat.reduceAdd, Nat.reduceSub, Nat.reduceMul, reduceCtorEq, reduceIte, Nat.reduceEqDiff, Nat.reduceLT, Nat.reduceLeDiff, Nat.reduceBEq, Int.reduceToNat, Int.reduceLE, Int.reduceLT, beq_self_eq_true]); (try simp (disch := omega) only [wrap_in, wk_self, Int.tdiv_eq_ediv_of_nonneg, Int.tmod_eq_emod_of_nonneg]); (repeat (with_reducible refine And.intro ?_ ?_; · first | omega | decide | (simp; done) | (simp; omega) | (intro hh; refine ⟨hh, ?_⟩; omega) | (simp +contextual; done)))))
    refine gcallP (fun hcc => twithin_s w.now 0 1000000) (WkL.refl _) (by intro hc; (try simp (etaStruct := .none) only [push_cast, DrawG, Int.cast_ofNat_Int, Nat.reduceAdd, Nat.reduceSub, Nat.reduceMul, reduceCtorEq, reduceIte, Nat.reduceEqDiff, Nat.reduceLT, Nat.reduceLeDiff, Nat.reduceBEq, Int.reduceToNat, Int.reduceLE, Int.reduceLT]); (try simp_all)) ?_
    (iterate 2 ((try simp (etaStruct := .none) only [push_cast, DrawG, Int.cast_ofNat_Int, Nat.reduceAdd, Nat.reduceSub, Nat.reduceMul, reduceCtorEq, reduceIte, Nat.reduceEqDiff, Nat.reduceLT, Nat.reduceLeDiff, Nat.reduceBEq, Int.reduceToNat, Int.reduceLE, Int.reduceLT, beq_self_eq_true]); (try simp (disch := omega) only [wrap_in, wk_self, Int.tdiv_eq_ediv_of_nonneg, Int.tmod_eq_emod_of_nonneg]); (repeat (with_reducible refine And.intro ?_ ?_; · first | omega | decide | (simp; done) | (simp; omega) | (intro hh; refine ⟨hh, ?_⟩; omega) | (simp +contextual; done)))))
    exact ret0 rfl trivial (Wk.of (by rw [e, hb]; rfl))
theorem ttroops_all (w : Wld) (hl : wldL w) (hf : fldE w.f = 0) : Spec Try.prog 214 [wldA w] [] (B (troopsV w)) [] := by
  cases hb : (within w.next 1 1000000 && within w.now 0 1000000) with
  | false => exact ttroops_bad w hl hf hb
  | true => rw [Bool.and_eq_true] at hb; exact ttroops_s w hl hf hb.1 hb.2
theorem tcheck_s (w : Wld) (hl : wldL w) : Spec Try.prog 153 [wldA w] [] (I .i64 (worldE w)) [] := by
  refine spec_am Try.func153 rfl rfl mix 33 rfl [.tmp 2] Try.results153 (Nat.le_of_ble_eq_true rfl) ?_
  (try simp (etaStruct := .none) only [push_cast, DrawG, Int.cast_ofNat_Int, Nat.reduceAdd, Nat.reduceSub, Nat.reduceMul, reduceCtorEq, reduceIte, Nat.reduceEqDiff, Nat.reduceLT, Nat.reduceLeDiff, Nat.reduceBEq, Int.reduceToNat, Int.reduceLE, Int.reduceLT]); (try simp (disch := omega) only [wrap_in, wk_self, Int.tdiv_eq_ediv_of_nonneg, Int.tmod_eq_emod_of_nonneg]); (repeat (with_reducible refine And.intro ?_ ?_; · first | omega | decide | (simp; done) | (simp; omega) | (intro hh; refine ⟨hh, ?_⟩; omega) | (simp +contextual; done)))
  refine callP (fcheck_s w.f hl.1) (WkL.refl _) ?_
  (try simp (etaStruct := .none) only [push_cast, DrawG, Int.cast_ofNat_Int, Nat.reduceAdd, Nat.reduceSub, Nat.reduceMul, reduceCtorEq, reduceIte, Nat.reduceEqDiff, Nat.reduceLT, Nat.reduceLeDiff, Nat.reduceBEq, Int.reduceToNat, Int.reduceLE, Int.reduceLT]); (try simp (disch := omega) only [wrap_in, wk_self, Int.tdiv_eq_ediv_of_nonneg, Int.tmod_eq_emod_of_nonneg]); (repeat (with_reducible refine And.intro ?_ ?_; · first | omega | decide | (simp; done) | (simp; omega) | (intro hh; refine ⟨hh, ?_⟩; omega) | (simp +contextual; done)))
  refine cond_i (fun h1 => ?_) (fun h1 => ?_)
  · (try simp only [decide_eq_true_eq, decide_eq_false_iff_not, Bool.not_eq_true', Bool.not_eq_false', Bool.or_eq_true, Bool.and_eq_true, Bool.or_eq_false_iff, Bool.and_eq_false_iff, Int.not_lt, Int.not_le, Bool.not_true, Bool.not_false, not_and, not_or] at h1)
    have e : worldE w = fldE w.f := by unfold worldE; rw [if_pos (by simpa using h1)]
    (try simp (etaStruct := .none) only [push_cast, DrawG, Int.cast_ofNat_Int, Nat.reduceAdd, Nat.reduceSub, Nat.reduceMul, reduceCtorEq, reduceIte, Nat.reduceEqDiff, Nat.reduceLT, Nat.reduceLeDiff, Nat.reduceBEq, Int.reduceToNat, Int.reduceLE, Int.reduceLT]); (try simp (disch := omega) only [wrap_in, wk_self, Int.tdiv_eq_ediv_of_nonneg, Int.tmod_eq_emod_of_nonneg]); (repeat (with_reducible refine And.intro ?_ ?_; · first | omega | decide | (simp; done) | (simp; omega) | (intro hh; refine ⟨hh, ?_⟩; omega) | (simp +contextual; done)))
    (first | (refine ret0 rfl (by repeat' (first | exact trivial | exact rfl | refine ⟨?_, ?_⟩)) (Wk.of ?_); (try simp (etaStruct := .none) only [push_cast, DrawG, Int.cast_ofNat_Int, Nat.reduceAdd, Nat.reduceSub, Nat.reduceMul, reduceCtorEq, reduceIte, Nat.reduceEqDiff, Nat.reduceLT, Nat.reduceLeDiff, Nat.reduceBEq, Int.reduceToNat, Int.reduceLE, Int.reduceLT]); first | done | (simp [e, *]; done) | (simp_all [e]; done)) | (refine ret0 rfl (by repeat' (first | exact trivial | exact rfl | refine ⟨?_, ?_⟩)) ?_; (try simp (etaStruct := .none) only [push_cast, DrawG, Int.cast_ofNat_Int, Nat.reduceAdd, Nat.reduceSub, Nat.reduceMul, reduceCtorEq, reduceIte, Nat.reduceEqDiff, Nat.reduceLT, Nat.reduceLeDiff, Nat.reduceBEq, Int.reduceToNat, Int.reduceLE, Int.reduceLT]); (try simp [e, *]); (try (first | exact Wk.refl _ | exact Wk.nil _ | (refine Wk.tup ?_; repeat' (first | exact trivial | exact Wk.refl _ | exact Wk.nil _ | refine ⟨?_, ?_⟩ | (refine Wk.agg ?_)))))))
  · (try simp only [decide_eq_true_eq, decide_eq_false_iff_not, Bool.not_eq_true', Bool.not_eq_false', Bool.or_eq_true, Bool.and_eq_true, Bool.or_eq_false_iff, Bool.and_eq_false_iff, Int.not_lt, Int.not_le, Bool.not_true, Bool.not_false, not_and, not_or] at h1)
    have hf : fldE w.f = 0 := by simpa using h1
    (try simp (etaStruct := .none) only [push_cast, DrawG, Int.cast_ofNat_Int, Nat.reduceAdd, Nat.reduceSub, Nat.reduceMul, reduceCtorEq, reduceIte, Nat.reduceEqDiff, Nat.reduceLT, Nat.reduceLeDiff, Nat.reduceBEq, Int.reduceToNat, Int.reduceLE, Int.reduceLT]); (try simp (disch := omega) only [wrap_in, wk_self, Int.tdiv_eq_ediv_of_nonneg, Int.tmod_eq_emod_of_nonneg]); (repeat (with_reducible refine And.intro ?_ ?_; · first | omega | decide | (simp; done) | (simp; omega) | (intro hh; refine ⟨hh, ?_⟩; omega) | (simp +contextual; done)))
    refine cond_i (fun h2 => ?_) (fun h2 => ?_)
    · (try simp only [decide_eq_true_eq, decide_eq_false_iff_not, Bool.not_eq_true', Bool.not_eq_false', Bool.or_eq_true, Bool.and_eq_true, Bool.or_eq_false_iff, Bool.and_eq_false_iff, Int.not_lt, Int.not_le, Bool.not_true, Bool.not_false, not_and, not_or] at h2)
      have e : worldE w = 2 := by unfold worldE; rw [if_neg (by simp [hf]), if_pos (by omega)]
      (try simp (etaStruct := .none) only [push_cast, DrawG, Int.cast_ofNat_Int, Nat.reduceAdd, Nat.reduceSub, Nat.reduceMul, reduceCtorEq, reduceIte, Nat.reduceEqDiff, Nat.reduceLT, Nat.reduceLeDiff, Nat.reduceBEq, Int.reduceToNat, Int.reduceLE, Int.reduceLT]); (try simp (disch := omega) only [wrap_in, wk_self, Int.tdiv_eq_ediv_of_nonneg, Int.tmod_eq_emod_of_nonneg]); (repeat (with_reducible refine And.intro ?_ ?_; · first | omega | decide | (simp; done) | (simp; omega) | (intro hh; refine ⟨hh, ?_⟩; omega) | (simp +contextual; done)))
      (first | (refine ret0 rfl (by repeat' (first | exact trivial | exact rfl | refine ⟨?_, ?_⟩)) (Wk.of ?_); (try simp (etaStruct := .none) only [push_cast, DrawG, Int.cast_ofNat_Int, Nat.reduceAdd, Nat.reduceSub, Nat.reduceMul, reduceCtorEq, reduceIte, Nat.reduceEqDiff, Nat.reduceLT, Nat.reduceLeDiff, Nat.reduceBEq, Int.reduceToNat, Int.reduceLE, Int.reduceLT]); first | done | (simp [e, *]; done) | (simp_all [e]; done)) | (refine ret0 rfl (by repeat' (first | exact trivial | exact rfl | refine ⟨?_, ?_⟩)) ?_; (try simp (etaStruct := .none) only [push_cast, DrawG, Int.cast_ofNat_Int, Nat.reduceAdd, Nat.reduceSub, Nat.reduceMul, reduceCtorEq, reduceIte, Nat.reduceEqDiff, Nat.reduceLT, Nat.reduceLeDiff, Nat.reduceBEq, Int.reduceToNat, Int.reduceLE, Int.reduceLT]); (try simp [e, *]); (try (first | exact Wk.refl _ | exact Wk.nil _ | (refine Wk.tup ?_; repeat' (first | exact trivial | exact Wk.refl _ | exact Wk.nil _ | refine ⟨?_, ?_⟩ | (refine Wk.agg ?_)))))))
    · (try simp only [decide_eq_true_eq, decide_eq_false_iff_not, Bool.not_eq_true', Bool.not_eq_false', Bool.or_eq_true, Bool.and_eq_true, Bool.or_eq_false_iff, Bool.and_eq_false_iff, Int.not_lt, Int.not_le, Bool.not_true, Bool.not_false, not_and, not_or] at h2)
      have hb : ¬ (8 < w.bases.length ∨ 100 < w.troops.length) := by omega
      (try simp (etaStruct := .none) only [push_cast, DrawG, Int.cast_ofNat_Int, Nat.reduceAdd, Nat.reduceSub, Nat.reduceMul, reduceCtorEq, reduceIte, Nat.reduceEqDiff, Nat.reduceLT, Nat.reduceLeDiff, Nat.reduceBEq, Int.reduceToNat, Int.reduceLE, Int.reduceLT]); (try simp (disch := omega) only [wrap_in, wk_self, Int.tdiv_eq_ediv_of_nonneg, Int.tmod_eq_emod_of_nonneg]); (repeat (with_reducible refine And.intro ?_ ?_; · first | omega | decide | (simp; done) | (simp; omega) | (intro hh; refine ⟨hh, ?_⟩; omega) | (simp +contextual; done)))
      refine callP (tplayers_s w hl hf) (WkL.refl _) ?_
      (try simp (etaStruct := .none) only [push_cast, DrawG, Int.cast_ofNat_Int, Nat.reduceAdd, Nat.reduceSub, Nat.reduceMul, reduceCtorEq, reduceIte, Nat.reduceEqDiff, Nat.reduceLT, Nat.reduceLeDiff, Nat.reduceBEq, Int.reduceToNat, Int.reduceLE, Int.reduceLT]); (try simp (disch := omega) only [wrap_in, wk_self, Int.tdiv_eq_ediv_of_nonneg, Int.tmod_eq_emod_of_nonneg]); (repeat (with_reducible refine And.intro ?_ ?_; · first | omega | decide | (simp; done) | (simp; omega) | (intro hh; refine ⟨hh, ?_⟩; omega) | (simp +contextual; done)))
      refine gcallP (fun hcc => tmines_s w hl) (WkL.refl _) (by intro hc; (try simp (etaStruct := .none) only [push_cast, DrawG, Int.cast_ofNat_Int, Nat.reduceAdd, Nat.reduceSub, Nat.reduceMul, reduceCtorEq, reduceIte, Nat.reduceEqDiff, Nat.reduceLT, Nat.reduceLeDiff, Nat.reduceBEq, Int.reduceToNat, Int.reduceLE, Int.reduceLT]); (try simp_all)) ?_
      (try simp (etaStruct := .none) only [push_cast, DrawG, Int.cast_ofNat_Int, Nat.reduceAdd, Nat.reduceSub, Nat.reduceMul, reduceCtorEq, reduceIte, Nat.reduceEqDiff, Nat.reduceLT, Nat.reduceLeDiff, Nat.reduceBEq, Int.reduceToNat, Int.reduceLE, Int.reduceLT]); (try simp (disch := omega) only [wrap_in, wk_self, Int.tdiv_eq_ediv_of_nonneg, Int.tmod_eq_emod_of_nonneg]); (repeat (with_reducible refine And.intro ?_ ?_; · first | omega | decide | (simp; done) | (simp; omega) | (intro hh; refine ⟨hh, ?_⟩; omega) | (simp +contextual; done)))
      refine gcallP (fun hcc => ttroops_all w hl hf) (WkL.refl _) (by intro hc; (try simp (etaStruct := .none) only [push_cast, DrawG, Int.cast_ofNat_Int, Nat.reduceAdd, Nat.reduceSub, Nat.reduceMul, reduceCtorEq, reduceIte, Nat.reduceEqDiff, Nat.reduceLT, Nat.reduceLeDiff, Nat.reduceBEq, Int.reduceToNat, Int.reduceLE, Int.reduceLT]); (try simp_all)) ?_
      (try simp (etaStruct := .none) only [push_cast, DrawG, Int.cast_ofNat_Int, Nat.reduceAdd, Nat.reduceSub, Nat.reduceMul, reduceCtorEq, reduceIte, Nat.reduceEqDiff, Nat.reduceLT, Nat.reduceLeDiff, Nat.reduceBEq, Int.reduceToNat, Int.reduceLE, Int.reduceLT]); (try simp (disch := omega) only [wrap_in, wk_self, Int.tdiv_eq_ediv_of_nonneg, Int.tmod_eq_emod_of_nonneg]); (repeat (with_reducible refine And.intro ?_ ?_; · first | omega | decide | (simp; done) | (simp; omega) | (intro hh; refine ⟨hh, ?_⟩; omega) | (simp +contextual; done)))
      refine cond_i (fun h3 => ?_) (fun h3 => ?_)
      · (try simp only [decide_eq_true_eq, decide_eq_false_iff_not, Bool.not_eq_true', Bool.not_eq_false', Bool.or_eq_true, Bool.and_eq_true, Bool.or_eq_false_iff, Bool.and_eq_false_iff, Int.not_lt, Int.not_le, Bool.not_true, Bool.not_false, not_and, not_or] at h3)
        have e : worldE w = 4 := by
          unfold worldE; rw [if_neg (by simp [hf]), if_neg hb, if_neg]
          rw [← ptm]
          rcases h3 with (h | h) | h <;> rw [h] <;> simp
        (try simp (etaStruct := .none) only [push_cast, DrawG, Int.cast_ofNat_Int, Nat.reduceAdd, Nat.reduceSub, Nat.reduceMul, reduceCtorEq, reduceIte, Nat.reduceEqDiff, Nat.reduceLT, Nat.reduceLeDiff, Nat.reduceBEq, Int.reduceToNat, Int.reduceLE, Int.reduceLT]); (try simp (disch := omega) only [wrap_in, wk_self, Int.tdiv_eq_ediv_of_nonneg, Int.tmod_eq_emod_of_nonneg]); (repeat (with_reducible refine And.intro ?_ ?_; · first | omega | decide | (simp; done) | (simp; omega) | (intro hh; refine ⟨hh, ?_⟩; omega) | (simp +contextual; done)))
        (first | (refine ret0 rfl (by repeat' (first | exact trivial | exact rfl | refine ⟨?_, ?_⟩)) (Wk.of ?_); (try simp (etaStruct := .none) only [push_cast, DrawG, Int.cast_ofNat_Int, Nat.reduceAdd, Nat.reduceSub, Nat.reduceMul, reduceCtorEq, reduceIte, Nat.reduceEqDiff, Nat.reduceLT, Nat.reduceLeDiff, Nat.reduceBEq, Int.reduceToNat, Int.reduceLE, Int.reduceLT]); first | done | (simp [e, *]; done) | (simp_all [e]; done)) | (refine ret0 rfl (by repeat' (first | exact trivial | exact rfl | refine ⟨?_, ?_⟩)) ?_; (try simp (etaStruct := .none) only [push_cast, DrawG, Int.cast_ofNat_Int, Nat.reduceAdd, Nat.reduceSub, Nat.reduceMul, reduceCtorEq, reduceIte, Nat.reduceEqDiff, Nat.reduceLT, Nat.reduceLeDiff, Nat.reduceBEq, Int.reduceToNat, Int.reduceLE, Int.reduceLT]); (try simp [e, *]); (try (first | exact Wk.refl _ | exact Wk.nil _ | (refine Wk.tup ?_; repeat' (first | exact trivial | exact Wk.refl _ | exact Wk.nil _ | refine ⟨?_, ?_⟩ | (refine Wk.agg ?_)))))))
      · (try simp only [decide_eq_true_eq, decide_eq_false_iff_not, Bool.not_eq_true', Bool.not_eq_false', Bool.or_eq_true, Bool.and_eq_true, Bool.or_eq_false_iff, Bool.and_eq_false_iff, Int.not_lt, Int.not_le, Bool.not_true, Bool.not_false, not_and, not_or] at h3)
        have e : worldE w = 0 := by
          unfold worldE; rw [if_neg (by simp [hf]), if_neg hb, if_pos]
          rw [← ptm, h3.1.1, h3.1.2, h3.2]; rfl
        (try simp (etaStruct := .none) only [push_cast, DrawG, Int.cast_ofNat_Int, Nat.reduceAdd, Nat.reduceSub, Nat.reduceMul, reduceCtorEq, reduceIte, Nat.reduceEqDiff, Nat.reduceLT, Nat.reduceLeDiff, Nat.reduceBEq, Int.reduceToNat, Int.reduceLE, Int.reduceLT]); (try simp (disch := omega) only [wrap_in, wk_self, Int.tdiv_eq_ediv_of_nonneg, Int.tmod_eq_emod_of_nonneg]); (repeat (with_reducible refine And.intro ?_ ?_; · first | omega | decide | (simp; done) | (simp; omega) | (intro hh; refine ⟨hh, ?_⟩; omega) | (simp +contextual; done)))
        (first | (refine ret0 rfl (by repeat' (first | exact trivial | exact rfl | refine ⟨?_, ?_⟩)) (Wk.of ?_); (try simp (etaStruct := .none) only [push_cast, DrawG, Int.cast_ofNat_Int, Nat.reduceAdd, Nat.reduceSub, Nat.reduceMul, reduceCtorEq, reduceIte, Nat.reduceEqDiff, Nat.reduceLT, Nat.reduceLeDiff, Nat.reduceBEq, Int.reduceToNat, Int.reduceLE, Int.reduceLT]); first | done | (simp [e, *]; done) | (simp_all [e]; done)) | (refine ret0 rfl (by repeat' (first | exact trivial | exact rfl | refine ⟨?_, ?_⟩)) ?_; (try simp (etaStruct := .none) only [push_cast, DrawG, Int.cast_ofNat_Int, Nat.reduceAdd, Nat.reduceSub, Nat.reduceMul, reduceCtorEq, reduceIte, Nat.reduceEqDiff, Nat.reduceLT, Nat.reduceLeDiff, Nat.reduceBEq, Int.reduceToNat, Int.reduceLE, Int.reduceLT]); (try simp [e, *]); (try (first | exact Wk.refl _ | exact Wk.nil _ | (refine Wk.tup ?_; repeat' (first | exact trivial | exact Wk.refl _ | exact Wk.nil _ | refine ⟨?_, ?_⟩ | (refine Wk.agg ?_)))))))
end Go.Proofs.Ytehcnnodkhcgfaa
namespace Go.Proofs.Ytehcnnodkhcgfaa
set_option linter.all false
open Go.RowKit
set_option maxRecDepth 100000
set_option maxHeartbeats 1000000
theorem worldE_ok {w : Wld} (h : worldE w = 0) : fldE w.f = 0 ∧ w.bases.length ≤ 8 ∧ w.troops.length ≤ 100 ∧ worldF w = true ∧ worldB w = true := by
  unfold worldE at h
  split at h
  · rename_i h1; exact absurd h h1
  · rename_i h1
    split at h
    · simp at h
    · rename_i h2
      split at h
      · rename_i h3
        rw [Bool.and_eq_true] at h3
        exact ⟨Decidable.not_not.1 h1, by omega, by omega, h3.1, h3.2⟩
      · simp at h
theorem worldF_ok {w : Wld} (h : worldF w = true) : w.stocks.length = w.bases.length ∧ w.mines.length = w.f.p.length ∧ (1 ≤ w.next ∧ w.next ≤ 1000000) ∧ 0 ≤ w.now ∧ w.now ≤ 1000000 := by
  unfold worldF at h
  simp only [Bool.and_eq_true, decide_eq_true_eq, within_iff] at h
  exact ⟨h.1.1.1, h.1.1.2, h.1.2, h.2⟩
structure TrpOk (w : Wld) (t : Trp) : Prop where
  kind : t.kind = 1 ∨ t.kind = 2
  id : 1 ≤ t.id ∧ t.id ≤ w.next - 1
  owner : 0 ≤ t.owner ∧ t.owner ≤ (w.bases.length : Int) - 1
  at_ : groundV w.f t.c = true
  x : 0 ≤ t.c.x ∧ t.c.x < w.f.w
  y : 0 ≤ t.c.y ∧ t.c.y < w.f.h
  life : 1 ≤ t.life ∧ t.life ≤ (kindV t.kind).life
  load : 0 ≤ t.load ∧ t.load ≤ 5 * (2 - t.kind)
theorem ground_iff {f : Fld} {c : Cel} : groundV f c = true ↔ inF f c = true ∧ placeV f c ≠ 1 := by unfold groundV; simp
theorem troop_ok {w : Wld} (h : worldE w = 0) {k : Nat} (hk : k < w.troops.length) : TrpOk w (w.troops.getD k default) ∧ trp2 w k = true := by
  obtain ⟨_, _, _, _, h5⟩ := worldE_ok h
  unfold worldB at h5
  simp only [Bool.and_eq_true] at h5
  have := (allN_iff _ _).1 h5.2 k hk
  unfold troopB trp1 at this
  simp only [Bool.and_eq_true, within_iff] at this
  obtain ⟨a, ⟨⟨⟨⟨b, c⟩, d⟩, e⟩, f⟩, g⟩ := this
  have hi := inF_iff.1 (ground_iff.1 d).1
  exact ⟨⟨by omega, b, c, d, hi.1, hi.2, e, f⟩, g⟩
theorem trp_ix (F : FuncId) (a b : List AV) (l : List Trp) (p : Trp → Bool) (hl : l.length ≤ 9223372036854775807) (hp : ∀ n ∈ l, Spec Try.prog F (a ++ [trpA n] ++ b) [] (B (p n)) []) (ha : ∀ h, cvL [] h a = a) (hb : ∀ h, cvL [] h b = b) :
    Spec Try.prog 204 [.c (.sl 7 (l.map trpP)), .clo (.func F) a b] [] (I .i64 (ixOf p l)) [] := by
  refine spec_am Try.func204 rfl rfl mix 19 rfl [.tmp 4] Try.results204 (Nat.le_of_ble_eq_true rfl) ?_
  simp (etaStruct := .none) only [push_cast, DrawG, Int.cast_ofNat_Int, Nat.reduceAdd, Nat.reduceSub, Nat.reduceMul, reduceCtorEq, reduceIte, Nat.reduceEqDiff, Nat.reduceLT, Nat.reduceLeDiff, Nat.reduceBEq, Int.reduceToNat, Int.reduceLE, Int.reduceLT]
  refine loopI (fun k : Nat => ⟨[(8, I .i64 k), (7, I .i64 l.length), (0, .c (.sl 7 (l.map trpP))), (1, .clo (.func F) a b)], [], 0⟩) (fun k => k ≤ l.length ∧ ∀ j (hj : j < l.length), j < k → p l[j] = false) (fun k => l.length - k) 0 ⟨Nat.zero_le _, fun j _ h => by omega⟩ (To.mk [] rfl rfl List.nodup_nil trivial ?_) ?_
  · simp (etaStruct := .none) only [push_cast, DrawG, Int.cast_ofNat_Int, Nat.reduceAdd, Nat.reduceSub, Nat.reduceMul, reduceCtorEq, reduceIte, Nat.reduceEqDiff, Nat.reduceLT, Nat.reduceLeDiff, Nat.reduceBEq, Int.reduceToNat, Int.reduceLE, Int.reduceLT, ha, hb]
  · rintro k ⟨hk, hn⟩
    simp (etaStruct := .none) only [push_cast, DrawG, Int.cast_ofNat_Int, Nat.reduceAdd, Nat.reduceSub, Nat.reduceMul, reduceCtorEq, reduceIte, Nat.reduceEqDiff, Nat.reduceLT, Nat.reduceLeDiff, Nat.reduceBEq, Int.reduceToNat, Int.reduceLE, Int.reduceLT]
    refine cond_i (fun h => ?_) (fun h => ?_)
    · have hlt : k < l.length := by simpa using h
      simp (etaStruct := .none) only [push_cast, DrawG, Int.cast_ofNat_Int, Nat.reduceAdd, Nat.reduceSub, Nat.reduceMul, reduceCtorEq, reduceIte, Nat.reduceEqDiff, Nat.reduceLT, Nat.reduceLeDiff, Nat.reduceBEq, Int.reduceToNat, Int.reduceLE, Int.reduceLT, getD_map _ _ _ hlt, trpP]
      repeat (with_reducible refine And.intro ?_ ?_; · first | omega | decide | (simp; done) | (simp; omega) | (intro hh; refine ⟨hh, ?_⟩; omega) | (simp +contextual; done))
      refine callP (hp _ (List.getElem_mem hlt)) (by simp only [cvL_append, ha, hb, cvL, cv]; exact WkL.refl _) ?_
      simp (etaStruct := .none) only [push_cast, DrawG, Int.cast_ofNat_Int, Nat.reduceAdd, Nat.reduceSub, Nat.reduceMul, reduceCtorEq, reduceIte, Nat.reduceEqDiff, Nat.reduceLT, Nat.reduceLeDiff, Nat.reduceBEq, Int.reduceToNat, Int.reduceLE, Int.reduceLT]
      refine cond_i (fun h => ?_) (fun h => ?_)
      · simp (etaStruct := .none) only [push_cast, DrawG, Int.cast_ofNat_Int, Nat.reduceAdd, Nat.reduceSub, Nat.reduceMul, reduceCtorEq, reduceIte, Nat.reduceEqDiff, Nat.reduceLT, Nat.reduceLeDiff, Nat.reduceBEq, Int.reduceToNat, Int.reduceLE, Int.reduceLT]
        exact ret0 rfl trivial (Wk.of (by rw [ixOf_hit p l k hlt h hn]; rfl))
      · simp (etaStruct := .none) only [push_cast, DrawG, Int.cast_ofNat_Int, Nat.reduceAdd, Nat.reduceSub, Nat.reduceMul, reduceCtorEq, reduceIte, Nat.reduceEqDiff, Nat.reduceLT, Nat.reduceLeDiff, Nat.reduceBEq, Int.reduceToNat, Int.reduceLE, Int.reduceLT]
        refine ⟨k + 1, ⟨by omega, fun j hj hjk => ?_⟩, by omega, To.mk [] rfl rfl List.nodup_nil trivial ?_⟩
        · by_cases e : j = k
          · subst e; exact h
          · exact hn j hj (by omega)
        · simp (etaStruct := .none) only [push_cast, DrawG, Int.cast_ofNat_Int, Nat.reduceAdd, Nat.reduceSub, Nat.reduceMul, reduceCtorEq, reduceIte, Nat.reduceEqDiff, Nat.reduceLT, Nat.reduceLeDiff, Nat.reduceBEq, Int.reduceToNat, Int.reduceLE, Int.reduceLT, ha, hb]
          simp (disch := omega) only [wrap_in, wk_self, Int.tdiv_eq_ediv_of_nonneg, Int.tmod_eq_emod_of_nonneg]
    · have hge : k = l.length := by simp at h; omega
      subst hge
      simp (etaStruct := .none) only [push_cast, DrawG, Int.cast_ofNat_Int, Nat.reduceAdd, Nat.reduceSub, Nat.reduceMul, reduceCtorEq, reduceIte, Nat.reduceEqDiff, Nat.reduceLT, Nat.reduceLeDiff, Nat.reduceBEq, Int.reduceToNat, Int.reduceLE, Int.reduceLT]
      exact ret0 rfl trivial (Wk.of (by rw [ixOf_miss p l (fun j hj => hn j hj hj)]; rfl))
theorem filter_snoc {α : Type} [Inhabited α] (p : α → Bool) (l : List α) (k : Nat) (h : k < l.length) : (l.take (k + 1)).filter p = if p (l.getD k default) then (l.take k).filter p ++ [l.getD k default] else (l.take k).filter p := by
  rw [take_snoc l k h, List.filter_append, List.filter_cons, List.filter_nil]
  split <;> simp
end Go.Proofs.Ytehcnnodkhcgfaa
namespace Go.Proofs.Ytehcnnodkhcgfaa
set_option linter.all false
open Go.RowKit
theorem RelL.setAt {U F : Nat → Prop} {β : Nat → Option Bind} {w : World} {y : AV} : ∀ {cs : List AV} {us : List Value} (j : Nat), RelL U w F β cs us → (∀ u, us[j]? = some u → RelA U w F β y u) → RelL U w F β (cs.set j y) us
  | [], us, j, h, _ => by simpa using h
  | x :: r, us, j, h, hy => by
    simp only [RelL] at h
    obtain ⟨u, us', rfl, h1, h2⟩ := h
    cases j with
    | zero => simp only [List.set_cons_zero, RelL]; exact ⟨u, us', rfl, hy u rfl, h2⟩
    | succ j => simp only [List.set_cons_succ, RelL]; exact ⟨u, us', rfl, h1, RelL.setAt j h2 (fun v hv => hy v (by simpa using hv))⟩
theorem To.nilC {k : Nat} {s : St} (id j e sz tt : Nat) (cs : List AV) (hc : lookC s.h id = .blk tt cs) (hj : cs[j]? = some (.c (.v (.slice none 0 0)))) : ToK k s ⟨s.t, (s.n, .row e sz []) :: (id, .blk tt (cs.set j (.own s.n))) :: s.h, s.n + 1⟩ := by
  intro H F β a w hk C
  obtain ⟨bd0, hb1, hb2⟩ := C.m.ch id (by rw [hc]; simp)
  have hidn : id ≠ s.n := fun h => absurd (C.m.used _ _ hb1) (by rw [h]; exact Nat.lt_irrefl _)
  obtain ⟨M, E⟩ := C.m.step (w' := w) (h' := lookC ((s.n, .row e sz []) :: (id, .blk tt (cs.set j (.own s.n))) :: s.h)) (β' := updB β s.n (some ⟨.slice none 0 0, none, 0, sz⟩)) (F' := F) (U' := (· < s.n + 1)) (fun i => i = s.n ∨ i = id)
    (fun i hi => by simp only [not_or] at hi; simp [updB, Ne.symm hi.1]) (fun i hi => by simp only [not_or] at hi; simp [lookC, Ne.symm hi.1, Ne.symm hi.2]) rfl rfl rfl (Nat.le_refl _) (fun _ _ _ => rfl) (fun i hi => Nat.lt_succ_of_lt hi) (fun b hb => hb)
    (fun b hb => ⟨C.m.fin b hb, .inl hb⟩)
    (fun i bd' hi hu hb => by
      rcases hi with rfl | rfl
      · exact absurd hu (Nat.lt_irrefl _)
      · simpa [updB, Ne.symm hidn] using hb)
    (fun i bd' hi hb => by
      rcases hi with rfl | rfl
      · simp only [updB, if_true, Option.some.injEq] at hb
        subst hb
        exact ⟨Nat.lt_succ_self _, fun b hb => by simp at hb⟩
      · have hb' : β i = some bd' := by simpa [updB, Ne.symm hidn] using hb
        refine ⟨Nat.lt_succ_of_lt (C.m.used _ _ hb'), fun b hbb => ?_⟩
        obtain ⟨p1, p2, p3⟩ := C.m.off _ _ _ hb' hbb
        exact ⟨p2, p1, .inr ⟨i, bd', .inr rfl, hb', hbb⟩⟩)
    (fun i j' bi bj b hi hj' hbi hbj h1 h2 => by
      rcases hi with rfl | rfl <;> rcases hj' with rfl | rfl
      · rfl
      · simp only [updB, if_true, Option.some.injEq] at hbi; subst hbi; simp at h1
      · simp only [updB, if_true, Option.some.injEq] at hbj; subst hbj; simp at h2
      · rfl)
    (fun E i hi _ => by
      rcases hi with rfl | rfl
      · refine ⟨⟨.slice none 0 0, none, 0, sz⟩, by simp [updB], ?_⟩
        simp only [lookC, if_true, ChOk]
        simp
      · refine ⟨bd0, by simpa [updB, Ne.symm hidn] using hb1, ?_⟩
        have hb2' := ChOk.mono E (fun g _ => rfl) hb2
        rw [hc] at hb2'
        simp only [lookC, if_true, Ne.symm hidn, if_false]
        obtain ⟨q1, q2, g, vs, q3, q4, q5, q6, q7⟩ := hb2'
        refine ⟨by rw [List.length_set]; exact q1, q2, g, vs, q3, q4, q5, RelL.setAt j q6 (fun u hu => ?_), q7⟩
        obtain ⟨u', hu', hr⟩ := q6.at j _ hj
        rw [hu] at hu'; cases hu'
        rw [relC] at hr
        simp only [RelA]
        rw [hr.1]
        refine ⟨Nat.lt_succ_self _, rfl, fun bd hb => ?_⟩
        simp only [updB, if_true, Option.some.injEq] at hb
        subst hb; rfl)
  refine ⟨F, updB β s.n (some ⟨.slice none 0 0, none, 0, sz⟩), fun t' => RelA.mono E _ _ (C.t t'), M, C.nt, C.d, C.f, C.g, fun i bd' hi hb => ?_, Nat.le_succ_of_le C.k⟩
  refine C.e i bd' hi ?_
  have : s.n ≠ i := by have := C.k; omega
  simpa [updB, this] using hb
end Go.Proofs.Ytehcnnodkhcgfaa
namespace Go.Proofs.Ytehcnnodkhcgfaa
set_option linter.all false
open Go.RowKit
set_option maxRecDepth 100000
set_option maxHeartbeats 400000
theorem trp_eqn (a b : Trp) : (decide (a.id = b.id) && (decide (a.owner = b.owner) && (decide (a.kind = b.kind) && (decide (a.c.x = b.c.x) && (decide (a.c.y = b.c.y) && (decide (a.life = b.life) && decide (a.load = b.load))))))) = decide (a = b) := by
  rw [Bool.eq_iff_iff]; obtain ⟨_, _, _, ⟨_, _⟩, _, _⟩ := a; obtain ⟨_, _, _, ⟨_, _⟩, _, _⟩ := b; simp [and_assoc]
theorem trp_eq (l m : List Trp) (hl : l.length ≤ 9223372036854775807) (hm : m.length ≤ 9223372036854775807) : Spec Try.prog 143 [.c (.sl 7 (l.map trpP)), .c (.sl 7 (m.map trpP))] [] (B (decide (l = m))) [] := by
  refine spec_am Try.func143 rfl rfl mix 26 rfl [.tmp 4] Try.results143 (Nat.le_of_ble_eq_true rfl) ?_
  (try simp (etaStruct := .none) only [push_cast, DrawG, Int.cast_ofNat_Int, Nat.reduceAdd, Nat.reduceSub, Nat.reduceMul, reduceCtorEq, reduceIte, Nat.reduceEqDiff, Nat.reduceLT, Nat.reduceLeDiff, Nat.reduceBEq, Int.reduceToNat, Int.reduceLE, Int.reduceLT]); (try simp (disch := omega) only [wrap_in, wk_self, Int.tdiv_eq_ediv_of_nonneg, Int.tmod_eq_emod_of_nonneg]); (repeat (with_reducible refine And.intro ?_ ?_; · first | omega | decide | (simp; done) | (simp; omega) | (intro hh; refine ⟨hh, ?_⟩; omega) | (simp +contextual; done)))
  refine cond_i (fun h1 => ?_) (fun h1 => ?_)
  · (try simp only [decide_eq_true_eq, decide_eq_false_iff_not, Bool.not_eq_true', Bool.not_eq_false', Bool.or_eq_true, Bool.and_eq_true, Bool.or_eq_false_iff, Bool.and_eq_false_iff, Int.not_lt, Int.not_le, Bool.not_true, Bool.not_false, not_and, not_or] at h1)
    have e : l ≠ m := by intro e; subst e; simp at h1
    (try simp (etaStruct := .none) only [push_cast, DrawG, Int.cast_ofNat_Int, Nat.reduceAdd, Nat.reduceSub, Nat.reduceMul, reduceCtorEq, reduceIte, Nat.reduceEqDiff, Nat.reduceLT, Nat.reduceLeDiff, Nat.reduceBEq, Int.reduceToNat, Int.reduceLE, Int.reduceLT]); (try simp (disch := omega) only [wrap_in, wk_self, Int.tdiv_eq_ediv_of_nonneg, Int.tmod_eq_emod_of_nonneg]); (repeat (with_reducible refine And.intro ?_ ?_; · first | omega | decide | (simp; done) | (simp; omega) | (intro hh; refine ⟨hh, ?_⟩; omega) | (simp +contextual; done)))
    exact ret0 rfl trivial (Wk.of (by rw [decide_eq_false e]; rfl))
  · (try simp only [decide_eq_true_eq, decide_eq_false_iff_not, Bool.not_eq_true', Bool.not_eq_false', Bool.or_eq_true, Bool.and_eq_true, Bool.or_eq_false_iff, Bool.and_eq_false_iff, Int.not_lt, Int.not_le, Bool.not_true, Bool.not_false, not_and, not_or] at h1)
    (try simp (etaStruct := .none) only [push_cast, DrawG, Int.cast_ofNat_Int, Nat.reduceAdd, Nat.reduceSub, Nat.reduceMul, reduceCtorEq, reduceIte, Nat.reduceEqDiff, Nat.reduceLT, Nat.reduceLeDiff, Nat.reduceBEq, Int.reduceToNat, Int.reduceLE, Int.reduceLT]); (try simp (disch := omega) only [wrap_in, wk_self, Int.tdiv_eq_ediv_of_nonneg, Int.tmod_eq_emod_of_nonneg]); (repeat (with_reducible refine And.intro ?_ ?_; · first | omega | decide | (simp; done) | (simp; omega) | (intro hh; refine ⟨hh, ?_⟩; omega) | (simp +contextual; done)))
    refine loopI (fun k : Nat => ⟨[(13, I .i64 k), (12, I .i64 l.length), (1, .c (.sl 7 (m.map trpP))), (0, .c (.sl 7 (l.map trpP)))], [], 0⟩) (fun k : Nat => k ≤ l.length ∧ ∀ j, j < k → l.getD j default = m.getD j default) (fun k : Nat => l.length - k) (0) (⟨Nat.zero_le _, fun j h => by omega⟩) (To.mk [] rfl rfl List.nodup_nil trivial ?_) ?_
    · simp (etaStruct := .none) only [push_cast, DrawG, Int.cast_ofNat_Int, Nat.reduceAdd, Nat.reduceSub, Nat.reduceMul, reduceCtorEq, reduceIte, Nat.reduceEqDiff, Nat.reduceLT, Nat.reduceLeDiff, Nat.reduceBEq, Int.reduceToNat, Int.reduceLE, Int.reduceLT]
    rintro k ⟨hk, hn⟩
    (try simp (etaStruct := .none) only [push_cast, DrawG, Int.cast_ofNat_Int, Nat.reduceAdd, Nat.reduceSub, Nat.reduceMul, reduceCtorEq, reduceIte, Nat.reduceEqDiff, Nat.reduceLT, Nat.reduceLeDiff, Nat.reduceBEq, Int.reduceToNat, Int.reduceLE, Int.reduceLT]); (try simp (disch := omega) only [wrap_in, wk_self, Int.tdiv_eq_ediv_of_nonneg, Int.tmod_eq_emod_of_nonneg]); (repeat (with_reducible refine And.intro ?_ ?_; · first | omega | decide | (simp; done) | (simp; omega) | (intro hh; refine ⟨hh, ?_⟩; omega) | (simp +contextual; done)))
    refine cond_i (fun h2 => ?_) (fun h2 => ?_)
    · (try simp only [decide_eq_true_eq, decide_eq_false_iff_not, Bool.not_eq_true', Bool.not_eq_false', Bool.or_eq_true, Bool.and_eq_true, Bool.or_eq_false_iff, Bool.and_eq_false_iff, Int.not_lt, Int.not_le, Bool.not_true, Bool.not_false, not_and, not_or] at h2)
      have hlt : k < l.length := by omega
      have hlt2 : k < m.length := by omega
      (iterate 2 ((try simp (etaStruct := .none) only [push_cast, DrawG, Int.cast_ofNat_Int, Nat.reduceAdd, Nat.reduceSub, Nat.reduceMul, reduceCtorEq, reduceIte, Nat.reduceEqDiff, Nat.reduceLT, Nat.reduceLeDiff, Nat.reduceBEq, Int.reduceToNat, Int.reduceLE, Int.reduceLT, getD_in _ _ _ hlt, getD_in _ _ _ hlt2, trpP, trp_eqn]); (try simp (disch := omega) only [wrap_in, wk_self, Int.tdiv_eq_ediv_of_nonneg, Int.tmod_eq_emod_of_nonneg]); (repeat (with_reducible refine And.intro ?_ ?_; · first | omega | decide | (simp; done) | (simp; omega) | (intro hh; refine ⟨hh, ?_⟩; omega) | (simp +contextual; done)))))
      (try (refine ⟨by kernel_rfl, ?_⟩))
      (iterate 2 ((try simp (etaStruct := .none) only [push_cast, DrawG, Int.cast_ofNat_Int, Nat.reduceAdd, Nat.reduceSub, Nat.reduceMul, reduceCtorEq, reduceIte, Nat.reduceEqDiff, Nat.reduceLT, Nat.reduceLeDiff, Nat.reduceBEq, Int.reduceToNat, Int.reduceLE, Int.reduceLT, getD_in _ _ _ hlt, getD_in _ _ _ hlt2, trpP, trp_eqn]); (try simp (disch := omega) only [wrap_in, wk_self, Int.tdiv_eq_ediv_of_nonneg, Int.tmod_eq_emod_of_nonneg]); (repeat (with_reducible refine And.intro ?_ ?_; · first | omega | decide | (simp; done) | (simp; omega) | (intro hh; refine ⟨hh, ?_⟩; omega) | (simp +contextual; done)))))
      refine cond_i (fun h3 => ?_) (fun h3 => ?_)
      · (try simp only [decide_eq_true_eq, decide_eq_false_iff_not, Bool.not_eq_true', Bool.not_eq_false', Bool.or_eq_true, Bool.and_eq_true, Bool.or_eq_false_iff, Bool.and_eq_false_iff, Int.not_lt, Int.not_le, Bool.not_true, Bool.not_false, not_and, not_or] at h3)
        have e : l ≠ m := by intro e; subst e; simp at h3
        (iterate 2 ((try simp (etaStruct := .none) only [push_cast, DrawG, Int.cast_ofNat_Int, Nat.reduceAdd, Nat.reduceSub, Nat.reduceMul, reduceCtorEq, reduceIte, Nat.reduceEqDiff, Nat.reduceLT, Nat.reduceLeDiff, Nat.reduceBEq, Int.reduceToNat, Int.reduceLE, Int.reduceLT, getD_in _ _ _ hlt, getD_in _ _ _ hlt2, trpP, trp_eqn]); (try simp (disch := omega) only [wrap_in, wk_self, Int.tdiv_eq_ediv_of_nonneg, Int.tmod_eq_emod_of_nonneg]); (repeat (with_reducible refine And.intro ?_ ?_; · first | omega | decide | (simp; done) | (simp; omega) | (intro hh; refine ⟨hh, ?_⟩; omega) | (simp +contextual; done)))))
        exact ret0 rfl trivial (Wk.of (by rw [decide_eq_false e]; rfl))
      · (try simp only [decide_eq_true_eq, decide_eq_false_iff_not, Bool.not_eq_true', Bool.not_eq_false', Bool.or_eq_true, Bool.and_eq_true, Bool.or_eq_false_iff, Bool.and_eq_false_iff, Int.not_lt, Int.not_le, Bool.not_true, Bool.not_false, not_and, not_or] at h3)
        (iterate 2 ((try simp (etaStruct := .none) only [push_cast, DrawG, Int.cast_ofNat_Int, Nat.reduceAdd, Nat.reduceSub, Nat.reduceMul, reduceCtorEq, reduceIte, Nat.reduceEqDiff, Nat.reduceLT, Nat.reduceLeDiff, Nat.reduceBEq, Int.reduceToNat, Int.reduceLE, Int.reduceLT, getD_in _ _ _ hlt, getD_in _ _ _ hlt2, trpP, trp_eqn]); (try simp (disch := omega) only [wrap_in, wk_self, Int.tdiv_eq_ediv_of_nonneg, Int.tmod_eq_emod_of_nonneg]); (repeat (with_reducible refine And.intro ?_ ?_; · first | omega | decide | (simp; done) | (simp; omega) | (intro hh; refine ⟨hh, ?_⟩; omega) | (simp +contextual; done)))))
        refine ⟨k + 1, ⟨by omega, fun j hj => by rcases Nat.lt_or_ge j k with h | h; exact hn j h; rw [show j = k by omega]; simpa using h3⟩, by omega, To.mk [] rfl rfl List.nodup_nil trivial ?_⟩
        · (iterate 2 ((try simp (etaStruct := .none) only [push_cast, DrawG, Int.cast_ofNat_Int, Nat.reduceAdd, Nat.reduceSub, Nat.reduceMul, reduceCtorEq, reduceIte, Nat.reduceEqDiff, Nat.reduceLT, Nat.reduceLeDiff, Nat.reduceBEq, Int.reduceToNat, Int.reduceLE, Int.reduceLT, getD_in _ _ _ hlt, getD_in _ _ _ hlt2, trpP, trp_eqn]); (try simp (disch := omega) only [wrap_in, wk_self, Int.tdiv_eq_ediv_of_nonneg, Int.tmod_eq_emod_of_nonneg]); (repeat (with_reducible refine And.intro ?_ ?_; · first | omega | decide | (simp; done) | (simp; omega) | (intro hh; refine ⟨hh, ?_⟩; omega) | (simp +contextual; done)))))
    · (try simp only [decide_eq_true_eq, decide_eq_false_iff_not, Bool.not_eq_true', Bool.not_eq_false', Bool.or_eq_true, Bool.and_eq_true, Bool.or_eq_false_iff, Bool.and_eq_false_iff, Int.not_lt, Int.not_le, Bool.not_true, Bool.not_false, not_and, not_or] at h2)
      have e : l = m := by
        refine List.ext_getElem (by omega) fun i i1 i2 => ?_
        have := hn i (by omega)
        rwa [getD_at _ _ i1, getD_at _ _ i2] at this
      (try simp (etaStruct := .none) only [push_cast, DrawG, Int.cast_ofNat_Int, Nat.reduceAdd, Nat.reduceSub, Nat.reduceMul, reduceCtorEq, reduceIte, Nat.reduceEqDiff, Nat.reduceLT, Nat.reduceLeDiff, Nat.reduceBEq, Int.reduceToNat, Int.reduceLE, Int.reduceLT]); (try simp (disch := omega) only [wrap_in, wk_self, Int.tdiv_eq_ediv_of_nonneg, Int.tmod_eq_emod_of_nonneg]); (repeat (with_reducible refine And.intro ?_ ?_; · first | omega | decide | (simp; done) | (simp; omega) | (intro hh; refine ⟨hh, ?_⟩; omega) | (simp +contextual; done)))
      exact ret0 rfl trivial (Wk.of (by rw [decide_eq_true e]; rfl))
theorem sameField_s (a b : Fld) (ha : a.p.length ≤ 9223372036854775807) (hb : b.p.length ≤ 9223372036854775807) : Spec Try.prog 142 [fldA a, fldA b] [] (B (decide (a = b))) [] := by
  have e : decide (a = b) = (decide (a.w = b.w) && decide (a.h = b.h) && decide (a.p = b.p)) := by
    rw [Bool.eq_iff_iff]; obtain ⟨_, _, _⟩ := a; obtain ⟨_, _, _⟩ := b; simp [and_assoc]
  refine spec_am Try.func142 rfl rfl mix 24 rfl [.tmp 4] Try.results142 (Nat.le_of_ble_eq_true rfl) ?_
  (try simp (etaStruct := .none) only [push_cast, DrawG, Int.cast_ofNat_Int, Nat.reduceAdd, Nat.reduceSub, Nat.reduceMul, reduceCtorEq, reduceIte, Nat.reduceEqDiff, Nat.reduceLT, Nat.reduceLeDiff, Nat.reduceBEq, Int.reduceToNat, Int.reduceLE, Int.reduceLT]); (try simp (disch := omega) only [wrap_in, wk_self, Int.tdiv_eq_ediv_of_nonneg, Int.tmod_eq_emod_of_nonneg]); (repeat (with_reducible refine And.intro ?_ ?_; · first | omega | decide | (simp; done) | (simp; omega) | (intro hh; refine ⟨hh, ?_⟩; omega) | (simp +contextual; done)))
  refine gcallP (fun hcc => int_eq a.p b.p ha hb) (WkL.refl _) (by intro hc; (try simp (etaStruct := .none) only [push_cast, DrawG, Int.cast_ofNat_Int, Nat.reduceAdd, Nat.reduceSub, Nat.reduceMul, reduceCtorEq, reduceIte, Nat.reduceEqDiff, Nat.reduceLT, Nat.reduceLeDiff, Nat.reduceBEq, Int.reduceToNat, Int.reduceLE, Int.reduceLT]); (try simp_all)) ?_
  (try simp (etaStruct := .none) only [push_cast, DrawG, Int.cast_ofNat_Int, Nat.reduceAdd, Nat.reduceSub, Nat.reduceMul, reduceCtorEq, reduceIte, Nat.reduceEqDiff, Nat.reduceLT, Nat.reduceLeDiff, Nat.reduceBEq, Int.reduceToNat, Int.reduceLE, Int.reduceLT]); (try simp (disch := omega) only [wrap_in, wk_self, Int.tdiv_eq_ediv_of_nonneg, Int.tmod_eq_emod_of_nonneg]); (repeat (with_reducible refine And.intro ?_ ?_; · first | omega | decide | (simp; done) | (simp; omega) | (intro hh; refine ⟨hh, ?_⟩; omega) | (simp +contextual; done)))
  (first | (refine ret0 rfl (by repeat' (first | exact trivial | exact rfl | refine ⟨?_, ?_⟩)) (Wk.of ?_); (try simp (etaStruct := .none) only [push_cast, DrawG, Int.cast_ofNat_Int, Nat.reduceAdd, Nat.reduceSub, Nat.reduceMul, reduceCtorEq, reduceIte, Nat.reduceEqDiff, Nat.reduceLT, Nat.reduceLeDiff, Nat.reduceBEq, Int.reduceToNat, Int.reduceLE, Int.reduceLT]); first | done | (simp [e, *]; done) | (simp_all [e]; done)) | (refine ret0 rfl (by repeat' (first | exact trivial | exact rfl | refine ⟨?_, ?_⟩)) ?_; (try simp (etaStruct := .none) only [push_cast, DrawG, Int.cast_ofNat_Int, Nat.reduceAdd, Nat.reduceSub, Nat.reduceMul, reduceCtorEq, reduceIte, Nat.reduceEqDiff, Nat.reduceLT, Nat.reduceLeDiff, Nat.reduceBEq, Int.reduceToNat, Int.reduceLE, Int.reduceLT]); (try simp [e, *]); (try (first | exact Wk.refl _ | exact Wk.nil _ | (refine Wk.tup ?_; repeat' (first | exact trivial | exact Wk.refl _ | exact Wk.nil _ | refine ⟨?_, ?_⟩ | (refine Wk.agg ?_)))))))
theorem sameWorld_s (a b : Wld) (ha : wldL a) (hb : wldL b) : Spec Try.prog 50 [wldA a, wldA b] [] (B (decide (a = b))) [] := by
  have e : decide (a = b) = (decide (a.f = b.f) && decide (a.bases = b.bases) && decide (a.stocks = b.stocks) && decide (a.mines = b.mines) && decide (a.troops = b.troops) && decide (a.next = b.next) && decide (a.now = b.now)) := by
    rw [Bool.eq_iff_iff]; obtain ⟨_, _, _, _, _, _, _⟩ := a; obtain ⟨_, _, _, _, _, _, _⟩ := b; simp [and_assoc]
  obtain ⟨a1, a2, a3, a4, a5⟩ := ha
  obtain ⟨b1, b2, b3, b4, b5⟩ := hb
  refine spec_am Try.func50 rfl rfl mix 52 rfl [.tmp 4] Try.results50 (Nat.le_of_ble_eq_true rfl) ?_
  (try simp (etaStruct := .none) only [push_cast, DrawG, Int.cast_ofNat_Int, Nat.reduceAdd, Nat.reduceSub, Nat.reduceMul, reduceCtorEq, reduceIte, Nat.reduceEqDiff, Nat.reduceLT, Nat.reduceLeDiff, Nat.reduceBEq, Int.reduceToNat, Int.reduceLE, Int.reduceLT]); (try simp (disch := omega) only [wrap_in, wk_self, Int.tdiv_eq_ediv_of_nonneg, Int.tmod_eq_emod_of_nonneg]); (repeat (with_reducible refine And.intro ?_ ?_; · first | omega | decide | (simp; done) | (simp; omega) | (intro hh; refine ⟨hh, ?_⟩; omega) | (simp +contextual; done)))
  refine callP (sameField_s a.f b.f a1 b1) (WkL.refl _) ?_
  (try simp (etaStruct := .none) only [push_cast, DrawG, Int.cast_ofNat_Int, Nat.reduceAdd, Nat.reduceSub, Nat.reduceMul, reduceCtorEq, reduceIte, Nat.reduceEqDiff, Nat.reduceLT, Nat.reduceLeDiff, Nat.reduceBEq, Int.reduceToNat, Int.reduceLE, Int.reduceLT]); (try simp (disch := omega) only [wrap_in, wk_self, Int.tdiv_eq_ediv_of_nonneg, Int.tmod_eq_emod_of_nonneg]); (repeat (with_reducible refine And.intro ?_ ?_; · first | omega | decide | (simp; done) | (simp; omega) | (intro hh; refine ⟨hh, ?_⟩; omega) | (simp +contextual; done)))
  refine gcallP (fun hcc => cel_eq a.bases b.bases a2 b2) (WkL.refl _) (by intro hc; (try simp (etaStruct := .none) only [push_cast, DrawG, Int.cast_ofNat_Int, Nat.reduceAdd, Nat.reduceSub, Nat.reduceMul, reduceCtorEq, reduceIte, Nat.reduceEqDiff, Nat.reduceLT, Nat.reduceLeDiff, Nat.reduceBEq, Int.reduceToNat, Int.reduceLE, Int.reduceLT]); (try simp_all)) ?_
  (try simp (etaStruct := .none) only [push_cast, DrawG, Int.cast_ofNat_Int, Nat.reduceAdd, Nat.reduceSub, Nat.reduceMul, reduceCtorEq, reduceIte, Nat.reduceEqDiff, Nat.reduceLT, Nat.reduceLeDiff, Nat.reduceBEq, Int.reduceToNat, Int.reduceLE, Int.reduceLT]); (try simp (disch := omega) only [wrap_in, wk_self, Int.tdiv_eq_ediv_of_nonneg, Int.tmod_eq_emod_of_nonneg]); (repeat (with_reducible refine And.intro ?_ ?_; · first | omega | decide | (simp; done) | (simp; omega) | (intro hh; refine ⟨hh, ?_⟩; omega) | (simp +contextual; done)))
  refine gcallP (fun hcc => int_eq a.stocks b.stocks a3 b3) (WkL.refl _) (by intro hc; (try simp (etaStruct := .none) only [push_cast, DrawG, Int.cast_ofNat_Int, Nat.reduceAdd, Nat.reduceSub, Nat.reduceMul, reduceCtorEq, reduceIte, Nat.reduceEqDiff, Nat.reduceLT, Nat.reduceLeDiff, Nat.reduceBEq, Int.reduceToNat, Int.reduceLE, Int.reduceLT]); (try simp_all)) ?_
  (try simp (etaStruct := .none) only [push_cast, DrawG, Int.cast_ofNat_Int, Nat.reduceAdd, Nat.reduceSub, Nat.reduceMul, reduceCtorEq, reduceIte, Nat.reduceEqDiff, Nat.reduceLT, Nat.reduceLeDiff, Nat.reduceBEq, Int.reduceToNat, Int.reduceLE, Int.reduceLT]); (try simp (disch := omega) only [wrap_in, wk_self, Int.tdiv_eq_ediv_of_nonneg, Int.tmod_eq_emod_of_nonneg]); (repeat (with_reducible refine And.intro ?_ ?_; · first | omega | decide | (simp; done) | (simp; omega) | (intro hh; refine ⟨hh, ?_⟩; omega) | (simp +contextual; done)))
  refine gcallP (fun hcc => int_eq a.mines b.mines a4 b4) (WkL.refl _) (by intro hc; (try simp (etaStruct := .none) only [push_cast, DrawG, Int.cast_ofNat_Int, Nat.reduceAdd, Nat.reduceSub, Nat.reduceMul, reduceCtorEq, reduceIte, Nat.reduceEqDiff, Nat.reduceLT, Nat.reduceLeDiff, Nat.reduceBEq, Int.reduceToNat, Int.reduceLE, Int.reduceLT]); (try simp_all)) ?_
  (try simp (etaStruct := .none) only [push_cast, DrawG, Int.cast_ofNat_Int, Nat.reduceAdd, Nat.reduceSub, Nat.reduceMul, reduceCtorEq, reduceIte, Nat.reduceEqDiff, Nat.reduceLT, Nat.reduceLeDiff, Nat.reduceBEq, Int.reduceToNat, Int.reduceLE, Int.reduceLT]); (try simp (disch := omega) only [wrap_in, wk_self, Int.tdiv_eq_ediv_of_nonneg, Int.tmod_eq_emod_of_nonneg]); (repeat (with_reducible refine And.intro ?_ ?_; · first | omega | decide | (simp; done) | (simp; omega) | (intro hh; refine ⟨hh, ?_⟩; omega) | (simp +contextual; done)))
  refine gcallP (fun hcc => trp_eq a.troops b.troops a5 b5) (WkL.refl _) (by intro hc; (try simp (etaStruct := .none) only [push_cast, DrawG, Int.cast_ofNat_Int, Nat.reduceAdd, Nat.reduceSub, Nat.reduceMul, reduceCtorEq, reduceIte, Nat.reduceEqDiff, Nat.reduceLT, Nat.reduceLeDiff, Nat.reduceBEq, Int.reduceToNat, Int.reduceLE, Int.reduceLT]); (try simp_all)) ?_
  (try simp (etaStruct := .none) only [push_cast, DrawG, Int.cast_ofNat_Int, Nat.reduceAdd, Nat.reduceSub, Nat.reduceMul, reduceCtorEq, reduceIte, Nat.reduceEqDiff, Nat.reduceLT, Nat.reduceLeDiff, Nat.reduceBEq, Int.reduceToNat, Int.reduceLE, Int.reduceLT]); (try simp (disch := omega) only [wrap_in, wk_self, Int.tdiv_eq_ediv_of_nonneg, Int.tmod_eq_emod_of_nonneg]); (repeat (with_reducible refine And.intro ?_ ?_; · first | omega | decide | (simp; done) | (simp; omega) | (intro hh; refine ⟨hh, ?_⟩; omega) | (simp +contextual; done)))
  (first | (refine ret0 rfl (by repeat' (first | exact trivial | exact rfl | refine ⟨?_, ?_⟩)) (Wk.of ?_); (try simp (etaStruct := .none) only [push_cast, DrawG, Int.cast_ofNat_Int, Nat.reduceAdd, Nat.reduceSub, Nat.reduceMul, reduceCtorEq, reduceIte, Nat.reduceEqDiff, Nat.reduceLT, Nat.reduceLeDiff, Nat.reduceBEq, Int.reduceToNat, Int.reduceLE, Int.reduceLT]); first | done | (simp [e, *]; done) | (simp_all [e]; done)) | (refine ret0 rfl (by repeat' (first | exact trivial | exact rfl | refine ⟨?_, ?_⟩)) ?_; (try simp (etaStruct := .none) only [push_cast, DrawG, Int.cast_ofNat_Int, Nat.reduceAdd, Nat.reduceSub, Nat.reduceMul, reduceCtorEq, reduceIte, Nat.reduceEqDiff, Nat.reduceLT, Nat.reduceLeDiff, Nat.reduceBEq, Int.reduceToNat, Int.reduceLE, Int.reduceLT]); (try simp [e, *]); (try (first | exact Wk.refl _ | exact Wk.nil _ | (refine Wk.tup ?_; repeat' (first | exact trivial | exact Wk.refl _ | exact Wk.nil _ | refine ⟨?_, ?_⟩ | (refine Wk.agg ?_)))))))
theorem int_clone (l : List Int) (hl : l.length ≤ 17592186044415) : Spec Try.prog 126 [.c (.sl 1 (l.map i64P))] [] (.own 0) [.row 3 1 (l.map i64P)] := by
  refine spec_am Try.func126 rfl rfl mix 8 rfl [.tmp 2] Try.results126 (Nat.le_of_ble_eq_true rfl) ?_
  (try simp (etaStruct := .none) only [push_cast, DrawG, Int.cast_ofNat_Int, Nat.reduceAdd, Nat.reduceSub, Nat.reduceMul, reduceCtorEq, reduceIte, Nat.reduceEqDiff, Nat.reduceLT, Nat.reduceLeDiff, Nat.reduceBEq, Int.reduceToNat, Int.reduceLE, Int.reduceLT]); (try simp (disch := omega) only [wrap_in, wk_self, Int.tdiv_eq_ediv_of_nonneg, Int.tmod_eq_emod_of_nonneg]); (repeat (with_reducible refine And.intro ?_ ?_; · first | omega | decide | (simp; done) | (simp; omega) | (intro hh; refine ⟨hh, ?_⟩; omega) | (simp +contextual; done)))
  intro b hb
  (try simp (etaStruct := .none) only [push_cast, DrawG, Int.cast_ofNat_Int, Nat.reduceAdd, Nat.reduceSub, Nat.reduceMul, reduceCtorEq, reduceIte, Nat.reduceEqDiff, Nat.reduceLT, Nat.reduceLeDiff, Nat.reduceBEq, Int.reduceToNat, Int.reduceLE, Int.reduceLT]); (try simp (disch := omega) only [wrap_in, wk_self, Int.tdiv_eq_ediv_of_nonneg, Int.tmod_eq_emod_of_nonneg]); (repeat (with_reducible refine And.intro ?_ ?_; · first | omega | decide | (simp; done) | (simp; omega) | (intro hh; refine ⟨hh, ?_⟩; omega) | (simp +contextual; done)))
  refine cond_i (fun h => ?_) (fun h => ?_)
  · (try simp (etaStruct := .none) only [push_cast, DrawG, Int.cast_ofNat_Int, Nat.reduceAdd, Nat.reduceSub, Nat.reduceMul, reduceCtorEq, reduceIte, Nat.reduceEqDiff, Nat.reduceLT, Nat.reduceLeDiff, Nat.reduceBEq, Int.reduceToNat, Int.reduceLE, Int.reduceLT]); (try simp (disch := omega) only [wrap_in, wk_self, Int.tdiv_eq_ediv_of_nonneg, Int.tmod_eq_emod_of_nonneg]); (repeat (with_reducible refine And.intro ?_ ?_; · first | omega | decide | (simp; done) | (simp; omega) | (intro hh; refine ⟨hh, ?_⟩; omega) | (simp +contextual; done)))
    have e := hb h
    refine retTo (To.nil 2 3 1 rfl) (retM [0] rfl rfl (by decide) ⟨?_, trivial⟩ trivial ?_)
    · simp (etaStruct := .none) only [push_cast, DrawG, Int.cast_ofNat_Int, Nat.reduceAdd, Nat.reduceSub, Nat.reduceMul, reduceCtorEq, reduceIte, Nat.reduceEqDiff, Nat.reduceLT, Nat.reduceLeDiff, Nat.reduceBEq, Int.reduceToNat, Int.reduceLE, Int.reduceLT, e]
    · simp (etaStruct := .none) only [push_cast, DrawG, Int.cast_ofNat_Int, Nat.reduceAdd, Nat.reduceSub, Nat.reduceMul, reduceCtorEq, reduceIte, Nat.reduceEqDiff, Nat.reduceLT, Nat.reduceLeDiff, Nat.reduceBEq, Int.reduceToNat, Int.reduceLE, Int.reduceLT]
  · (try simp (etaStruct := .none) only [push_cast, DrawG, Int.cast_ofNat_Int, Nat.reduceAdd, Nat.reduceSub, Nat.reduceMul, reduceCtorEq, reduceIte, Nat.reduceEqDiff, Nat.reduceLT, Nat.reduceLeDiff, Nat.reduceBEq, Int.reduceToNat, Int.reduceLE, Int.reduceLT]); (try simp (disch := omega) only [wrap_in, wk_self, Int.tdiv_eq_ediv_of_nonneg, Int.tmod_eq_emod_of_nonneg]); (repeat (with_reducible refine And.intro ?_ ?_; · first | omega | decide | (simp; done) | (simp; omega) | (intro hh; refine ⟨hh, ?_⟩; omega) | (simp +contextual; done)))
    refine retM [1] rfl rfl (by decide) ⟨?_, trivial⟩ trivial ?_
    · simp (etaStruct := .none) only [push_cast, DrawG, Int.cast_ofNat_Int, Nat.reduceAdd, Nat.reduceSub, Nat.reduceMul, reduceCtorEq, reduceIte, Nat.reduceEqDiff, Nat.reduceLT, Nat.reduceLeDiff, Nat.reduceBEq, Int.reduceToNat, Int.reduceLE, Int.reduceLT]
    · simp (etaStruct := .none) only [push_cast, DrawG, Int.cast_ofNat_Int, Nat.reduceAdd, Nat.reduceSub, Nat.reduceMul, reduceCtorEq, reduceIte, Nat.reduceEqDiff, Nat.reduceLT, Nat.reduceLeDiff, Nat.reduceBEq, Int.reduceToNat, Int.reduceLE, Int.reduceLT]
theorem cel_clone (l : List Cel) (hl : l.length ≤ 8796093022207) : Spec Try.prog 133 [.c (.sl 2 (l.map celP))] [] (.own 0) [.row 25 2 (l.map celP)] := by
  refine spec_am Try.func133 rfl rfl mix 8 rfl [.tmp 2] Try.results133 (Nat.le_of_ble_eq_true rfl) ?_
  (try simp (etaStruct := .none) only [push_cast, DrawG, Int.cast_ofNat_Int, Nat.reduceAdd, Nat.reduceSub, Nat.reduceMul, reduceCtorEq, reduceIte, Nat.reduceEqDiff, Nat.reduceLT, Nat.reduceLeDiff, Nat.reduceBEq, Int.reduceToNat, Int.reduceLE, Int.reduceLT]); (try simp (disch := omega) only [wrap_in, wk_self, Int.tdiv_eq_ediv_of_nonneg, Int.tmod_eq_emod_of_nonneg]); (repeat (with_reducible refine And.intro ?_ ?_; · first | omega | decide | (simp; done) | (simp; omega) | (intro hh; refine ⟨hh, ?_⟩; omega) | (simp +contextual; done)))
  intro b hb
  (try simp (etaStruct := .none) only [push_cast, DrawG, Int.cast_ofNat_Int, Nat.reduceAdd, Nat.reduceSub, Nat.reduceMul, reduceCtorEq, reduceIte, Nat.reduceEqDiff, Nat.reduceLT, Nat.reduceLeDiff, Nat.reduceBEq, Int.reduceToNat, Int.reduceLE, Int.reduceLT]); (try simp (disch := omega) only [wrap_in, wk_self, Int.tdiv_eq_ediv_of_nonneg, Int.tmod_eq_emod_of_nonneg]); (repeat (with_reducible refine And.intro ?_ ?_; · first | omega | decide | (simp; done) | (simp; omega) | (intro hh; refine ⟨hh, ?_⟩; omega) | (simp +contextual; done)))
  refine cond_i (fun h => ?_) (fun h => ?_)
  · (try simp (etaStruct := .none) only [push_cast, DrawG, Int.cast_ofNat_Int, Nat.reduceAdd, Nat.reduceSub, Nat.reduceMul, reduceCtorEq, reduceIte, Nat.reduceEqDiff, Nat.reduceLT, Nat.reduceLeDiff, Nat.reduceBEq, Int.reduceToNat, Int.reduceLE, Int.reduceLT]); (try simp (disch := omega) only [wrap_in, wk_self, Int.tdiv_eq_ediv_of_nonneg, Int.tmod_eq_emod_of_nonneg]); (repeat (with_reducible refine And.intro ?_ ?_; · first | omega | decide | (simp; done) | (simp; omega) | (intro hh; refine ⟨hh, ?_⟩; omega) | (simp +contextual; done)))
    have e := hb h
    refine retTo (To.nil 2 25 2 rfl) (retM [0] rfl rfl (by decide) ⟨?_, trivial⟩ trivial ?_)
    · simp (etaStruct := .none) only [push_cast, DrawG, Int.cast_ofNat_Int, Nat.reduceAdd, Nat.reduceSub, Nat.reduceMul, reduceCtorEq, reduceIte, Nat.reduceEqDiff, Nat.reduceLT, Nat.reduceLeDiff, Nat.reduceBEq, Int.reduceToNat, Int.reduceLE, Int.reduceLT, e]
    · simp (etaStruct := .none) only [push_cast, DrawG, Int.cast_ofNat_Int, Nat.reduceAdd, Nat.reduceSub, Nat.reduceMul, reduceCtorEq, reduceIte, Nat.reduceEqDiff, Nat.reduceLT, Nat.reduceLeDiff, Nat.reduceBEq, Int.reduceToNat, Int.reduceLE, Int.reduceLT]
  · (try simp (etaStruct := .none) only [push_cast, DrawG, Int.cast_ofNat_Int, Nat.reduceAdd, Nat.reduceSub, Nat.reduceMul, reduceCtorEq, reduceIte, Nat.reduceEqDiff, Nat.reduceLT, Nat.reduceLeDiff, Nat.reduceBEq, Int.reduceToNat, Int.reduceLE, Int.reduceLT]); (try simp (disch := omega) only [wrap_in, wk_self, Int.tdiv_eq_ediv_of_nonneg, Int.tmod_eq_emod_of_nonneg]); (repeat (with_reducible refine And.intro ?_ ?_; · first | omega | decide | (simp; done) | (simp; omega) | (intro hh; refine ⟨hh, ?_⟩; omega) | (simp +contextual; done)))
    refine retM [1] rfl rfl (by decide) ⟨?_, trivial⟩ trivial ?_
    · simp (etaStruct := .none) only [push_cast, DrawG, Int.cast_ofNat_Int, Nat.reduceAdd, Nat.reduceSub, Nat.reduceMul, reduceCtorEq, reduceIte, Nat.reduceEqDiff, Nat.reduceLT, Nat.reduceLeDiff, Nat.reduceBEq, Int.reduceToNat, Int.reduceLE, Int.reduceLT]
    · simp (etaStruct := .none) only [push_cast, DrawG, Int.cast_ofNat_Int, Nat.reduceAdd, Nat.reduceSub, Nat.reduceMul, reduceCtorEq, reduceIte, Nat.reduceEqDiff, Nat.reduceLT, Nat.reduceLeDiff, Nat.reduceBEq, Int.reduceToNat, Int.reduceLE, Int.reduceLT]
theorem trp_clone (l : List Trp) (hl : l.length ≤ 2513169434916) : Spec Try.prog 135 [.c (.sl 7 (l.map trpP))] [] (.own 0) [.row 103 7 (l.map trpP)] := by
  refine spec_am Try.func135 rfl rfl mix 8 rfl [.tmp 2] Try.results135 (Nat.le_of_ble_eq_true rfl) ?_
  (try simp (etaStruct := .none) only [push_cast, DrawG, Int.cast_ofNat_Int, Nat.reduceAdd, Nat.reduceSub, Nat.reduceMul, reduceCtorEq, reduceIte, Nat.reduceEqDiff, Nat.reduceLT, Nat.reduceLeDiff, Nat.reduceBEq, Int.reduceToNat, Int.reduceLE, Int.reduceLT]); (try simp (disch := omega) only [wrap_in, wk_self, Int.tdiv_eq_ediv_of_nonneg, Int.tmod_eq_emod_of_nonneg]); (repeat (with_reducible refine And.intro ?_ ?_; · first | omega | decide | (simp; done) | (simp; omega) | (intro hh; refine ⟨hh, ?_⟩; omega) | (simp +contextual; done)))
  intro b hb
  (try simp (etaStruct := .none) only [push_cast, DrawG, Int.cast_ofNat_Int, Nat.reduceAdd, Nat.reduceSub, Nat.reduceMul, reduceCtorEq, reduceIte, Nat.reduceEqDiff, Nat.reduceLT, Nat.reduceLeDiff, Nat.reduceBEq, Int.reduceToNat, Int.reduceLE, Int.reduceLT]); (try simp (disch := omega) only [wrap_in, wk_self, Int.tdiv_eq_ediv_of_nonneg, Int.tmod_eq_emod_of_nonneg]); (repeat (with_reducible refine And.intro ?_ ?_; · first | omega | decide | (simp; done) | (simp; omega) | (intro hh; refine ⟨hh, ?_⟩; omega) | (simp +contextual; done)))
  refine cond_i (fun h => ?_) (fun h => ?_)
  · (try simp (etaStruct := .none) only [push_cast, DrawG, Int.cast_ofNat_Int, Nat.reduceAdd, Nat.reduceSub, Nat.reduceMul, reduceCtorEq, reduceIte, Nat.reduceEqDiff, Nat.reduceLT, Nat.reduceLeDiff, Nat.reduceBEq, Int.reduceToNat, Int.reduceLE, Int.reduceLT]); (try simp (disch := omega) only [wrap_in, wk_self, Int.tdiv_eq_ediv_of_nonneg, Int.tmod_eq_emod_of_nonneg]); (repeat (with_reducible refine And.intro ?_ ?_; · first | omega | decide | (simp; done) | (simp; omega) | (intro hh; refine ⟨hh, ?_⟩; omega) | (simp +contextual; done)))
    have e := hb h
    refine retTo (To.nil 2 103 7 rfl) (retM [0] rfl rfl (by decide) ⟨?_, trivial⟩ trivial ?_)
    · simp (etaStruct := .none) only [push_cast, DrawG, Int.cast_ofNat_Int, Nat.reduceAdd, Nat.reduceSub, Nat.reduceMul, reduceCtorEq, reduceIte, Nat.reduceEqDiff, Nat.reduceLT, Nat.reduceLeDiff, Nat.reduceBEq, Int.reduceToNat, Int.reduceLE, Int.reduceLT, e]
    · simp (etaStruct := .none) only [push_cast, DrawG, Int.cast_ofNat_Int, Nat.reduceAdd, Nat.reduceSub, Nat.reduceMul, reduceCtorEq, reduceIte, Nat.reduceEqDiff, Nat.reduceLT, Nat.reduceLeDiff, Nat.reduceBEq, Int.reduceToNat, Int.reduceLE, Int.reduceLT]
  · (try simp (etaStruct := .none) only [push_cast, DrawG, Int.cast_ofNat_Int, Nat.reduceAdd, Nat.reduceSub, Nat.reduceMul, reduceCtorEq, reduceIte, Nat.reduceEqDiff, Nat.reduceLT, Nat.reduceLeDiff, Nat.reduceBEq, Int.reduceToNat, Int.reduceLE, Int.reduceLT]); (try simp (disch := omega) only [wrap_in, wk_self, Int.tdiv_eq_ediv_of_nonneg, Int.tmod_eq_emod_of_nonneg]); (repeat (with_reducible refine And.intro ?_ ?_; · first | omega | decide | (simp; done) | (simp; omega) | (intro hh; refine ⟨hh, ?_⟩; omega) | (simp +contextual; done)))
    refine retM [1] rfl rfl (by decide) ⟨?_, trivial⟩ trivial ?_
    · simp (etaStruct := .none) only [push_cast, DrawG, Int.cast_ofNat_Int, Nat.reduceAdd, Nat.reduceSub, Nat.reduceMul, reduceCtorEq, reduceIte, Nat.reduceEqDiff, Nat.reduceLT, Nat.reduceLeDiff, Nat.reduceBEq, Int.reduceToNat, Int.reduceLE, Int.reduceLT]
    · simp (etaStruct := .none) only [push_cast, DrawG, Int.cast_ofNat_Int, Nat.reduceAdd, Nat.reduceSub, Nat.reduceMul, reduceCtorEq, reduceIte, Nat.reduceEqDiff, Nat.reduceLT, Nat.reduceLeDiff, Nat.reduceBEq, Int.reduceToNat, Int.reduceLE, Int.reduceLT]
end Go.Proofs.Ytehcnnodkhcgfaa
namespace Go.Proofs.Ytehcnnodkhcgfaa
set_option linter.all false
open Go.RowKit
def endG (ops : Array Oper) (n : Nat) (K : St → Prop) (acc : List (List Nat × List Nat)) (s' : St) : Prop := drawOk ops acc = true ∧ K ⟨s'.t, s'.h, n + 4 * ops.size⟩
theorem drawG_w {P : Program} {nt : Nat} {ops : Array Oper} {K : St → Prop} {t : List (Nat × AV)} {h : List (Nat × Chunk)} {n : Nat} (ds : List (Option Tmp)) (hds : ops.toList.map (fun o : Oper => o.dst) = ds)
    (G : ∀ (O : Array Oper) (l : List Oper) (R : List (List Nat × List Nat) → St → Prop), l = ops.toList → (∀ j : Nat, (O[j]?).bind (fun o : Oper => o.dst) = (ds[j]?).bind id) → R = endG ops n K → drawL P nt O n 0 l [] R ⟨t, h, n⟩) : DrawG P nt ops K ⟨t, h, n⟩ := by
  refine G ops ops.toList _ rfl (fun j => ?_) rfl
  rw [← hds, List.getElem?_map, Array.getElem?_toList]
  cases ops[j]? <;> rfl
theorem peelD {P : Program} {nt : Nat} {O : Array Oper} {n i : Nat} {o : Oper} {r0 : List Oper} {acc : List (List Nat × List Nat)} {R : List (List Nat × List Nat) → St → Prop} {s : St}
    (G : ∀ r, r = r0 → drawL P nt O n i (o :: r) acc R s) : drawL P nt O n i (o :: r0) acc R s := G r0 rfl
theorem endD {P : Program} {nt : Nat} {O : Array Oper} {n i : Nat} {acc : List (List Nat × List Nat)} {R : List (List Nat × List Nat) → St → Prop} {t : List (Nat × AV)} {h : List (Nat × Chunk)} {m : Nat} (G : R acc ⟨t, h, m⟩) : drawL P nt O n i [] acc R ⟨t, h, m⟩ := G
theorem endE {ops : Array Oper} {n : Nat} {K : St → Prop} {acc : List (List Nat × List Nat)} {t : List (Nat × AV)} {h : List (Nat × Chunk)} {m : Nat} (G1 : drawOk ops acc = true) (G2 : K ⟨t, h, n + 4 * ops.size⟩) : endG ops n K acc ⟨t, h, m⟩ := ⟨G1, G2⟩
end Go.Proofs.Ytehcnnodkhcgfaa
namespace Go.Proofs.Ytehcnnodkhcgfaa
set_option linter.all false
open Go.RowKit
theorem Spec.hand {P : Program} {f : FuncId} {args args' : List AV} {hs hs1 hs1' : List Chunk} {r : AV} (k : Nat) (S : Spec P f args' hs1 r hs1') (hk : k ≤ hs.length) (hk1 : hs1'.length = k) (hw : WkL (cvL (List.range k) (nth hs) args) args') (hh : hs1 = (List.range k).map fun id => cvC (List.range k) (nth hs) (nth hs id)) :
    Spec P f args hs r (hs1' ++ List.replicate (hs.length - k) .dead) := by
  obtain ⟨S0, _, S⟩ := S
  refine ⟨S0, by simp; omega, fun w F β vs M hv => ?_⟩
  have hl1 : hs1.length = k := by rw [hh]; simp
  have M1 := (cv_mem M (hT := nth hs) (fun _ _ => rfl) (List.range k) List.nodup_range).here
  have hv1 := hw.run (cvL_run M (hT := nth hs) (fun _ _ => rfl) (List.range k) args vs hv)
  rw [← hh] at M1
  rw [List.length_range] at M1 hv1
  rw [hl1] at S
  have sel : ∀ {i : Nat} {bd : Bind}, selB (List.range k) β i = some bd → i < k ∧ β i = some bd := by
    intro i bd h
    obtain ⟨id, h1, h2⟩ := selB_some h
    have hik : i < k := by have := (List.getElem?_eq_some_iff.1 h1).1; simpa using this
    rw [List.getElem?_range hik] at h1
    obtain rfl := Option.some.inj h1
    exact ⟨hik, h2⟩
  have hin : ∀ b, inB (selB (List.range k) β) b → inB β b := by
    rintro b ⟨i, bd, h1, h2⟩
    exact ⟨i, bd, (sel h1).2, h2⟩
  refine (S w _ _ vs M1 hv1).mono ?_
  rintro e w' ⟨v, F', β', rfl, M2, hr, hF, hF', hβ⟩
  rw [hk1] at M2 hr
  have E : Ext (· < k) F' β' w' (· < (hs1' ++ List.replicate (hs.length - k) Chunk.dead).length) F' (fun i => if i < k then β' i else none) w' :=
    ⟨fun i hi => by simp only [List.length_append, List.length_replicate]; omega, fun b hb => ⟨hb, rfl⟩, fun i bd hi hb => by simpa [hi] using hb⟩
  have low : ∀ {i : Nat} {bd : Bind}, (if i < k then β' i else none) = some bd → i < k ∧ β' i = some bd := by
    intro i bd h
    by_cases hi : i < k
    · rw [if_pos hi] at h; exact ⟨hi, h⟩
    · rw [if_neg hi] at h; simp at h
  refine ⟨v, F', fun i => if i < k then β' i else none, rfl, ⟨M2.size, M2.os, M2.tape, M2.output, fun b hb hn => M2.frame b hb (fun h => hn (hin b h)), M2.fin, fun i bd hb => ?_, fun i hd => ?_, fun i j bi bj b hi hj h1 h2 => M2.dis i j bi bj b (low hi).2 (low hj).2 h1 h2, fun i bd b hb hbb => ?_⟩, RelA.mono E _ _ hr, fun b hb => hF b (.inl hb), fun b hb => ?_, fun i bd hi hb => ?_⟩
  · exact E.u i (low hb).1
  · have hik : i < k := by
      rcases Nat.lt_or_ge i k with h | h
      · exact h
      · exfalso
        apply hd
        unfold nth
        rw [List.getD_eq_getElem?_getD, List.getElem?_append_right (by omega), List.getElem?_replicate]
        split <;> rfl
    have e0 : nth (hs1' ++ List.replicate (hs.length - k) Chunk.dead) i = nth hs1' i := by
      unfold nth
      rw [List.getD_eq_getElem?_getD, List.getElem?_append_left (by omega), List.getD_eq_getElem?_getD]
    rw [e0] at hd ⊢
    obtain ⟨bd, h1, h2⟩ := M2.ch i hd
    exact ⟨bd, by rw [if_pos hik]; exact h1, ChOk.mono E (fun _ _ => rfl) h2⟩
  · obtain ⟨k1, k2, k3⟩ := M2.off i bd b (low hb).2 hbb
    exact ⟨k1, k2, k3.imp id (hin b)⟩
  · rcases hF' b hb with h1 | h1 | h1
    · rcases h1 with h1 | ⟨id, bd, _, _, h2, h3⟩
      · exact .inl h1
      · exact .inr (.inr ⟨id, bd, h2, h3⟩)
    · exact .inr (.inl h1)
    · exact .inr (.inr (hin b h1))
  · obtain ⟨h1, h2⟩ := low hb
    exact (sel (hβ i bd h1 h2)).2
theorem look_fz (Z : List Nat) (h : Nat → Chunk) : ∀ (l : List (Nat × AV)) (t : Nat), look (l.map fun p => (p.1, fz Z h p.2)) t = fz Z h (look l t)
  | [], t => by simp only [List.map_nil, look, fz]
  | (k, x) :: r, t => by
    simp only [List.map_cons, look]
    by_cases e : k = t
    · rw [if_pos e, if_pos e]
    · rw [if_neg e, if_neg e]; exact look_fz Z h r t
theorem To.frz {k : Nat} {s : St} (Z : List Nat) : ToK k s ⟨s.t.map fun p => (p.1, fz Z (lookC s.h) p.2), deadsOf Z ++ s.h, s.n⟩ := by
  intro H F β a w hk C
  have M := fz_mem C.m Z
  have e : lookC (deadsOf Z ++ s.h) = fzH Z (lookC s.h) := by
    rw [← upd_look, upd_deads]
  refine ⟨fzF Z F β, fzB Z β, fun t => ?_, by rw [e]; exact M, C.nt, C.d, fun b hb => .inl (C.f b hb), fun b hb => ?_, fun i bd hi hb => C.e i bd hi (fzB_some hb).2, C.k⟩
  · simp only [look_fz]
    exact fz_run C.m (fun _ _ => rfl) Z _ _ (C.t t)
  · rcases hb with h1 | ⟨id, bd, _, h2, h3⟩
    · exact C.g b h1
    · exact .inr (C.m.off id bd b h2 h3).2.2
end Go.Proofs.Ytehcnnodkhcgfaa
namespace Go.Proofs.Ytehcnnodkhcgfaa
set_option linter.all false
open Go.RowKit
set_option maxRecDepth 100000
set_option maxHeartbeats 1000000
theorem ixOf_none {α : Type} {p : α → Bool} {l : List α} (h : ixOf p l = -1) (x : α) (hx : x ∈ l) : p x = false := by
  unfold ixOf at h
  split at h
  · rename_i hf
    exact List.findIdx?_eq_none_iff.1 hf x hx
  · omega
theorem ixOf_some {α : Type} [Inhabited α] {p : α → Bool} {l : List α} (h : ¬ ixOf p l = -1) : ∃ i : Nat, ixOf p l = (i : Int) ∧ i < l.length ∧ p (l.getD i default) = true ∧ (l.take (i + 1)).filter (fun y => !p y) = l.take i := by
  unfold ixOf at h ⊢
  split
  · rename_i hf
    rw [hf] at h; exact absurd rfl h
  · rename_i i hf
    obtain ⟨hi, h1, h2⟩ := List.findIdx?_eq_some_iff_getElem.1 hf
    refine ⟨i, rfl, hi, by rw [getD_at _ _ hi]; exact h1, ?_⟩
    rw [take_snoc l i hi, List.filter_append, getD_at _ _ hi, List.filter_cons, h1]
    simp only [Bool.not_true, Bool.false_eq_true, if_false, List.filter_nil, List.append_nil]
    refine List.filter_eq_self.2 fun x hx => ?_
    obtain ⟨j, hj, rfl⟩ := List.getElem_of_mem hx
    rw [List.getElem_take]
    have := h2 j (by simp at hj; omega)
    simpa using this
theorem drop_get {α : Type} [Inhabited α] (l : List α) (j : Nat) (h : j < l.length) : l.drop j = l.getD j default :: l.drop (j + 1) := by
  rw [getD_at _ _ h]; exact List.drop_eq_getElem_cons h
theorem del_0 {α : Type} [Inhabited α] (l : List α) (i : Nat) (h : i < l.length) : l.take i ++ [l.getD i default] ++ l.drop (i + 1) = l := by
  rw [List.append_assoc, List.singleton_append, ← drop_get l i h, List.take_append_drop]
theorem del_1 {α : Type} (l : List α) (i : Nat) (h : i < l.length) : (l.take i).length = i := by rw [List.length_take]; omega
theorem del_get {α : Type} [Inhabited α] (l fl mid : List α) (j : Nat) (hlen : fl.length + mid.length = j) (h : j < l.length) : (fl ++ mid ++ l.drop j).getD j default = l.getD j default := by
  rw [getD_at _ _ (by simp; omega), List.getElem_append_right (by simp; omega), getD_at _ _ h, List.getElem_drop]
  congr 1; simp; omega
theorem trp_del (F : FuncId) (a b : List AV) (l : List Trp) (p : Trp → Bool) (hl : l.length ≤ 1000000) (hp : ∀ n ∈ l, Spec Try.prog F (a ++ [trpA n] ++ b) [] (B (p n)) []) (ha : ∀ h, cvL [] h a = a) (hb : ∀ h, cvL [] h b = b) (ha0 : ∀ h, cvL [0] h a = a) (hb0 : ∀ h, cvL [0] h b = b) :
    Spec Try.prog 134 [.own 0, .clo (.func F) a b] [.row 103 7 (l.map trpP)] (.c (.sl 7 ((l.filter (fun x => !p x)).map trpP))) [.dead] := by
  refine spec_am Try.func134 rfl rfl mix 42 rfl [.tmp 4] Try.results134 (Nat.le_of_ble_eq_true rfl) ?_
  (try simp (etaStruct := .none) only [push_cast, DrawG, Int.cast_ofNat_Int, Nat.reduceAdd, Nat.reduceSub, Nat.reduceMul, reduceCtorEq, reduceIte, Nat.reduceEqDiff, Nat.reduceLT, Nat.reduceLeDiff, Nat.reduceBEq, Int.reduceToNat, Int.reduceLE, Int.reduceLT]); (try simp (disch := omega) only [wrap_in, wk_self, Int.tdiv_eq_ediv_of_nonneg, Int.tmod_eq_emod_of_nonneg]); (repeat (with_reducible refine And.intro ?_ ?_; · first | omega | decide | (simp; done) | (simp; omega) | (intro hh; refine ⟨hh, ?_⟩; omega) | (simp +contextual; done)))
  refine callB (trp_ix F a b l p (by omega) hp ha hb) (by simp only [ha, hb, cvL, cv]; exact WkL.refl _) rfl ?_
  (try simp (etaStruct := .none) only [push_cast, DrawG, Int.cast_ofNat_Int, Nat.reduceAdd, Nat.reduceSub, Nat.reduceMul, reduceCtorEq, reduceIte, Nat.reduceEqDiff, Nat.reduceLT, Nat.reduceLeDiff, Nat.reduceBEq, Int.reduceToNat, Int.reduceLE, Int.reduceLT]); (try simp (disch := omega) only [wrap_in, wk_self, Int.tdiv_eq_ediv_of_nonneg, Int.tmod_eq_emod_of_nonneg]); (repeat (with_reducible refine And.intro ?_ ?_; · first | omega | decide | (simp; done) | (simp; omega) | (intro hh; refine ⟨hh, ?_⟩; omega) | (simp +contextual; done)))
  refine cond_i (fun h1 => ?_) (fun h1 => ?_)
  · (try simp only [decide_eq_true_eq, decide_eq_false_iff_not, Bool.not_eq_true', Bool.not_eq_false', Bool.or_eq_true, Bool.and_eq_true, Bool.or_eq_false_iff, Bool.and_eq_false_iff, Int.not_lt, Int.not_le, Bool.not_true, Bool.not_false, not_and, not_or] at h1)
    have hf : l.filter (fun x => !p x) = l := List.filter_eq_self.2 fun x hx => by
      have := ixOf_none (p := p) (l := l) h1 x hx
      rw [this]; rfl
    (try simp (etaStruct := .none) only [push_cast, DrawG, Int.cast_ofNat_Int, Nat.reduceAdd, Nat.reduceSub, Nat.reduceMul, reduceCtorEq, reduceIte, Nat.reduceEqDiff, Nat.reduceLT, Nat.reduceLeDiff, Nat.reduceBEq, Int.reduceToNat, Int.reduceLE, Int.reduceLT]); (try simp (disch := omega) only [wrap_in, wk_self, Int.tdiv_eq_ediv_of_nonneg, Int.tmod_eq_emod_of_nonneg]); (repeat (with_reducible refine And.intro ?_ ?_; · first | omega | decide | (simp; done) | (simp; omega) | (intro hh; refine ⟨hh, ?_⟩; omega) | (simp +contextual; done)))
    refine retTo (To.frz [0]) ?_
    simp (etaStruct := .none) only [push_cast, DrawG, Int.cast_ofNat_Int, Nat.reduceAdd, Nat.reduceSub, Nat.reduceMul, reduceCtorEq, reduceIte, Nat.reduceEqDiff, Nat.reduceLT, Nat.reduceLeDiff, Nat.reduceBEq, Int.reduceToNat, Int.reduceLE, Int.reduceLT]
    refine retM [0] rfl rfl (by decide) ⟨?_, trivial⟩ trivial ?_ <;> simp (etaStruct := .none) only [push_cast, DrawG, Int.cast_ofNat_Int, Nat.reduceAdd, Nat.reduceSub, Nat.reduceMul, reduceCtorEq, reduceIte, Nat.reduceEqDiff, Nat.reduceLT, Nat.reduceLeDiff, Nat.reduceBEq, Int.reduceToNat, Int.reduceLE, Int.reduceLT, hf]
  · (try simp only [decide_eq_true_eq, decide_eq_false_iff_not, Bool.not_eq_true', Bool.not_eq_false', Bool.or_eq_true, Bool.and_eq_true, Bool.or_eq_false_iff, Bool.and_eq_false_iff, Int.not_lt, Int.not_le, Bool.not_true, Bool.not_false, not_and, not_or] at h1)
    obtain ⟨i, hi, hil, hip, hfi⟩ := ixOf_some (p := p) (l := l) h1
    (iterate 2 ((try simp (etaStruct := .none) only [push_cast, DrawG, Int.cast_ofNat_Int, Nat.reduceAdd, Nat.reduceSub, Nat.reduceMul, reduceCtorEq, reduceIte, Nat.reduceEqDiff, Nat.reduceLT, Nat.reduceLeDiff, Nat.reduceBEq, Int.reduceToNat, Int.reduceLE, Int.reduceLT, hi]); (try simp (disch := omega) only [wrap_in, wk_self, Int.tdiv_eq_ediv_of_nonneg, Int.tmod_eq_emod_of_nonneg]); (repeat (with_reducible refine And.intro ?_ ?_; · first | omega | decide | (simp; done) | (simp; omega) | (intro hh; refine ⟨hh, ?_⟩; omega) | (simp +contextual; done)))))
    refine loopI (fun x : Nat × List Trp => ⟨[(6, I .i64 x.1), (5, I .i64 ((l.take x.1).filter (fun y => !p y)).length), (1, .clo (.func F) a b), (0, .own 0)], [(0, .row 103 7 ((((l.take x.1).filter (fun y => !p y)) ++ x.2 ++ l.drop x.1).map trpP))], 1⟩) (fun x : Nat × List Trp => x.1 ≤ l.length ∧ 0 < x.2.length ∧ ((l.take x.1).filter (fun y => !p y)).length + x.2.length = x.1) (fun x : Nat × List Trp => l.length - x.1) ((i + 1, [l.getD i default])) (⟨by simp only; omega, by simp, by simp only; rw [hfi]; simp; omega⟩) (To.mk [0] rfl rfl (by decide) ?_ ?_) ?_
    · simp (etaStruct := .none) only [push_cast, DrawG, Int.cast_ofNat_Int, Nat.reduceAdd, Nat.reduceSub, Nat.reduceMul, reduceCtorEq, reduceIte, Nat.reduceEqDiff, Nat.reduceLT, Nat.reduceLeDiff, Nat.reduceBEq, Int.reduceToNat, Int.reduceLE, Int.reduceLT, hfi]
      rw [del_0 l i hil]
    · (iterate 2 ((try simp (etaStruct := .none) only [push_cast, DrawG, Int.cast_ofNat_Int, Nat.reduceAdd, Nat.reduceSub, Nat.reduceMul, reduceCtorEq, reduceIte, Nat.reduceEqDiff, Nat.reduceLT, Nat.reduceLeDiff, Nat.reduceBEq, Int.reduceToNat, Int.reduceLE, Int.reduceLT, hfi, ha0, hb0, del_1 l i hil]); (try simp (disch := omega) only [wrap_in, wk_self, Int.tdiv_eq_ediv_of_nonneg, Int.tmod_eq_emod_of_nonneg]); (repeat (with_reducible refine And.intro ?_ ?_; · first | omega | decide | (simp; done) | (simp; omega) | (intro hh; refine ⟨hh, ?_⟩; omega) | (simp +contextual; done)))))
    rintro ⟨j, mid⟩ ⟨hj, hm, hlen⟩
    simp only at hj hm hlen
    obtain ⟨fl, hfl⟩ : ∃ fl, fl = (l.take j).filter (fun y => !p y) := ⟨_, rfl⟩
    rw [← hfl] at hlen
    have hrl : (fl ++ mid ++ l.drop j).length = l.length := by simp; omega
    (iterate 2 ((try simp (etaStruct := .none) only [push_cast, DrawG, Int.cast_ofNat_Int, Nat.reduceAdd, Nat.reduceSub, Nat.reduceMul, reduceCtorEq, reduceIte, Nat.reduceEqDiff, Nat.reduceLT, Nat.reduceLeDiff, Nat.reduceBEq, Int.reduceToNat, Int.reduceLE, Int.reduceLT, hi, ← hfl, hrl]); (try simp (disch := omega) only [wrap_in, wk_self, Int.tdiv_eq_ediv_of_nonneg, Int.tmod_eq_emod_of_nonneg]); (repeat (with_reducible refine And.intro ?_ ?_; · first | omega | decide | (simp; done) | (simp; omega) | (intro hh; refine ⟨hh, ?_⟩; omega) | (simp +contextual; done)))))
    refine cond_i (fun h2 => ?_) (fun h2 => ?_)
    · (try simp only [decide_eq_true_eq, decide_eq_false_iff_not, Bool.not_eq_true', Bool.not_eq_false', Bool.or_eq_true, Bool.and_eq_true, Bool.or_eq_false_iff, Bool.and_eq_false_iff, Int.not_lt, Int.not_le, Bool.not_true, Bool.not_false, not_and, not_or] at h2)
      have hlt : j < l.length := by omega
      have hjr : j < (fl ++ mid ++ l.drop j).length := by omega
      have hgj : (fl ++ mid ++ l.drop j).getD j default = l.getD j default := del_get l fl mid j hlen hlt
      have hts := take_snoc l j hlt
      have hds := drop_get l j hlt
      (iterate 2 ((try simp (etaStruct := .none) only [push_cast, DrawG, Int.cast_ofNat_Int, Nat.reduceAdd, Nat.reduceSub, Nat.reduceMul, reduceCtorEq, reduceIte, Nat.reduceEqDiff, Nat.reduceLT, Nat.reduceLeDiff, Nat.reduceBEq, Int.reduceToNat, Int.reduceLE, Int.reduceLT, hi, ← hfl, hrl, getD_in _ _ _ hjr, hgj, trpP]); (try simp (disch := omega) only [wrap_in, wk_self, Int.tdiv_eq_ediv_of_nonneg, Int.tmod_eq_emod_of_nonneg]); (repeat (with_reducible refine And.intro ?_ ?_; · first | omega | decide | (simp; done) | (simp; omega) | (intro hh; refine ⟨hh, ?_⟩; omega) | (simp +contextual; done)))))
      refine callP (hp (l.getD j default) (getD_mem l j hlt)) (by simp only [ha, hb, cvL_append, cvL, cv]; exact WkL.refl _) ?_
      (iterate 2 ((try simp (etaStruct := .none) only [push_cast, DrawG, Int.cast_ofNat_Int, Nat.reduceAdd, Nat.reduceSub, Nat.reduceMul, reduceCtorEq, reduceIte, Nat.reduceEqDiff, Nat.reduceLT, Nat.reduceLeDiff, Nat.reduceBEq, Int.reduceToNat, Int.reduceLE, Int.reduceLT, hi, ← hfl, hrl, getD_in _ _ _ hjr, hgj, trpP]); (try simp (disch := omega) only [wrap_in, wk_self, Int.tdiv_eq_ediv_of_nonneg, Int.tmod_eq_emod_of_nonneg]); (repeat (with_reducible refine And.intro ?_ ?_; · first | omega | decide | (simp; done) | (simp; omega) | (intro hh; refine ⟨hh, ?_⟩; omega) | (simp +contextual; done)))))
      refine cond_i (fun h3 => ?_) (fun h3 => ?_)
      · (try simp only [decide_eq_true_eq, decide_eq_false_iff_not, Bool.not_eq_true', Bool.not_eq_false', Bool.or_eq_true, Bool.and_eq_true, Bool.or_eq_false_iff, Bool.and_eq_false_iff, Int.not_lt, Int.not_le, Bool.not_true, Bool.not_false, not_and, not_or] at h3)
        obtain ⟨m0, mt, rfl⟩ : ∃ m0 mt, mid = m0 :: mt := by
          cases mid with
          | nil => simp at hm
          | cons a b => exact ⟨a, b, rfl⟩
        have hfn : (l.take (j + 1)).filter (fun y => !p y) = fl ++ [l.getD j default] := by rw [hts, List.filter_append, ← hfl, List.filter_cons, h3]; rfl
        have hs : (l.take (j + 1)).filter (fun y => !p y) ++ (mt ++ [l.getD j default]) ++ l.drop (j + 1) = (fl ++ m0 :: mt ++ l.drop j).set fl.length (l.getD j default) := by
          rw [hfn, hds]; simp
        have hfl2 : ((l.take (j + 1)).filter (fun y => !p y)).length = fl.length + 1 := by rw [hfn]; simp
        have hlen2 : fl.length + (mt.length + 1) = j := by rw [← hlen]; simp
        (iterate 2 ((try simp (etaStruct := .none) only [push_cast, DrawG, Int.cast_ofNat_Int, Nat.reduceAdd, Nat.reduceSub, Nat.reduceMul, reduceCtorEq, reduceIte, Nat.reduceEqDiff, Nat.reduceLT, Nat.reduceLeDiff, Nat.reduceBEq, Int.reduceToNat, Int.reduceLE, Int.reduceLT, hi, ← hfl, hrl, getD_in _ _ _ hjr, hgj, trpP, ha0, hb0]); (try simp (disch := omega) only [wrap_in, wk_self, Int.tdiv_eq_ediv_of_nonneg, Int.tmod_eq_emod_of_nonneg]); (repeat (with_reducible refine And.intro ?_ ?_; · first | omega | decide | (simp; done) | (simp; omega) | (intro hh; refine ⟨hh, ?_⟩; omega) | (simp +contextual; done)))))
        refine ⟨(j + 1, mt ++ [l.getD j default]), ⟨by simp only; omega, by simp, by simp only; rw [hfl2]; simp; omega⟩, by simp only; omega, To.mk [0] rfl rfl (by decide) ?_ ?_⟩
        · simp (etaStruct := .none) only [push_cast, DrawG, Int.cast_ofNat_Int, Nat.reduceAdd, Nat.reduceSub, Nat.reduceMul, reduceCtorEq, reduceIte, Nat.reduceEqDiff, Nat.reduceLT, Nat.reduceLeDiff, Nat.reduceBEq, Int.reduceToNat, Int.reduceLE, Int.reduceLT, hs, List.map_set, trpP]
        · (iterate 2 ((try simp (etaStruct := .none) only [push_cast, DrawG, Int.cast_ofNat_Int, Nat.reduceAdd, Nat.reduceSub, Nat.reduceMul, reduceCtorEq, reduceIte, Nat.reduceEqDiff, Nat.reduceLT, Nat.reduceLeDiff, Nat.reduceBEq, Int.reduceToNat, Int.reduceLE, Int.reduceLT, hfl2, ha0, hb0]); (try simp (disch := omega) only [wrap_in, wk_self, Int.tdiv_eq_ediv_of_nonneg, Int.tmod_eq_emod_of_nonneg]); (repeat (with_reducible refine And.intro ?_ ?_; · first | omega | decide | (simp; done) | (simp; omega) | (intro hh; refine ⟨hh, ?_⟩; omega) | (simp +contextual; done)))))
      · (try simp only [decide_eq_true_eq, decide_eq_false_iff_not, Bool.not_eq_true', Bool.not_eq_false', Bool.or_eq_true, Bool.and_eq_true, Bool.or_eq_false_iff, Bool.and_eq_false_iff, Int.not_lt, Int.not_le, Bool.not_true, Bool.not_false, not_and, not_or] at h3)
        have hfn : (l.take (j + 1)).filter (fun y => !p y) = fl := by rw [hts, List.filter_append, ← hfl, List.filter_cons, h3]; simp
        have hs : fl ++ (mid ++ [l.getD j default]) ++ l.drop (j + 1) = fl ++ mid ++ l.drop j := by rw [hds]; simp
        (iterate 2 ((try simp (etaStruct := .none) only [push_cast, DrawG, Int.cast_ofNat_Int, Nat.reduceAdd, Nat.reduceSub, Nat.reduceMul, reduceCtorEq, reduceIte, Nat.reduceEqDiff, Nat.reduceLT, Nat.reduceLeDiff, Nat.reduceBEq, Int.reduceToNat, Int.reduceLE, Int.reduceLT, hi, ← hfl, hrl, getD_in _ _ _ hjr, hgj, trpP]); (try simp (disch := omega) only [wrap_in, wk_self, Int.tdiv_eq_ediv_of_nonneg, Int.tmod_eq_emod_of_nonneg]); (repeat (with_reducible refine And.intro ?_ ?_; · first | omega | decide | (simp; done) | (simp; omega) | (intro hh; refine ⟨hh, ?_⟩; omega) | (simp +contextual; done)))))
        refine ⟨(j + 1, mid ++ [l.getD j default]), ⟨by simp only; omega, by simp, by simp only; rw [hfn]; simp; omega⟩, by simp only; omega, To.mk [0] rfl rfl (by decide) ?_ ?_⟩
        · simp (etaStruct := .none) only [push_cast, DrawG, Int.cast_ofNat_Int, Nat.reduceAdd, Nat.reduceSub, Nat.reduceMul, reduceCtorEq, reduceIte, Nat.reduceEqDiff, Nat.reduceLT, Nat.reduceLeDiff, Nat.reduceBEq, Int.reduceToNat, Int.reduceLE, Int.reduceLT, hfn, hs]
        · (iterate 2 ((try simp (etaStruct := .none) only [push_cast, DrawG, Int.cast_ofNat_Int, Nat.reduceAdd, Nat.reduceSub, Nat.reduceMul, reduceCtorEq, reduceIte, Nat.reduceEqDiff, Nat.reduceLT, Nat.reduceLeDiff, Nat.reduceBEq, Int.reduceToNat, Int.reduceLE, Int.reduceLT, hfn, ha0, hb0]); (try simp (disch := omega) only [wrap_in, wk_self, Int.tdiv_eq_ediv_of_nonneg, Int.tmod_eq_emod_of_nonneg]); (repeat (with_reducible refine And.intro ?_ ?_; · first | omega | decide | (simp; done) | (simp; omega) | (intro hh; refine ⟨hh, ?_⟩; omega) | (simp +contextual; done)))))
    · (try simp only [decide_eq_true_eq, decide_eq_false_iff_not, Bool.not_eq_true', Bool.not_eq_false', Bool.or_eq_true, Bool.and_eq_true, Bool.or_eq_false_iff, Bool.and_eq_false_iff, Int.not_lt, Int.not_le, Bool.not_true, Bool.not_false, not_and, not_or] at h2)
      obtain rfl : j = l.length := by omega
      rw [List.take_length] at hfl
      have hfle : fl.length ≤ l.length := by omega
      have hres : ∀ Y : List (List PV), List.take fl.length (List.take fl.length ((fl ++ mid ++ l.drop l.length).map trpP) ++ Y) = fl.map trpP := fun Y => by
        rw [List.take_append_of_le_length (by simp), List.take_take, Nat.min_self, List.append_assoc, List.map_append, List.take_append_of_le_length (by simp), List.take_of_length_le (by simp)]
      (iterate 2 ((try simp (etaStruct := .none) only [push_cast, DrawG, Int.cast_ofNat_Int, Nat.reduceAdd, Nat.reduceSub, Nat.reduceMul, reduceCtorEq, reduceIte, Nat.reduceEqDiff, Nat.reduceLT, Nat.reduceLeDiff, Nat.reduceBEq, Int.reduceToNat, Int.reduceLE, Int.reduceLT, hi, ← hfl, hrl]); (try simp (disch := omega) only [wrap_in, wk_self, Int.tdiv_eq_ediv_of_nonneg, Int.tmod_eq_emod_of_nonneg]); (repeat (with_reducible refine And.intro ?_ ?_; · first | omega | decide | (simp; done) | (simp; omega) | (intro hh; refine ⟨hh, ?_⟩; omega) | (simp +contextual; done)))))
      refine retTo (To.frz [0]) ?_
      simp (etaStruct := .none) only [push_cast, DrawG, Int.cast_ofNat_Int, Nat.reduceAdd, Nat.reduceSub, Nat.reduceMul, reduceCtorEq, reduceIte, Nat.reduceEqDiff, Nat.reduceLT, Nat.reduceLeDiff, Nat.reduceBEq, Int.reduceToNat, Int.reduceLE, Int.reduceLT]
      refine retM [0] rfl rfl (by decide) ⟨?_, trivial⟩ trivial ?_ <;> simp (etaStruct := .none) only [push_cast, DrawG, Int.cast_ofNat_Int, Nat.reduceAdd, Nat.reduceSub, Nat.reduceMul, reduceCtorEq, reduceIte, Nat.reduceEqDiff, Nat.reduceLT, Nat.reduceLeDiff, Nat.reduceBEq, Int.reduceToNat, Int.reduceLE, Int.reduceLT, hres, ← hfl]
end Go.Proofs.Ytehcnnodkhcgfaa
