/- slices.Clone: over the data. -/
import Derived.Test.YtibknlfadoeglaaDat
namespace Go.Proofs.Ytibknlfadoeglaa
set_option linter.all false
open Go.RowKit
set_option maxRecDepth 100000
/-- A copy: a row of one's own. -/
theorem ord_clone (l : List Ord) (hl : l.length ≤ 2932031007402) : Spec Try.prog 103 [.c (.sl 6 (l.map ordP))] [] (.own 0) [.row 64 6 (l.map ordP)] := by
  refine spec_am Try.func103 rfl rfl mix 8 rfl [.tmp 2] Try.results103 (Nat.le_of_ble_eq_true rfl) ?_
  (try simp (etaStruct := .none) only [push_cast, Int.cast_ofNat_Int, Nat.reduceAdd, Nat.reduceSub, Nat.reduceMul, reduceCtorEq, reduceIte, Nat.reduceEqDiff, Nat.reduceLT, Nat.reduceLeDiff, Nat.reduceBEq, Int.reduceToNat, Int.reduceLE, Int.reduceLT]); (try simp (disch := omega) only [wrap_in, wk_self, Int.tdiv_eq_ediv_of_nonneg, Int.tmod_eq_emod_of_nonneg]); (repeat (with_reducible refine And.intro ?_ ?_; · first | omega | decide | (simp; done) | (simp; omega) | (intro hh; refine ⟨hh, ?_⟩; omega) | (simp +contextual; done)))
  intro b hb
  (try simp (etaStruct := .none) only [push_cast, Int.cast_ofNat_Int, Nat.reduceAdd, Nat.reduceSub, Nat.reduceMul, reduceCtorEq, reduceIte, Nat.reduceEqDiff, Nat.reduceLT, Nat.reduceLeDiff, Nat.reduceBEq, Int.reduceToNat, Int.reduceLE, Int.reduceLT]); (try simp (disch := omega) only [wrap_in, wk_self, Int.tdiv_eq_ediv_of_nonneg, Int.tmod_eq_emod_of_nonneg]); (repeat (with_reducible refine And.intro ?_ ?_; · first | omega | decide | (simp; done) | (simp; omega) | (intro hh; refine ⟨hh, ?_⟩; omega) | (simp +contextual; done)))
  refine cond_i (fun h => ?_) (fun h => ?_)
  · (try simp (etaStruct := .none) only [push_cast, Int.cast_ofNat_Int, Nat.reduceAdd, Nat.reduceSub, Nat.reduceMul, reduceCtorEq, reduceIte, Nat.reduceEqDiff, Nat.reduceLT, Nat.reduceLeDiff, Nat.reduceBEq, Int.reduceToNat, Int.reduceLE, Int.reduceLT]); (try simp (disch := omega) only [wrap_in, wk_self, Int.tdiv_eq_ediv_of_nonneg, Int.tmod_eq_emod_of_nonneg]); (repeat (with_reducible refine And.intro ?_ ?_; · first | omega | decide | (simp; done) | (simp; omega) | (intro hh; refine ⟨hh, ?_⟩; omega) | (simp +contextual; done)))
    have e := hb h
    refine retTo (To.nil 2 64 6 rfl) (retM [0] rfl rfl (by decide) ⟨?_, trivial⟩ trivial ?_)
    · simp (etaStruct := .none) only [push_cast, Int.cast_ofNat_Int, Nat.reduceAdd, Nat.reduceSub, Nat.reduceMul, reduceCtorEq, reduceIte, Nat.reduceEqDiff, Nat.reduceLT, Nat.reduceLeDiff, Nat.reduceBEq, Int.reduceToNat, Int.reduceLE, Int.reduceLT, e]
    · simp (etaStruct := .none) only [push_cast, Int.cast_ofNat_Int, Nat.reduceAdd, Nat.reduceSub, Nat.reduceMul, reduceCtorEq, reduceIte, Nat.reduceEqDiff, Nat.reduceLT, Nat.reduceLeDiff, Nat.reduceBEq, Int.reduceToNat, Int.reduceLE, Int.reduceLT]
  · (try simp (etaStruct := .none) only [push_cast, Int.cast_ofNat_Int, Nat.reduceAdd, Nat.reduceSub, Nat.reduceMul, reduceCtorEq, reduceIte, Nat.reduceEqDiff, Nat.reduceLT, Nat.reduceLeDiff, Nat.reduceBEq, Int.reduceToNat, Int.reduceLE, Int.reduceLT]); (try simp (disch := omega) only [wrap_in, wk_self, Int.tdiv_eq_ediv_of_nonneg, Int.tmod_eq_emod_of_nonneg]); (repeat (with_reducible refine And.intro ?_ ?_; · first | omega | decide | (simp; done) | (simp; omega) | (intro hh; refine ⟨hh, ?_⟩; omega) | (simp +contextual; done)))
    refine retM [1] rfl rfl (by decide) ⟨?_, trivial⟩ trivial ?_
    · simp (etaStruct := .none) only [push_cast, Int.cast_ofNat_Int, Nat.reduceAdd, Nat.reduceSub, Nat.reduceMul, reduceCtorEq, reduceIte, Nat.reduceEqDiff, Nat.reduceLT, Nat.reduceLeDiff, Nat.reduceBEq, Int.reduceToNat, Int.reduceLE, Int.reduceLT]
    · simp (etaStruct := .none) only [push_cast, Int.cast_ofNat_Int, Nat.reduceAdd, Nat.reduceSub, Nat.reduceMul, reduceCtorEq, reduceIte, Nat.reduceEqDiff, Nat.reduceLT, Nat.reduceLeDiff, Nat.reduceBEq, Int.reduceToNat, Int.reduceLE, Int.reduceLT]
/-- A copy that is read only. -/
theorem ord_copy (l : List Ord) (hl : l.length ≤ 2932031007402) : Spec Try.prog 103 [.c (.sl 6 (l.map ordP))] [] (.c (.sl 6 (l.map ordP))) [] := by
  refine spec_am Try.func103 rfl rfl mix 8 rfl [.tmp 2] Try.results103 (Nat.le_of_ble_eq_true rfl) ?_
  (try simp (etaStruct := .none) only [push_cast, Int.cast_ofNat_Int, Nat.reduceAdd, Nat.reduceSub, Nat.reduceMul, reduceCtorEq, reduceIte, Nat.reduceEqDiff, Nat.reduceLT, Nat.reduceLeDiff, Nat.reduceBEq, Int.reduceToNat, Int.reduceLE, Int.reduceLT]); (try simp (disch := omega) only [wrap_in, wk_self, Int.tdiv_eq_ediv_of_nonneg, Int.tmod_eq_emod_of_nonneg]); (repeat (with_reducible refine And.intro ?_ ?_; · first | omega | decide | (simp; done) | (simp; omega) | (intro hh; refine ⟨hh, ?_⟩; omega) | (simp +contextual; done)))
  intro b hb
  (try simp (etaStruct := .none) only [push_cast, Int.cast_ofNat_Int, Nat.reduceAdd, Nat.reduceSub, Nat.reduceMul, reduceCtorEq, reduceIte, Nat.reduceEqDiff, Nat.reduceLT, Nat.reduceLeDiff, Nat.reduceBEq, Int.reduceToNat, Int.reduceLE, Int.reduceLT]); (try simp (disch := omega) only [wrap_in, wk_self, Int.tdiv_eq_ediv_of_nonneg, Int.tmod_eq_emod_of_nonneg]); (repeat (with_reducible refine And.intro ?_ ?_; · first | omega | decide | (simp; done) | (simp; omega) | (intro hh; refine ⟨hh, ?_⟩; omega) | (simp +contextual; done)))
  refine cond_i (fun h => ?_) (fun h => ?_)
  · (try simp (etaStruct := .none) only [push_cast, Int.cast_ofNat_Int, Nat.reduceAdd, Nat.reduceSub, Nat.reduceMul, reduceCtorEq, reduceIte, Nat.reduceEqDiff, Nat.reduceLT, Nat.reduceLeDiff, Nat.reduceBEq, Int.reduceToNat, Int.reduceLE, Int.reduceLT]); (try simp (disch := omega) only [wrap_in, wk_self, Int.tdiv_eq_ediv_of_nonneg, Int.tmod_eq_emod_of_nonneg]); (repeat (with_reducible refine And.intro ?_ ?_; · first | omega | decide | (simp; done) | (simp; omega) | (intro hh; refine ⟨hh, ?_⟩; omega) | (simp +contextual; done)))
    exact ret0 rfl trivial (by rw [hb h]; exact Wk.nil _)
  · (try simp (etaStruct := .none) only [push_cast, Int.cast_ofNat_Int, Nat.reduceAdd, Nat.reduceSub, Nat.reduceMul, reduceCtorEq, reduceIte, Nat.reduceEqDiff, Nat.reduceLT, Nat.reduceLeDiff, Nat.reduceBEq, Int.reduceToNat, Int.reduceLE, Int.reduceLT]); (try simp (disch := omega) only [wrap_in, wk_self, Int.tdiv_eq_ediv_of_nonneg, Int.tmod_eq_emod_of_nonneg]); (repeat (with_reducible refine And.intro ?_ ?_; · first | omega | decide | (simp; done) | (simp; omega) | (intro hh; refine ⟨hh, ?_⟩; omega) | (simp +contextual; done)))
    exact ret0 rfl trivial (Wk.refl _)

end Go.Proofs.Ytibknlfadoeglaa
