/- Lemmas for the proof of marchSays.proved. -/
import Derived.Test.YtehcnnodkhcgfaaMarchSaysM6
namespace Go.Proofs.Ytehcnnodkhcgfaa
set_option linter.all false
open Go.RowKit
set_option maxRecDepth 100000
set_option maxHeartbeats 1000000
def nodP (x : Nod) : List PV := [pI x.c.x, pI x.c.y, pI x.far, pI x.all]
abbrev nodA (x : Nod) : AV := .agg [I .i64 x.c.x, I .i64 x.c.y, I .i64 x.far, I .i64 x.all]
theorem olen_s (l : List Nod) : Spec Try.prog 237 [.c (.sl 4 (l.map nodP))] [] (I .i64 l.length) [] := by
  refine spec_am Try.func237 rfl rfl mix 5 rfl [.tmp 2] Try.results237 (Nat.le_of_ble_eq_true rfl) ?_
  (try simp (etaStruct := .none) only [push_cast, DrawG, Int.cast_ofNat_Int, Nat.reduceAdd, Nat.reduceSub, Nat.reduceMul, reduceCtorEq, reduceIte, Nat.reduceEqDiff, Nat.reduceLT, Nat.reduceLeDiff, Nat.reduceBEq, Int.reduceToNat, Int.reduceLE, Int.reduceLT]); (try simp (disch := omega) only [wrap_in, wk_self, Int.tdiv_eq_ediv_of_nonneg, Int.tmod_eq_emod_of_nonneg]); (repeat with_reducible refine obA ?_)
  (first | (refine ret0 rfl (by repeat' (first | exact trivial | exact rfl | refine ⟨?_, ?_⟩)) (Wk.of ?_); (try simp (etaStruct := .none) only [push_cast, DrawG, Int.cast_ofNat_Int, Nat.reduceAdd, Nat.reduceSub, Nat.reduceMul, reduceCtorEq, reduceIte, Nat.reduceEqDiff, Nat.reduceLT, Nat.reduceLeDiff, Nat.reduceBEq, Int.reduceToNat, Int.reduceLE, Int.reduceLT]); first | done | (simp [*]; done) | (simp_all []; done)) | (refine ret0 rfl (by repeat' (first | exact trivial | exact rfl | refine ⟨?_, ?_⟩)) ?_; (try simp (etaStruct := .none) only [push_cast, DrawG, Int.cast_ofNat_Int, Nat.reduceAdd, Nat.reduceSub, Nat.reduceMul, reduceCtorEq, reduceIte, Nat.reduceEqDiff, Nat.reduceLT, Nat.reduceLeDiff, Nat.reduceBEq, Int.reduceToNat, Int.reduceLE, Int.reduceLT]); (try simp [*]); (try (first | exact Wk.refl _ | exact Wk.nil _ | (refine Wk.tup ?_; repeat' (first | exact trivial | exact Wk.refl _ | exact Wk.nil _ | refine ⟨?_, ?_⟩ | (refine Wk.agg ?_)))))))
theorem oless_s (l : List Nod) (i j : Nat) (hi : i < l.length) (hj : j < l.length) : Spec Try.prog 313 [.c (.sl 4 (l.map nodP)), I .i64 i, I .i64 j] [] (B (decide ((l.getD i default).all < (l.getD j default).all))) [] := by
  refine spec_am Try.func313 rfl rfl mix 18 rfl [.tmp 6] Try.results313 (Nat.le_of_ble_eq_true rfl) ?_
  (iterate 2 ((try simp (etaStruct := .none) only [push_cast, DrawG, Int.cast_ofNat_Int, Nat.reduceAdd, Nat.reduceSub, Nat.reduceMul, reduceCtorEq, reduceIte, Nat.reduceEqDiff, Nat.reduceLT, Nat.reduceLeDiff, Nat.reduceBEq, Int.reduceToNat, Int.reduceLE, Int.reduceLT, getD_in _ _ _ hi, getD_in _ _ _ hj, nodP]); (try simp (disch := omega) only [wrap_in, wk_self, Int.tdiv_eq_ediv_of_nonneg, Int.tmod_eq_emod_of_nonneg]); (repeat with_reducible refine obA ?_)))
  (try (refine ⟨by kernel_rfl, ?_⟩))
  (iterate 2 ((try simp (etaStruct := .none) only [push_cast, DrawG, Int.cast_ofNat_Int, Nat.reduceAdd, Nat.reduceSub, Nat.reduceMul, reduceCtorEq, reduceIte, Nat.reduceEqDiff, Nat.reduceLT, Nat.reduceLeDiff, Nat.reduceBEq, Int.reduceToNat, Int.reduceLE, Int.reduceLT, getD_in _ _ _ hi, getD_in _ _ _ hj, nodP]); (try simp (disch := omega) only [wrap_in, wk_self, Int.tdiv_eq_ediv_of_nonneg, Int.tmod_eq_emod_of_nonneg]); (repeat with_reducible refine obA ?_)))
  (first | (refine ret0 rfl (by repeat' (first | exact trivial | exact rfl | refine ⟨?_, ?_⟩)) (Wk.of ?_); (try simp (etaStruct := .none) only [push_cast, DrawG, Int.cast_ofNat_Int, Nat.reduceAdd, Nat.reduceSub, Nat.reduceMul, reduceCtorEq, reduceIte, Nat.reduceEqDiff, Nat.reduceLT, Nat.reduceLeDiff, Nat.reduceBEq, Int.reduceToNat, Int.reduceLE, Int.reduceLT]); first | done | (simp [*]; done) | (simp_all []; done)) | (refine ret0 rfl (by repeat' (first | exact trivial | exact rfl | refine ⟨?_, ?_⟩)) ?_; (try simp (etaStruct := .none) only [push_cast, DrawG, Int.cast_ofNat_Int, Nat.reduceAdd, Nat.reduceSub, Nat.reduceMul, reduceCtorEq, reduceIte, Nat.reduceEqDiff, Nat.reduceLT, Nat.reduceLeDiff, Nat.reduceBEq, Int.reduceToNat, Int.reduceLE, Int.reduceLT]); (try simp [*]); (try (first | exact Wk.refl _ | exact Wk.nil _ | (refine Wk.tup ?_; repeat' (first | exact trivial | exact Wk.refl _ | exact Wk.nil _ | refine ⟨?_, ?_⟩ | (refine Wk.agg ?_)))))))
theorem oswap_s (l : List Nod) (i j : Nat) (hi : i < l.length) (hj : j < l.length) : Spec Try.prog 314 [.own 0, I .i64 i, I .i64 j] [.row 323 4 (l.map nodP)] (.tup []) [.row 323 4 ((swapL l i j).map nodP)] := by
  have hj2 : j < (l.set i (l.getD j default)).length := by rw [List.length_set]; exact hj
  refine spec_am Try.func314 rfl rfl mix 20 rfl [] Try.results314 (Nat.le_of_ble_eq_true rfl) ?_
  (iterate 2 ((try simp (etaStruct := .none) only [push_cast, DrawG, Int.cast_ofNat_Int, Nat.reduceAdd, Nat.reduceSub, Nat.reduceMul, reduceCtorEq, reduceIte, Nat.reduceEqDiff, Nat.reduceLT, Nat.reduceLeDiff, Nat.reduceBEq, Int.reduceToNat, Int.reduceLE, Int.reduceLT, getD_in _ _ _ hi, getD_in _ _ _ hj, nodP]); (try simp (disch := omega) only [wrap_in, wk_self, Int.tdiv_eq_ediv_of_nonneg, Int.tmod_eq_emod_of_nonneg]); (repeat with_reducible refine obA ?_)))
  (try (refine ⟨by kernel_rfl, ?_⟩))
  (iterate 2 ((try simp (etaStruct := .none) only [push_cast, DrawG, Int.cast_ofNat_Int, Nat.reduceAdd, Nat.reduceSub, Nat.reduceMul, reduceCtorEq, reduceIte, Nat.reduceEqDiff, Nat.reduceLT, Nat.reduceLeDiff, Nat.reduceBEq, Int.reduceToNat, Int.reduceLE, Int.reduceLT, getD_in _ _ _ hi, getD_in _ _ _ hj, nodP]); (try simp (disch := omega) only [wrap_in, wk_self, Int.tdiv_eq_ediv_of_nonneg, Int.tmod_eq_emod_of_nonneg]); (repeat with_reducible refine obA ?_)))
  refine retM [0] rfl rfl (by decide) ⟨?_, trivial⟩ trivial ?_ <;> simp (etaStruct := .none) only [push_cast, DrawG, Int.cast_ofNat_Int, Nat.reduceAdd, Nat.reduceSub, Nat.reduceMul, reduceCtorEq, reduceIte, Nat.reduceEqDiff, Nat.reduceLT, Nat.reduceLeDiff, Nat.reduceBEq, Int.reduceToNat, Int.reduceLE, Int.reduceLT, swapL, ← List.map_set, List.length_map, List.map_set, nodP]
theorem oqpush_s (f : Fld) (b : Cel) (far : List Int)(l : List Nod) (x : Nod) (hl : l.length ≤ 1000000) : Spec Try.prog 318 [.ptr 0 0 6, .ifc 323 (nodA x)] [.blk 194 [I .i64 f.w, I .i64 f.h, .c (.sl 1 (f.p.map i64P)), I .i64 b.x, I .i64 b.y, .own 1, .own 2], .row 3 1 (far.map i64P),.row 323 4 (l.map nodP)] (.tup []) [.blk 194 [I .i64 f.w, I .i64 f.h, .c (.sl 1 (f.p.map i64P)), I .i64 b.x, I .i64 b.y, .own 1, .own 3], .row 3 1 (far.map i64P),.dead, .row 323 4 ((l ++ [x]).map nodP)] := by
  refine spec_am Try.func318 rfl rfl mix 13 rfl [] Try.results318 (Nat.le_of_ble_eq_true rfl) ?_
  (try simp (etaStruct := .none) only [push_cast, DrawG, Int.cast_ofNat_Int, Nat.reduceAdd, Nat.reduceSub, Nat.reduceMul, reduceCtorEq, reduceIte, Nat.reduceEqDiff, Nat.reduceLT, Nat.reduceLeDiff, Nat.reduceBEq, Int.reduceToNat, Int.reduceLE, Int.reduceLT]); (try simp (disch := omega) only [wrap_in, wk_self, Int.tdiv_eq_ediv_of_nonneg, Int.tmod_eq_emod_of_nonneg]); (repeat with_reducible refine obA ?_)
  (try (refine ⟨by kernel_rfl, ?_⟩))
  (try simp (etaStruct := .none) only [push_cast, DrawG, Int.cast_ofNat_Int, Nat.reduceAdd, Nat.reduceSub, Nat.reduceMul, reduceCtorEq, reduceIte, Nat.reduceEqDiff, Nat.reduceLT, Nat.reduceLeDiff, Nat.reduceBEq, Int.reduceToNat, Int.reduceLE, Int.reduceLT]); (try simp (disch := omega) only [wrap_in, wk_self, Int.tdiv_eq_ediv_of_nonneg, Int.tmod_eq_emod_of_nonneg]); (repeat with_reducible refine obA ?_)
  refine retM [0, 1, 2, 31] rfl rfl (by decide) ⟨?_, ?_, ?_, ?_, trivial⟩ trivial ?_ <;> simp (etaStruct := .none) only [push_cast, DrawG, Int.cast_ofNat_Int, Nat.reduceAdd, Nat.reduceSub, Nat.reduceMul, reduceCtorEq, reduceIte, Nat.reduceEqDiff, Nat.reduceLT, Nat.reduceLeDiff, Nat.reduceBEq, Int.reduceToNat, Int.reduceLE, Int.reduceLT, List.map_append, nodP]
theorem oqpop_s (f : Fld) (b : Cel) (far : List Int)(l : List Nod) (n : Nat) (hn : l.length = n + 1) (hl : l.length ≤ 1000001) : Spec Try.prog 317 [.ptr 0 0 6] [.blk 194 [I .i64 f.w, I .i64 f.h, .c (.sl 1 (f.p.map i64P)), I .i64 b.x, I .i64 b.y, .own 1, .own 2], .row 3 1 (far.map i64P),.row 323 4 (l.map nodP)] (.ifc 323 (nodA (l.getD n default))) [.blk 194 [I .i64 f.w, I .i64 f.h, .c (.sl 1 (f.p.map i64P)), I .i64 b.x, I .i64 b.y, .own 1, .own 3], .row 3 1 (far.map i64P),.dead, .row 323 4 ((l.take n).map nodP)] := by
  have hlt : n < l.length := by omega
  have e1 : IntKind.i64.wrap ((l.length : Int) - 1) = (n : Int) := by rw [wrap_in _ (by omega) (by omega)]; omega
  refine spec_am Try.func317 rfl rfl mix 23 rfl [.tmp 2] Try.results317 (Nat.le_of_ble_eq_true rfl) ?_
  (iterate 2 ((try simp (etaStruct := .none) only [push_cast, DrawG, Int.cast_ofNat_Int, Nat.reduceAdd, Nat.reduceSub, Nat.reduceMul, reduceCtorEq, reduceIte, Nat.reduceEqDiff, Nat.reduceLT, Nat.reduceLeDiff, Nat.reduceBEq, Int.reduceToNat, Int.reduceLE, Int.reduceLT, e1, getD_in _ _ _ hlt, nodP]); (try simp (disch := omega) only [wrap_in, wk_self, Int.tdiv_eq_ediv_of_nonneg, Int.tmod_eq_emod_of_nonneg]); (repeat with_reducible refine obA ?_)))
  refine retTo (To.cutC 0 6 2 n 323 4 194 _ (l.map nodP) rfl rfl rfl (by rw [List.length_map]; omega)) ?_
  refine retM [0, 1, 2, 4] rfl rfl (by decide) ⟨?_, ?_, ?_, ?_, trivial⟩ trivial ?_ <;> simp (etaStruct := .none) only [push_cast, DrawG, Int.cast_ofNat_Int, Nat.reduceAdd, Nat.reduceSub, Nat.reduceMul, reduceCtorEq, reduceIte, Nat.reduceEqDiff, Nat.reduceLT, Nat.reduceLeDiff, Nat.reduceBEq, Int.reduceToNat, Int.reduceLE, Int.reduceLT, List.map_take, List.set_cons_zero, List.set_cons_succ]
theorem oup_s (f : Fld) (b : Cel) (far : List Int)(l : List Nod) (j : Nat) (hj : j < l.length) (hl : l.length ≤ 1000001) : Spec Try.prog 277 [.ifc 321 (.ptr 0 0 6), I .i64 j] [.blk 194 [I .i64 f.w, I .i64 f.h, .c (.sl 1 (f.p.map i64P)), I .i64 b.x, I .i64 b.y, .own 1, .own 2], .row 3 1 (far.map i64P),.row 323 4 (l.map nodP)] (.tup []) [.blk 194 [I .i64 f.w, I .i64 f.h, .c (.sl 1 (f.p.map i64P)), I .i64 b.x, I .i64 b.y, .own 1, .own 2], .row 3 1 (far.map i64P),.row 323 4 ((hup Nod.all l j).map nodP)] := by
  refine spec_am Try.func277 rfl rfl mix 23 rfl [] Try.results277 (Nat.le_of_ble_eq_true rfl) ?_
  (iterate 2 ((try simp (etaStruct := .none) only [push_cast, DrawG, Int.cast_ofNat_Int, Nat.reduceAdd, Nat.reduceSub, Nat.reduceMul, reduceCtorEq, reduceIte, Nat.reduceEqDiff, Nat.reduceLT, Nat.reduceLeDiff, Nat.reduceBEq, Int.reduceToNat, Int.reduceLE, Int.reduceLT, par_tdiv]); (try simp (disch := omega) only [wrap_in, wk_self, Int.tdiv_eq_ediv_of_nonneg, Int.tmod_eq_emod_of_nonneg]); (repeat with_reducible refine obA ?_)))
  refine loopI (fun x : List Nod × Nat => ⟨[(1, I .i64 x.2), (0, .ifc 321 (.ptr 0 0 6))], [(0, .blk 194 [I .i64 f.w, I .i64 f.h, .c (.sl 1 (f.p.map i64P)), I .i64 b.x, I .i64 b.y, .own 1, .own 2]), (1, .row 3 1 (far.map i64P)),(2, .row 323 4 (x.1.map nodP))], 3⟩) (fun x : List Nod × Nat => x.2 < x.1.length ∧ x.1.length ≤ 1000001 ∧ hup Nod.all x.1 x.2 = hup Nod.all l j) (fun x : List Nod × Nat => x.2) ((l, j)) (⟨hj, hl, rfl⟩) (To.mk [0, 1, 2] rfl rfl (by decide) ?_ ?_) ?_
  · simp (etaStruct := .none) only [push_cast, DrawG, Int.cast_ofNat_Int, Nat.reduceAdd, Nat.reduceSub, Nat.reduceMul, reduceCtorEq, reduceIte, Nat.reduceEqDiff, Nat.reduceLT, Nat.reduceLeDiff, Nat.reduceBEq, Int.reduceToNat, Int.reduceLE, Int.reduceLT]
  · simp (etaStruct := .none) only [push_cast, DrawG, Int.cast_ofNat_Int, Nat.reduceAdd, Nat.reduceSub, Nat.reduceMul, reduceCtorEq, reduceIte, Nat.reduceEqDiff, Nat.reduceLT, Nat.reduceLeDiff, Nat.reduceBEq, Int.reduceToNat, Int.reduceLE, Int.reduceLT]
  rintro ⟨m, i⟩ ⟨hi, hm, hu⟩
  simp only at hi hm hu
  have lp : par i ≤ i := by simp only [par]; omega
  have hp : par i < m.length := by omega
  (iterate 2 ((try simp (etaStruct := .none) only [push_cast, DrawG, Int.cast_ofNat_Int, Nat.reduceAdd, Nat.reduceSub, Nat.reduceMul, reduceCtorEq, reduceIte, Nat.reduceEqDiff, Nat.reduceLT, Nat.reduceLeDiff, Nat.reduceBEq, Int.reduceToNat, Int.reduceLE, Int.reduceLT, par_tdiv]); (try simp (disch := omega) only [wrap_in, wk_self, Int.tdiv_eq_ediv_of_nonneg, Int.tmod_eq_emod_of_nonneg]); (repeat with_reducible refine obA ?_)))
  refine gcallB (fun hcc => oless_s m i (par i) hi hp) (WkL.refl _) rfl (by intro hc; (try simp (etaStruct := .none) only [push_cast, DrawG, Int.cast_ofNat_Int, Nat.reduceAdd, Nat.reduceSub, Nat.reduceMul, reduceCtorEq, reduceIte, Nat.reduceEqDiff, Nat.reduceLT, Nat.reduceLeDiff, Nat.reduceBEq, Int.reduceToNat, Int.reduceLE, Int.reduceLT]); (try simp_all)) ?_
  (iterate 2 ((try simp (etaStruct := .none) only [push_cast, DrawG, Int.cast_ofNat_Int, Nat.reduceAdd, Nat.reduceSub, Nat.reduceMul, reduceCtorEq, reduceIte, Nat.reduceEqDiff, Nat.reduceLT, Nat.reduceLeDiff, Nat.reduceBEq, Int.reduceToNat, Int.reduceLE, Int.reduceLT, par_tdiv]); (try simp (disch := omega) only [wrap_in, wk_self, Int.tdiv_eq_ediv_of_nonneg, Int.tmod_eq_emod_of_nonneg]); (repeat with_reducible refine obA ?_)))
  refine cond_i (fun h1 => ?_) (fun h1 => ?_)
  · (try simp only [decide_eq_true_eq, decide_eq_false_iff_not, Bool.not_eq_true', Bool.not_eq_false', Bool.or_eq_true, Bool.and_eq_true, Bool.or_eq_false_iff, Bool.and_eq_false_iff, Int.not_lt, Int.not_le, Bool.not_true, Bool.not_false, not_and, not_or] at h1)
    have e : hup Nod.all m i = m := by
      rw [hup, if_pos]
      rcases h1 with h | h
      · exact .inl (by omega)
      · exact .inr (by omega)
    rw [← hu, e]
    (iterate 2 ((try simp (etaStruct := .none) only [push_cast, DrawG, Int.cast_ofNat_Int, Nat.reduceAdd, Nat.reduceSub, Nat.reduceMul, reduceCtorEq, reduceIte, Nat.reduceEqDiff, Nat.reduceLT, Nat.reduceLeDiff, Nat.reduceBEq, Int.reduceToNat, Int.reduceLE, Int.reduceLT, par_tdiv]); (try simp (disch := omega) only [wrap_in, wk_self, Int.tdiv_eq_ediv_of_nonneg, Int.tmod_eq_emod_of_nonneg]); (repeat with_reducible refine obA ?_)))
    refine retM [0, 1, 2] rfl rfl (by decide) ⟨?_, ?_, ?_, trivial⟩ trivial ?_ <;> simp (etaStruct := .none) only [push_cast, DrawG, Int.cast_ofNat_Int, Nat.reduceAdd, Nat.reduceSub, Nat.reduceMul, reduceCtorEq, reduceIte, Nat.reduceEqDiff, Nat.reduceLT, Nat.reduceLeDiff, Nat.reduceBEq, Int.reduceToNat, Int.reduceLE, Int.reduceLT]
  · (try simp only [decide_eq_true_eq, decide_eq_false_iff_not, Bool.not_eq_true', Bool.not_eq_false', Bool.or_eq_true, Bool.and_eq_true, Bool.or_eq_false_iff, Bool.and_eq_false_iff, Int.not_lt, Int.not_le, Bool.not_true, Bool.not_false, not_and, not_or] at h1)
    have e : hup Nod.all m i = hup Nod.all (swapL m (par i) i) (par i) := by rw [hup, if_neg]; rintro (h | h) <;> omega
    have lt : par i < i := by omega
    (iterate 2 ((try simp (etaStruct := .none) only [push_cast, DrawG, Int.cast_ofNat_Int, Nat.reduceAdd, Nat.reduceSub, Nat.reduceMul, reduceCtorEq, reduceIte, Nat.reduceEqDiff, Nat.reduceLT, Nat.reduceLeDiff, Nat.reduceBEq, Int.reduceToNat, Int.reduceLE, Int.reduceLT, par_tdiv]); (try simp (disch := omega) only [wrap_in, wk_self, Int.tdiv_eq_ediv_of_nonneg, Int.tmod_eq_emod_of_nonneg]); (repeat with_reducible refine obA ?_)))
    refine callM [2] (oswap_s m (par i) i hp hi) (WkL.refl _) rfl (by decide) (by simp [lookC_c]) ?_
    (iterate 2 ((try simp (etaStruct := .none) only [push_cast, DrawG, Int.cast_ofNat_Int, Nat.reduceAdd, Nat.reduceSub, Nat.reduceMul, reduceCtorEq, reduceIte, Nat.reduceEqDiff, Nat.reduceLT, Nat.reduceLeDiff, Nat.reduceBEq, Int.reduceToNat, Int.reduceLE, Int.reduceLT, par_tdiv]); (try simp (disch := omega) only [wrap_in, wk_self, Int.tdiv_eq_ediv_of_nonneg, Int.tmod_eq_emod_of_nonneg]); (repeat with_reducible refine obA ?_)))
    refine ⟨(swapL m (par i) i, par i), ⟨by rw [swapL_len]; exact hp, by rw [swapL_len]; exact hm, by rw [← hu, e]⟩, lt, To.mk [0, 1, 2] rfl rfl (by decide) ?_ ?_⟩
    · (iterate 2 ((try simp (etaStruct := .none) only [push_cast, DrawG, Int.cast_ofNat_Int, Nat.reduceAdd, Nat.reduceSub, Nat.reduceMul, reduceCtorEq, reduceIte, Nat.reduceEqDiff, Nat.reduceLT, Nat.reduceLeDiff, Nat.reduceBEq, Int.reduceToNat, Int.reduceLE, Int.reduceLT, par_tdiv]); (try simp (disch := omega) only [wrap_in, wk_self, Int.tdiv_eq_ediv_of_nonneg, Int.tmod_eq_emod_of_nonneg]); (repeat with_reducible refine obA ?_)))
    · (iterate 2 ((try simp (etaStruct := .none) only [push_cast, DrawG, Int.cast_ofNat_Int, Nat.reduceAdd, Nat.reduceSub, Nat.reduceMul, reduceCtorEq, reduceIte, Nat.reduceEqDiff, Nat.reduceLT, Nat.reduceLeDiff, Nat.reduceBEq, Int.reduceToNat, Int.reduceLE, Int.reduceLT, par_tdiv]); (try simp (disch := omega) only [wrap_in, wk_self, Int.tdiv_eq_ediv_of_nonneg, Int.tmod_eq_emod_of_nonneg]); (repeat with_reducible refine obA ?_)))
theorem ohpush_s (f : Fld) (b : Cel) (far : List Int)(l : List Nod) (x : Nod) (hl : l.length ≤ 1000000) : Spec Try.prog 236 [.ifc 321 (.ptr 0 0 6), .ifc 323 (nodA x)] [.blk 194 [I .i64 f.w, I .i64 f.h, .c (.sl 1 (f.p.map i64P)), I .i64 b.x, I .i64 b.y, .own 1, .own 2], .row 3 1 (far.map i64P),.row 323 4 (l.map nodP)] (.tup []) [.blk 194 [I .i64 f.w, I .i64 f.h, .c (.sl 1 (f.p.map i64P)), I .i64 b.x, I .i64 b.y, .own 1, .own 3], .row 3 1 (far.map i64P),.dead, .row 323 4 ((hpush Nod.all l x).map nodP)] := by
  have hlen : (l ++ [x]).length = l.length + 1 := by simp
  have e1 : IntKind.i64.wrap (((l ++ [x]).length : Int) - 1) = (l.length : Int) := by rw [wrap_in _ (by omega) (by omega)]; omega
  refine spec_am Try.func236 rfl rfl mix 12 rfl [] Try.results236 (Nat.le_of_ble_eq_true rfl) ?_
  (iterate 2 ((try simp (etaStruct := .none) only [push_cast, DrawG, Int.cast_ofNat_Int, Nat.reduceAdd, Nat.reduceSub, Nat.reduceMul, reduceCtorEq, reduceIte, Nat.reduceEqDiff, Nat.reduceLT, Nat.reduceLeDiff, Nat.reduceBEq, Int.reduceToNat, Int.reduceLE, Int.reduceLT, e1]); (try simp (disch := omega) only [wrap_in, wk_self, Int.tdiv_eq_ediv_of_nonneg, Int.tmod_eq_emod_of_nonneg]); (repeat with_reducible refine obA ?_)))
  refine callM [0, 1, 2] (oqpush_s f b far l x hl) (WkL.refl _) rfl (by decide) (by simp [lookC_c]) ?_
  (iterate 2 ((try simp (etaStruct := .none) only [push_cast, DrawG, Int.cast_ofNat_Int, Nat.reduceAdd, Nat.reduceSub, Nat.reduceMul, reduceCtorEq, reduceIte, Nat.reduceEqDiff, Nat.reduceLT, Nat.reduceLeDiff, Nat.reduceBEq, Int.reduceToNat, Int.reduceLE, Int.reduceLT, e1]); (try simp (disch := omega) only [wrap_in, wk_self, Int.tdiv_eq_ediv_of_nonneg, Int.tmod_eq_emod_of_nonneg]); (repeat with_reducible refine obA ?_)))
  refine callB (olen_s (l ++ [x])) (WkL.refl _) rfl ?_
  (iterate 2 ((try simp (etaStruct := .none) only [push_cast, DrawG, Int.cast_ofNat_Int, Nat.reduceAdd, Nat.reduceSub, Nat.reduceMul, reduceCtorEq, reduceIte, Nat.reduceEqDiff, Nat.reduceLT, Nat.reduceLeDiff, Nat.reduceBEq, Int.reduceToNat, Int.reduceLE, Int.reduceLT, e1]); (try simp (disch := omega) only [wrap_in, wk_self, Int.tdiv_eq_ediv_of_nonneg, Int.tmod_eq_emod_of_nonneg]); (repeat with_reducible refine obA ?_)))
  refine callM [0, 1, 3] (oup_s f b far (l ++ [x]) l.length (by omega) (by omega)) (WkL.refl _) rfl (by decide) (by simp [lookC_c]) ?_
  (iterate 2 ((try simp (etaStruct := .none) only [push_cast, DrawG, Int.cast_ofNat_Int, Nat.reduceAdd, Nat.reduceSub, Nat.reduceMul, reduceCtorEq, reduceIte, Nat.reduceEqDiff, Nat.reduceLT, Nat.reduceLeDiff, Nat.reduceBEq, Int.reduceToNat, Int.reduceLE, Int.reduceLT, e1]); (try simp (disch := omega) only [wrap_in, wk_self, Int.tdiv_eq_ediv_of_nonneg, Int.tmod_eq_emod_of_nonneg]); (repeat with_reducible refine obA ?_)))
  refine retM [0, 1, 2, 3] rfl rfl (by decide) ⟨?_, ?_, ?_, ?_, trivial⟩ trivial ?_ <;> simp (etaStruct := .none) only [push_cast, DrawG, Int.cast_ofNat_Int, Nat.reduceAdd, Nat.reduceSub, Nat.reduceMul, reduceCtorEq, reduceIte, Nat.reduceEqDiff, Nat.reduceLT, Nat.reduceLeDiff, Nat.reduceBEq, Int.reduceToNat, Int.reduceLE, Int.reduceLT, hpush]
theorem odown_s (f : Fld) (b : Cel) (far : List Int)(l : List Nod) (n : Nat) (hn : n ≤ l.length) (hl : l.length ≤ 1000001) : Spec Try.prog 278 [.ifc 321 (.ptr 0 0 6), I .i64 0, I .i64 n] [.blk 194 [I .i64 f.w, I .i64 f.h, .c (.sl 1 (f.p.map i64P)), I .i64 b.x, I .i64 b.y, .own 1, .own 2], .row 3 1 (far.map i64P),.row 323 4 (l.map nodP)] .undef [.blk 194 [I .i64 f.w, I .i64 f.h, .c (.sl 1 (f.p.map i64P)), I .i64 b.x, I .i64 b.y, .own 1, .own 2], .row 3 1 (far.map i64P),.row 323 4 ((hdn Nod.all l 0 n).map nodP)] := by
  refine spec_am Try.func278 rfl rfl mix 48 rfl [.tmp 6] Try.results278 (Nat.le_of_ble_eq_true rfl) ?_
  (try simp (etaStruct := .none) only [push_cast, DrawG, Int.cast_ofNat_Int, Nat.reduceAdd, Nat.reduceSub, Nat.reduceMul, reduceCtorEq, reduceIte, Nat.reduceEqDiff, Nat.reduceLT, Nat.reduceLeDiff, Nat.reduceBEq, Int.reduceToNat, Int.reduceLE, Int.reduceLT]); (try simp (disch := omega) only [wrap_in, wk_self, Int.tdiv_eq_ediv_of_nonneg, Int.tmod_eq_emod_of_nonneg]); (repeat with_reducible refine obA ?_)
  refine loopI (fun x : List Nod × Nat => ⟨[(7, I .i64 x.2), (2, I .i64 n), (1, I .i64 0), (0, .ifc 321 (.ptr 0 0 6))], [(0, .blk 194 [I .i64 f.w, I .i64 f.h, .c (.sl 1 (f.p.map i64P)), I .i64 b.x, I .i64 b.y, .own 1, .own 2]), (1, .row 3 1 (far.map i64P)),(2, .row 323 4 (x.1.map nodP))], 3⟩) (fun x : List Nod × Nat => x.2 ≤ n ∧ n ≤ x.1.length ∧ x.1.length ≤ 1000001 ∧ hdn Nod.all x.1 x.2 n = hdn Nod.all l 0 n) (fun x : List Nod × Nat => n - x.2) ((l, 0)) (⟨Nat.zero_le _, hn, hl, rfl⟩) (To.mk [0, 1, 2] rfl rfl (by decide) ?_ ?_) ?_
  · simp (etaStruct := .none) only [push_cast, DrawG, Int.cast_ofNat_Int, Nat.reduceAdd, Nat.reduceSub, Nat.reduceMul, reduceCtorEq, reduceIte, Nat.reduceEqDiff, Nat.reduceLT, Nat.reduceLeDiff, Nat.reduceBEq, Int.reduceToNat, Int.reduceLE, Int.reduceLT]
  · simp (etaStruct := .none) only [push_cast, DrawG, Int.cast_ofNat_Int, Nat.reduceAdd, Nat.reduceSub, Nat.reduceMul, reduceCtorEq, reduceIte, Nat.reduceEqDiff, Nat.reduceLT, Nat.reduceLeDiff, Nat.reduceBEq, Int.reduceToNat, Int.reduceLE, Int.reduceLT]
  rintro ⟨m, i⟩ ⟨hi, hm, hm2, hu⟩
  simp only at hi hm hm2 hu
  obtain ⟨a, ha⟩ : ∃ a : Nat, a = 2 * i + 1 := ⟨_, rfl⟩
  obtain ⟨b, hb⟩ : ∃ b : Nat, b = 2 * i + 2 := ⟨_, rfl⟩
  have e1 : IntKind.i64.wrap (IntKind.i64.wrap (2 * (i : Int)) + 1) = (a : Int) := by rw [wrap_in (2 * _) (by omega) (by omega), wrap_in _ (by omega) (by omega)]; omega
  have e2 : IntKind.i64.wrap ((a : Int) + 1) = (b : Int) := by rw [wrap_in _ (by omega) (by omega)]; omega
  simp (etaStruct := .none) only [push_cast, DrawG, Int.cast_ofNat_Int, Nat.reduceAdd, Nat.reduceSub, Nat.reduceMul, reduceCtorEq, reduceIte, Nat.reduceEqDiff, Nat.reduceLT, Nat.reduceLeDiff, Nat.reduceBEq, Int.reduceToNat, Int.reduceLE, Int.reduceLT, e1, e2]
  (try simp (etaStruct := .none) only [push_cast, DrawG, Int.cast_ofNat_Int, Nat.reduceAdd, Nat.reduceSub, Nat.reduceMul, reduceCtorEq, reduceIte, Nat.reduceEqDiff, Nat.reduceLT, Nat.reduceLeDiff, Nat.reduceBEq, Int.reduceToNat, Int.reduceLE, Int.reduceLT]); (try simp (disch := omega) only [wrap_in, wk_self, Int.tdiv_eq_ediv_of_nonneg, Int.tmod_eq_emod_of_nonneg]); (repeat with_reducible refine obA ?_)
  refine cond_i (fun h1 => ?_) (fun h1 => ?_)
  · (try simp only [decide_eq_true_eq, decide_eq_false_iff_not, Bool.not_eq_true', Bool.not_eq_false', Bool.or_eq_true, Bool.and_eq_true, Bool.or_eq_false_iff, Bool.and_eq_false_iff, Int.not_lt, Int.not_le, Bool.not_true, Bool.not_false, not_and, not_or] at h1)
    have e : hdn Nod.all m i n = m := by rw [hdn, if_pos]; exact .inl (by omega)
    rw [← hu, e]
    (try simp (etaStruct := .none) only [push_cast, DrawG, Int.cast_ofNat_Int, Nat.reduceAdd, Nat.reduceSub, Nat.reduceMul, reduceCtorEq, reduceIte, Nat.reduceEqDiff, Nat.reduceLT, Nat.reduceLeDiff, Nat.reduceBEq, Int.reduceToNat, Int.reduceLE, Int.reduceLT]); (try simp (disch := omega) only [wrap_in, wk_self, Int.tdiv_eq_ediv_of_nonneg, Int.tmod_eq_emod_of_nonneg]); (repeat with_reducible refine obA ?_)
    refine retM [0, 1, 2] rfl rfl (by decide) ⟨?_, ?_, ?_, trivial⟩ trivial (Wk.undef _) <;> simp (etaStruct := .none) only [push_cast, DrawG, Int.cast_ofNat_Int, Nat.reduceAdd, Nat.reduceSub, Nat.reduceMul, reduceCtorEq, reduceIte, Nat.reduceEqDiff, Nat.reduceLT, Nat.reduceLeDiff, Nat.reduceBEq, Int.reduceToNat, Int.reduceLE, Int.reduceLT]
  · (try simp only [decide_eq_true_eq, decide_eq_false_iff_not, Bool.not_eq_true', Bool.not_eq_false', Bool.or_eq_true, Bool.and_eq_true, Bool.or_eq_false_iff, Bool.and_eq_false_iff, Int.not_lt, Int.not_le, Bool.not_true, Bool.not_false, not_and, not_or] at h1)
    (iterate 2 ((try simp (etaStruct := .none) only [push_cast, DrawG, Int.cast_ofNat_Int, Nat.reduceAdd, Nat.reduceSub, Nat.reduceMul, reduceCtorEq, reduceIte, Nat.reduceEqDiff, Nat.reduceLT, Nat.reduceLeDiff, Nat.reduceBEq, Int.reduceToNat, Int.reduceLE, Int.reduceLT, e1, e2]); (try simp (disch := omega) only [wrap_in, wk_self, Int.tdiv_eq_ediv_of_nonneg, Int.tmod_eq_emod_of_nonneg]); (repeat with_reducible refine obA ?_)))
    refine gcallB (fun hcc => oless_s m b a (by simp only [decide_eq_true_eq] at hcc; omega) (by omega)) (WkL.refl _) rfl (by intro hc; (try simp (etaStruct := .none) only [push_cast, DrawG, Int.cast_ofNat_Int, Nat.reduceAdd, Nat.reduceSub, Nat.reduceMul, reduceCtorEq, reduceIte, Nat.reduceEqDiff, Nat.reduceLT, Nat.reduceLeDiff, Nat.reduceBEq, Int.reduceToNat, Int.reduceLE, Int.reduceLT]); (try simp_all)) ?_
    (iterate 2 ((try simp (etaStruct := .none) only [push_cast, DrawG, Int.cast_ofNat_Int, Nat.reduceAdd, Nat.reduceSub, Nat.reduceMul, reduceCtorEq, reduceIte, Nat.reduceEqDiff, Nat.reduceLT, Nat.reduceLeDiff, Nat.reduceBEq, Int.reduceToNat, Int.reduceLE, Int.reduceLT, e1, e2]); (try simp (disch := omega) only [wrap_in, wk_self, Int.tdiv_eq_ediv_of_nonneg, Int.tmod_eq_emod_of_nonneg]); (repeat with_reducible refine obA ?_)))
    refine cond_i (fun h2 => ?_) (fun h2 => ?_)
    · (try simp only [decide_eq_true_eq, decide_eq_false_iff_not, Bool.not_eq_true', Bool.not_eq_false', Bool.or_eq_true, Bool.and_eq_true, Bool.or_eq_false_iff, Bool.and_eq_false_iff, Int.not_lt, Int.not_le, Bool.not_true, Bool.not_false, not_and, not_or] at h2)
      have ek : kid Nod.all m i n = b := by unfold kid; rw [← ha, ← hb, if_pos ⟨by omega, h2.2⟩]
      (iterate 2 ((try simp (etaStruct := .none) only [push_cast, DrawG, Int.cast_ofNat_Int, Nat.reduceAdd, Nat.reduceSub, Nat.reduceMul, reduceCtorEq, reduceIte, Nat.reduceEqDiff, Nat.reduceLT, Nat.reduceLeDiff, Nat.reduceBEq, Int.reduceToNat, Int.reduceLE, Int.reduceLT, e1, e2]); (try simp (disch := omega) only [wrap_in, wk_self, Int.tdiv_eq_ediv_of_nonneg, Int.tmod_eq_emod_of_nonneg]); (repeat with_reducible refine obA ?_)))
      refine callB (oless_s m b i (by omega) (by omega)) (WkL.refl _) rfl ?_
      (iterate 2 ((try simp (etaStruct := .none) only [push_cast, DrawG, Int.cast_ofNat_Int, Nat.reduceAdd, Nat.reduceSub, Nat.reduceMul, reduceCtorEq, reduceIte, Nat.reduceEqDiff, Nat.reduceLT, Nat.reduceLeDiff, Nat.reduceBEq, Int.reduceToNat, Int.reduceLE, Int.reduceLT, e1, e2]); (try simp (disch := omega) only [wrap_in, wk_self, Int.tdiv_eq_ediv_of_nonneg, Int.tmod_eq_emod_of_nonneg]); (repeat with_reducible refine obA ?_)))
      refine cond_i (fun h3 => ?_) (fun h3 => ?_)
      · (try simp only [decide_eq_true_eq, decide_eq_false_iff_not, Bool.not_eq_true', Bool.not_eq_false', Bool.or_eq_true, Bool.and_eq_true, Bool.or_eq_false_iff, Bool.and_eq_false_iff, Int.not_lt, Int.not_le, Bool.not_true, Bool.not_false, not_and, not_or] at h3)
        have e : hdn Nod.all m i n = m := by rw [hdn, if_pos]; rw [ek]; exact .inr (by omega)
        rw [← hu, e]
        (iterate 2 ((try simp (etaStruct := .none) only [push_cast, DrawG, Int.cast_ofNat_Int, Nat.reduceAdd, Nat.reduceSub, Nat.reduceMul, reduceCtorEq, reduceIte, Nat.reduceEqDiff, Nat.reduceLT, Nat.reduceLeDiff, Nat.reduceBEq, Int.reduceToNat, Int.reduceLE, Int.reduceLT, e1, e2]); (try simp (disch := omega) only [wrap_in, wk_self, Int.tdiv_eq_ediv_of_nonneg, Int.tmod_eq_emod_of_nonneg]); (repeat with_reducible refine obA ?_)))
        refine retM [0, 1, 2] rfl rfl (by decide) ⟨?_, ?_, ?_, trivial⟩ trivial (Wk.undef _) <;> simp (etaStruct := .none) only [push_cast, DrawG, Int.cast_ofNat_Int, Nat.reduceAdd, Nat.reduceSub, Nat.reduceMul, reduceCtorEq, reduceIte, Nat.reduceEqDiff, Nat.reduceLT, Nat.reduceLeDiff, Nat.reduceBEq, Int.reduceToNat, Int.reduceLE, Int.reduceLT]
      · (try simp only [decide_eq_true_eq, decide_eq_false_iff_not, Bool.not_eq_true', Bool.not_eq_false', Bool.or_eq_true, Bool.and_eq_true, Bool.or_eq_false_iff, Bool.and_eq_false_iff, Int.not_lt, Int.not_le, Bool.not_true, Bool.not_false, not_and, not_or] at h3)
        have e : hdn Nod.all m i n = hdn Nod.all (swapL m i b) b n := by rw [hdn, if_neg, ek]; rw [ek]; rintro (h | h) <;> omega
        (iterate 2 ((try simp (etaStruct := .none) only [push_cast, DrawG, Int.cast_ofNat_Int, Nat.reduceAdd, Nat.reduceSub, Nat.reduceMul, reduceCtorEq, reduceIte, Nat.reduceEqDiff, Nat.reduceLT, Nat.reduceLeDiff, Nat.reduceBEq, Int.reduceToNat, Int.reduceLE, Int.reduceLT, e1, e2]); (try simp (disch := omega) only [wrap_in, wk_self, Int.tdiv_eq_ediv_of_nonneg, Int.tmod_eq_emod_of_nonneg]); (repeat with_reducible refine obA ?_)))
        refine callM [2] (oswap_s m i b (by omega) (by omega)) (WkL.refl _) rfl (by decide) (by simp [lookC_c]) ?_
        (iterate 2 ((try simp (etaStruct := .none) only [push_cast, DrawG, Int.cast_ofNat_Int, Nat.reduceAdd, Nat.reduceSub, Nat.reduceMul, reduceCtorEq, reduceIte, Nat.reduceEqDiff, Nat.reduceLT, Nat.reduceLeDiff, Nat.reduceBEq, Int.reduceToNat, Int.reduceLE, Int.reduceLT, e1, e2]); (try simp (disch := omega) only [wrap_in, wk_self, Int.tdiv_eq_ediv_of_nonneg, Int.tmod_eq_emod_of_nonneg]); (repeat with_reducible refine obA ?_)))
        refine ⟨(swapL m i b, b), ⟨by simp only; omega, by rw [swapL_len]; exact hm, by rw [swapL_len]; exact hm2, by rw [← hu, e]⟩, by simp only; omega, To.mk [0, 1, 2] rfl rfl (by decide) ?_ ?_⟩
        · (iterate 2 ((try simp (etaStruct := .none) only [push_cast, DrawG, Int.cast_ofNat_Int, Nat.reduceAdd, Nat.reduceSub, Nat.reduceMul, reduceCtorEq, reduceIte, Nat.reduceEqDiff, Nat.reduceLT, Nat.reduceLeDiff, Nat.reduceBEq, Int.reduceToNat, Int.reduceLE, Int.reduceLT, e1, e2]); (try simp (disch := omega) only [wrap_in, wk_self, Int.tdiv_eq_ediv_of_nonneg, Int.tmod_eq_emod_of_nonneg]); (repeat with_reducible refine obA ?_)))
        · (iterate 2 ((try simp (etaStruct := .none) only [push_cast, DrawG, Int.cast_ofNat_Int, Nat.reduceAdd, Nat.reduceSub, Nat.reduceMul, reduceCtorEq, reduceIte, Nat.reduceEqDiff, Nat.reduceLT, Nat.reduceLeDiff, Nat.reduceBEq, Int.reduceToNat, Int.reduceLE, Int.reduceLT, e1, e2]); (try simp (disch := omega) only [wrap_in, wk_self, Int.tdiv_eq_ediv_of_nonneg, Int.tmod_eq_emod_of_nonneg]); (repeat with_reducible refine obA ?_)))
    · (try simp only [decide_eq_true_eq, decide_eq_false_iff_not, Bool.not_eq_true', Bool.not_eq_false', Bool.or_eq_true, Bool.and_eq_true, Bool.or_eq_false_iff, Bool.and_eq_false_iff, Int.not_lt, Int.not_le, Bool.not_true, Bool.not_false, not_and, not_or] at h2)
      have ek : kid Nod.all m i n = a := by unfold kid; rw [← ha, ← hb, if_neg (fun h => by have := h.1; have := h.2; omega)]
      (iterate 2 ((try simp (etaStruct := .none) only [push_cast, DrawG, Int.cast_ofNat_Int, Nat.reduceAdd, Nat.reduceSub, Nat.reduceMul, reduceCtorEq, reduceIte, Nat.reduceEqDiff, Nat.reduceLT, Nat.reduceLeDiff, Nat.reduceBEq, Int.reduceToNat, Int.reduceLE, Int.reduceLT, e1, e2]); (try simp (disch := omega) only [wrap_in, wk_self, Int.tdiv_eq_ediv_of_nonneg, Int.tmod_eq_emod_of_nonneg]); (repeat with_reducible refine obA ?_)))
      refine callB (oless_s m a i (by omega) (by omega)) (WkL.refl _) rfl ?_
      (iterate 2 ((try simp (etaStruct := .none) only [push_cast, DrawG, Int.cast_ofNat_Int, Nat.reduceAdd, Nat.reduceSub, Nat.reduceMul, reduceCtorEq, reduceIte, Nat.reduceEqDiff, Nat.reduceLT, Nat.reduceLeDiff, Nat.reduceBEq, Int.reduceToNat, Int.reduceLE, Int.reduceLT, e1, e2]); (try simp (disch := omega) only [wrap_in, wk_self, Int.tdiv_eq_ediv_of_nonneg, Int.tmod_eq_emod_of_nonneg]); (repeat with_reducible refine obA ?_)))
      refine cond_i (fun h4 => ?_) (fun h4 => ?_)
      · (try simp only [decide_eq_true_eq, decide_eq_false_iff_not, Bool.not_eq_true', Bool.not_eq_false', Bool.or_eq_true, Bool.and_eq_true, Bool.or_eq_false_iff, Bool.and_eq_false_iff, Int.not_lt, Int.not_le, Bool.not_true, Bool.not_false, not_and, not_or] at h4)
        have e : hdn Nod.all m i n = m := by rw [hdn, if_pos]; rw [ek]; exact .inr (by omega)
        rw [← hu, e]
        (iterate 2 ((try simp (etaStruct := .none) only [push_cast, DrawG, Int.cast_ofNat_Int, Nat.reduceAdd, Nat.reduceSub, Nat.reduceMul, reduceCtorEq, reduceIte, Nat.reduceEqDiff, Nat.reduceLT, Nat.reduceLeDiff, Nat.reduceBEq, Int.reduceToNat, Int.reduceLE, Int.reduceLT, e1, e2]); (try simp (disch := omega) only [wrap_in, wk_self, Int.tdiv_eq_ediv_of_nonneg, Int.tmod_eq_emod_of_nonneg]); (repeat with_reducible refine obA ?_)))
        refine retM [0, 1, 2] rfl rfl (by decide) ⟨?_, ?_, ?_, trivial⟩ trivial (Wk.undef _) <;> simp (etaStruct := .none) only [push_cast, DrawG, Int.cast_ofNat_Int, Nat.reduceAdd, Nat.reduceSub, Nat.reduceMul, reduceCtorEq, reduceIte, Nat.reduceEqDiff, Nat.reduceLT, Nat.reduceLeDiff, Nat.reduceBEq, Int.reduceToNat, Int.reduceLE, Int.reduceLT]
      · (try simp only [decide_eq_true_eq, decide_eq_false_iff_not, Bool.not_eq_true', Bool.not_eq_false', Bool.or_eq_true, Bool.and_eq_true, Bool.or_eq_false_iff, Bool.and_eq_false_iff, Int.not_lt, Int.not_le, Bool.not_true, Bool.not_false, not_and, not_or] at h4)
        have e : hdn Nod.all m i n = hdn Nod.all (swapL m i a) a n := by rw [hdn, if_neg, ek]; rw [ek]; rintro (h | h) <;> omega
        (iterate 2 ((try simp (etaStruct := .none) only [push_cast, DrawG, Int.cast_ofNat_Int, Nat.reduceAdd, Nat.reduceSub, Nat.reduceMul, reduceCtorEq, reduceIte, Nat.reduceEqDiff, Nat.reduceLT, Nat.reduceLeDiff, Nat.reduceBEq, Int.reduceToNat, Int.reduceLE, Int.reduceLT, e1, e2]); (try simp (disch := omega) only [wrap_in, wk_self, Int.tdiv_eq_ediv_of_nonneg, Int.tmod_eq_emod_of_nonneg]); (repeat with_reducible refine obA ?_)))
        refine callM [2] (oswap_s m i a (by omega) (by omega)) (WkL.refl _) rfl (by decide) (by simp [lookC_c]) ?_
        (iterate 2 ((try simp (etaStruct := .none) only [push_cast, DrawG, Int.cast_ofNat_Int, Nat.reduceAdd, Nat.reduceSub, Nat.reduceMul, reduceCtorEq, reduceIte, Nat.reduceEqDiff, Nat.reduceLT, Nat.reduceLeDiff, Nat.reduceBEq, Int.reduceToNat, Int.reduceLE, Int.reduceLT, e1, e2]); (try simp (disch := omega) only [wrap_in, wk_self, Int.tdiv_eq_ediv_of_nonneg, Int.tmod_eq_emod_of_nonneg]); (repeat with_reducible refine obA ?_)))
        refine ⟨(swapL m i a, a), ⟨by simp only; omega, by rw [swapL_len]; exact hm, by rw [swapL_len]; exact hm2, by rw [← hu, e]⟩, by simp only; omega, To.mk [0, 1, 2] rfl rfl (by decide) ?_ ?_⟩
        · (iterate 2 ((try simp (etaStruct := .none) only [push_cast, DrawG, Int.cast_ofNat_Int, Nat.reduceAdd, Nat.reduceSub, Nat.reduceMul, reduceCtorEq, reduceIte, Nat.reduceEqDiff, Nat.reduceLT, Nat.reduceLeDiff, Nat.reduceBEq, Int.reduceToNat, Int.reduceLE, Int.reduceLT, e1, e2]); (try simp (disch := omega) only [wrap_in, wk_self, Int.tdiv_eq_ediv_of_nonneg, Int.tmod_eq_emod_of_nonneg]); (repeat with_reducible refine obA ?_)))
        · (iterate 2 ((try simp (etaStruct := .none) only [push_cast, DrawG, Int.cast_ofNat_Int, Nat.reduceAdd, Nat.reduceSub, Nat.reduceMul, reduceCtorEq, reduceIte, Nat.reduceEqDiff, Nat.reduceLT, Nat.reduceLeDiff, Nat.reduceBEq, Int.reduceToNat, Int.reduceLE, Int.reduceLT, e1, e2]); (try simp (disch := omega) only [wrap_in, wk_self, Int.tdiv_eq_ediv_of_nonneg, Int.tmod_eq_emod_of_nonneg]); (repeat with_reducible refine obA ?_)))
theorem ohpop_s (f : Fld) (b : Cel) (far : List Int)(l : List Nod) (h0 : 0 < l.length) (hl : l.length ≤ 1000001) : Spec Try.prog 238 [.ifc 321 (.ptr 0 0 6)] [.blk 194 [I .i64 f.w, I .i64 f.h, .c (.sl 1 (f.p.map i64P)), I .i64 b.x, I .i64 b.y, .own 1, .own 2], .row 3 1 (far.map i64P),.row 323 4 (l.map nodP)] (.ifc 323 (nodA (l.getD 0 default))) [.blk 194 [I .i64 f.w, I .i64 f.h, .c (.sl 1 (f.p.map i64P)), I .i64 b.x, I .i64 b.y, .own 1, .own 3], .row 3 1 (far.map i64P),.dead, .row 323 4 ((hpop Nod.all l).map nodP)] := by
  obtain ⟨n, hn⟩ : ∃ n, l.length = n + 1 := ⟨l.length - 1, by omega⟩
  have e1 : IntKind.i64.wrap ((l.length : Int) - 1) = (n : Int) := by rw [wrap_in _ (by omega) (by omega)]; omega
  have e2 := hpop_last Nod.all l h0
  have e3 : hpop Nod.all l = (hdn Nod.all (swapL l 0 n) 0 n).take n := by unfold hpop; rw [hn]; rfl
  rw [hn, Nat.add_sub_cancel] at e2
  rw [← e2, e3]
  refine spec_am Try.func238 rfl rfl mix 15 rfl [.tmp 2] Try.results238 (Nat.le_of_ble_eq_true rfl) ?_
  (iterate 2 ((try simp (etaStruct := .none) only [push_cast, DrawG, Int.cast_ofNat_Int, Nat.reduceAdd, Nat.reduceSub, Nat.reduceMul, reduceCtorEq, reduceIte, Nat.reduceEqDiff, Nat.reduceLT, Nat.reduceLeDiff, Nat.reduceBEq, Int.reduceToNat, Int.reduceLE, Int.reduceLT, e1]); (try simp (disch := omega) only [wrap_in, wk_self, Int.tdiv_eq_ediv_of_nonneg, Int.tmod_eq_emod_of_nonneg]); (repeat with_reducible refine obA ?_)))
  refine callB (olen_s l) (WkL.refl _) rfl ?_
  (iterate 2 ((try simp (etaStruct := .none) only [push_cast, DrawG, Int.cast_ofNat_Int, Nat.reduceAdd, Nat.reduceSub, Nat.reduceMul, reduceCtorEq, reduceIte, Nat.reduceEqDiff, Nat.reduceLT, Nat.reduceLeDiff, Nat.reduceBEq, Int.reduceToNat, Int.reduceLE, Int.reduceLT, e1]); (try simp (disch := omega) only [wrap_in, wk_self, Int.tdiv_eq_ediv_of_nonneg, Int.tmod_eq_emod_of_nonneg]); (repeat with_reducible refine obA ?_)))
  refine callM [2] (oswap_s l 0 n h0 (by omega)) (WkL.refl _) rfl (by decide) (by simp [lookC_c]) ?_
  (iterate 2 ((try simp (etaStruct := .none) only [push_cast, DrawG, Int.cast_ofNat_Int, Nat.reduceAdd, Nat.reduceSub, Nat.reduceMul, reduceCtorEq, reduceIte, Nat.reduceEqDiff, Nat.reduceLT, Nat.reduceLeDiff, Nat.reduceBEq, Int.reduceToNat, Int.reduceLE, Int.reduceLT, e1]); (try simp (disch := omega) only [wrap_in, wk_self, Int.tdiv_eq_ediv_of_nonneg, Int.tmod_eq_emod_of_nonneg]); (repeat with_reducible refine obA ?_)))
  refine callM [0, 1, 2] (odown_s f b far (swapL l 0 n) n (by rw [swapL_len]; omega) (by rw [swapL_len]; omega)) (WkL.refl _) rfl (by decide) (by simp [lookC_c]) ?_
  (iterate 2 ((try simp (etaStruct := .none) only [push_cast, DrawG, Int.cast_ofNat_Int, Nat.reduceAdd, Nat.reduceSub, Nat.reduceMul, reduceCtorEq, reduceIte, Nat.reduceEqDiff, Nat.reduceLT, Nat.reduceLeDiff, Nat.reduceBEq, Int.reduceToNat, Int.reduceLE, Int.reduceLT, e1]); (try simp (disch := omega) only [wrap_in, wk_self, Int.tdiv_eq_ediv_of_nonneg, Int.tmod_eq_emod_of_nonneg]); (repeat with_reducible refine obA ?_)))
  refine callM [0, 1, 2] (oqpop_s f b far (hdn Nod.all (swapL l 0 n) 0 n) n (by rw [hdn_len, swapL_len]; exact hn) (by rw [hdn_len, swapL_len]; exact hl)) (WkL.refl _) rfl (by decide) (by simp [lookC_c]) ?_
  (iterate 2 ((try simp (etaStruct := .none) only [push_cast, DrawG, Int.cast_ofNat_Int, Nat.reduceAdd, Nat.reduceSub, Nat.reduceMul, reduceCtorEq, reduceIte, Nat.reduceEqDiff, Nat.reduceLT, Nat.reduceLeDiff, Nat.reduceBEq, Int.reduceToNat, Int.reduceLE, Int.reduceLT, e1]); (try simp (disch := omega) only [wrap_in, wk_self, Int.tdiv_eq_ediv_of_nonneg, Int.tmod_eq_emod_of_nonneg]); (repeat with_reducible refine obA ?_)))
  refine retM [0, 1, 2, 3] rfl rfl (by decide) ⟨?_, ?_, ?_, ?_, trivial⟩ trivial ?_ <;> simp (etaStruct := .none) only [push_cast, DrawG, Int.cast_ofNat_Int, Nat.reduceAdd, Nat.reduceSub, Nat.reduceMul, reduceCtorEq, reduceIte, Nat.reduceEqDiff, Nat.reduceLT, Nat.reduceLeDiff, Nat.reduceBEq, Int.reduceToNat, Int.reduceLE, Int.reduceLT]
end Go.Proofs.Ytehcnnodkhcgfaa
namespace Go.Proofs.Ytehcnnodkhcgfaa
set_option linter.all false
open Go.RowKit
set_option maxRecDepth 100000
set_option maxHeartbeats 1000000
theorem wrap_u64_nat (n : Nat) (h : n < 18446744073709551616) : IntKind.u64.wrap (n : Int) = n := by rw [IntKind.wrap_u64]; omega
theorem u64_and_low (n : Nat) (h : n < 4294967296) : bits .and .u64 (n : Int) 4294967295 = (n : Int) := by
  show IntKind.u64.wrap ((BitVec.ofInt 64 (n : Int) &&& BitVec.ofInt 64 ((4294967295 : Nat) : Int)).toNat : Nat) = _
  rw [BitVec.toNat_and, BitVec.ofInt_natCast, BitVec.ofInt_natCast, BitVec.toNat_ofNat, BitVec.toNat_ofNat, Nat.mod_eq_of_lt (show n < 2 ^ 64 by omega), Nat.mod_eq_of_lt (show 4294967295 < 2 ^ 64 by decide)]
  have : n &&& 4294967295 = n := by rw [show (4294967295 : Nat) = 2 ^ 32 - 1 from rfl, Nat.and_two_pow_sub_one_eq_mod, Nat.mod_eq_of_lt (by omega)]
  rw [this]
  exact wrap_u64_nat n (by omega)
theorem mul64_s (n : Nat) (h : n ≤ 1600) : Spec Try.prog 274 [.c (.v (.int .u64 1)), .c (.v (.int .u64 n))] [] (.tup [.c (.v (.int .u64 0)), .c (.v (.int .u64 n))]) [] := by
  have a1 := u64_and_low n (by omega)
  have a2 : bits .and .u64 1 4294967295 = 1 := u64_and_low 1 (by decide)
  have a3 : bits .and .u64 0 4294967295 = 0 := u64_and_low 0 (by decide)
  have w1 : ∀ x : Int, 0 ≤ x → x ≤ 1600 → IntKind.u64.wrap x = x := fun x h1 h2 => by
    obtain ⟨k, rfl⟩ := Int.eq_ofNat_of_zero_le h1
    exact wrap_u64_nat k (by omega)
  have d1 : (n : Int).fdiv 4294967296 = 0 := by rw [Int.fdiv_eq_ediv_of_nonneg _ (by decide)]; omega
  have d2 : (1 : Int).fdiv 4294967296 = 0 := rfl
  have d3 : (0 : Int).fdiv 4294967296 = 0 := rfl
  have e1 : IntKind.u64.wrap (n : Int) = n := w1 _ (by omega) (by omega)
  have e0 : IntKind.u64.wrap 0 = 0 := rfl
  have hm : (2 : Int) ^ min 32 IntKind.u64.bits = 4294967296 := rfl
  refine spec_am Try.func274 rfl rfl mix 51 rfl [.tmp 4, .tmp 5] Try.results274 (Nat.le_of_ble_eq_true rfl) ?_
  (iterate 2 ((try simp (etaStruct := .none) only [push_cast, DrawG, Int.cast_ofNat_Int, Nat.reduceAdd, Nat.reduceSub, Nat.reduceMul, reduceCtorEq, reduceIte, Nat.reduceEqDiff, Nat.reduceLT, Nat.reduceLeDiff, Nat.reduceBEq, Int.reduceToNat, Int.reduceLE, Int.reduceLT, hm, a1, a2, a3, d1, d2, d3, e1, e0, Int.mul_zero, Int.zero_mul, Int.one_mul, Int.add_zero, Int.zero_add]); (try simp (disch := omega) only [wrap_in, wk_self, Int.tdiv_eq_ediv_of_nonneg, Int.tmod_eq_emod_of_nonneg]); (repeat with_reducible refine obA ?_)))
  (first | (refine ret0 rfl (by repeat' (first | exact trivial | exact rfl | refine ⟨?_, ?_⟩)) (Wk.of ?_); (try simp (etaStruct := .none) only [push_cast, DrawG, Int.cast_ofNat_Int, Nat.reduceAdd, Nat.reduceSub, Nat.reduceMul, reduceCtorEq, reduceIte, Nat.reduceEqDiff, Nat.reduceLT, Nat.reduceLeDiff, Nat.reduceBEq, Int.reduceToNat, Int.reduceLE, Int.reduceLT]); first | done | (simp [*]; done) | (simp_all []; done)) | (refine ret0 rfl (by repeat' (first | exact trivial | exact rfl | refine ⟨?_, ?_⟩)) ?_; (try simp (etaStruct := .none) only [push_cast, DrawG, Int.cast_ofNat_Int, Nat.reduceAdd, Nat.reduceSub, Nat.reduceMul, reduceCtorEq, reduceIte, Nat.reduceEqDiff, Nat.reduceLT, Nat.reduceLeDiff, Nat.reduceBEq, Int.reduceToNat, Int.reduceLE, Int.reduceLT]); (try simp [*]); (try (first | exact Wk.refl _ | exact Wk.nil _ | (refine Wk.tup ?_; repeat' (first | exact trivial | exact Wk.refl _ | exact Wk.nil _ | refine ⟨?_, ?_⟩ | (refine Wk.agg ?_)))))))
theorem mul_s (n : Nat) (h : n ≤ 1600) : Spec Try.prog 234 [.c (.v (.int .u64 1)), .c (.v (.int .u64 n))] [] (.tup [.c (.v (.int .u64 0)), .c (.v (.int .u64 n))]) [] := by
  refine spec_am Try.func234 rfl rfl mix 30 rfl [.tmp 4, .tmp 5] Try.results234 (Nat.le_of_ble_eq_true rfl) ?_
  (try simp (etaStruct := .none) only [push_cast, DrawG, Int.cast_ofNat_Int, Nat.reduceAdd, Nat.reduceSub, Nat.reduceMul, reduceCtorEq, reduceIte, Nat.reduceEqDiff, Nat.reduceLT, Nat.reduceLeDiff, Nat.reduceBEq, Int.reduceToNat, Int.reduceLE, Int.reduceLT]); (try simp (disch := omega) only [wrap_in, wk_self, Int.tdiv_eq_ediv_of_nonneg, Int.tmod_eq_emod_of_nonneg]); (repeat with_reducible refine obA ?_)
  refine cond_i (fun h1 => ?_) (fun h1 => ?_)
  · (try simp only [decide_eq_true_eq, decide_eq_false_iff_not, Bool.not_eq_true', Bool.not_eq_false', Bool.or_eq_true, Bool.and_eq_true, Bool.or_eq_false_iff, Bool.and_eq_false_iff, Int.not_lt, Int.not_le, Bool.not_true, Bool.not_false, not_and, not_or] at h1)
    exact absurd h1 (by decide)
  · (try simp only [decide_eq_true_eq, decide_eq_false_iff_not, Bool.not_eq_true', Bool.not_eq_false', Bool.or_eq_true, Bool.and_eq_true, Bool.or_eq_false_iff, Bool.and_eq_false_iff, Int.not_lt, Int.not_le, Bool.not_true, Bool.not_false, not_and, not_or] at h1)
    (try simp (etaStruct := .none) only [push_cast, DrawG, Int.cast_ofNat_Int, Nat.reduceAdd, Nat.reduceSub, Nat.reduceMul, reduceCtorEq, reduceIte, Nat.reduceEqDiff, Nat.reduceLT, Nat.reduceLeDiff, Nat.reduceBEq, Int.reduceToNat, Int.reduceLE, Int.reduceLT]); (try simp (disch := omega) only [wrap_in, wk_self, Int.tdiv_eq_ediv_of_nonneg, Int.tmod_eq_emod_of_nonneg]); (repeat with_reducible refine obA ?_)
    refine callP (mul64_s n h) (WkL.refl _) ?_
    (try simp (etaStruct := .none) only [push_cast, DrawG, Int.cast_ofNat_Int, Nat.reduceAdd, Nat.reduceSub, Nat.reduceMul, reduceCtorEq, reduceIte, Nat.reduceEqDiff, Nat.reduceLT, Nat.reduceLeDiff, Nat.reduceBEq, Int.reduceToNat, Int.reduceLE, Int.reduceLT]); (try simp (disch := omega) only [wrap_in, wk_self, Int.tdiv_eq_ediv_of_nonneg, Int.tmod_eq_emod_of_nonneg]); (repeat with_reducible refine obA ?_)
    (first | (refine ret0 rfl (by repeat' (first | exact trivial | exact rfl | refine ⟨?_, ?_⟩)) (Wk.of ?_); (try simp (etaStruct := .none) only [push_cast, DrawG, Int.cast_ofNat_Int, Nat.reduceAdd, Nat.reduceSub, Nat.reduceMul, reduceCtorEq, reduceIte, Nat.reduceEqDiff, Nat.reduceLT, Nat.reduceLeDiff, Nat.reduceBEq, Int.reduceToNat, Int.reduceLE, Int.reduceLT]); first | done | (simp [*]; done) | (simp_all []; done)) | (refine ret0 rfl (by repeat' (first | exact trivial | exact rfl | refine ⟨?_, ?_⟩)) ?_; (try simp (etaStruct := .none) only [push_cast, DrawG, Int.cast_ofNat_Int, Nat.reduceAdd, Nat.reduceSub, Nat.reduceMul, reduceCtorEq, reduceIte, Nat.reduceEqDiff, Nat.reduceLT, Nat.reduceLeDiff, Nat.reduceBEq, Int.reduceToNat, Int.reduceLE, Int.reduceLT]); (try simp [*]); (try (first | exact Wk.refl _ | exact Wk.nil _ | (refine Wk.tup ?_; repeat' (first | exact trivial | exact Wk.refl _ | exact Wk.nil _ | refine ⟨?_, ?_⟩ | (refine Wk.agg ?_)))))))
def rp (k n : Nat) : List Int := List.replicate k (-1) ++ List.replicate (n - k) 0
theorem rp_len {k n : Nat} (h : k ≤ n) : (rp k n).length = n := by unfold rp; simp; omega
theorem rp_take {k n : Nat} (h : k ≤ n) : (rp k n).take k = List.replicate k (-1) := by unfold rp; rw [List.take_append_of_le_length (by simp)]; simp
theorem splice_map {α β : Type} (f : α → β) (l : List α) (o : Nat) (m : List α) : splice (l.map f) o (m.map f) = (splice l o m).map f := by
  unfold splice
  rw [List.map_append, List.map_append, List.map_take, List.map_drop, List.length_map]
theorem rp_copy {k n : Nat} (h : k ≤ n) : splice (rp k n) k ((List.replicate k (-1)).take (n - k)) = rp (k + min k (n - k)) n := by
  rw [List.take_replicate]
  unfold splice
  rw [rp_take h, List.length_replicate]
  unfold rp
  rw [List.drop_append, List.length_replicate, List.drop_of_length_le (by simp), List.nil_append, show k + min (n - k) k - k = min (n - k) k from by omega, List.drop_replicate, ← List.append_assoc, List.replicate_append_replicate, Nat.min_comm (n - k) k, show n - k - min k (n - k) = n - (k + min k (n - k)) from by omega]
theorem rp_first {n : Nat} (h : 1 ≤ n) : splice (List.replicate n (0 : Int)) 0 ([(-1 : Int)].take n) = rp 1 n := by
  obtain ⟨m, rfl⟩ : ∃ m, n = m + 1 := ⟨n - 1, by omega⟩
  unfold splice rp
  simp
theorem repeat_s (n : Nat) (hpos : 1 ≤ n) (h : n ≤ 1600) : Spec Try.prog 192 [.own 0, I .i64 n] [.row 3 1 [[pI (-1)]]] (.own 1) [.row 3 1 [[pI (-1)]], .row 3 1 ((List.replicate n (-1 : Int)).map i64P)] := by
  have e1 : IntKind.u64.wrap (n : Int) = n := wrap_u64_nat n (by omega)
  have e2 : IntKind.u64.wrap 1 = 1 := rfl
  have e3 : IntKind.i64.wrap (n : Int) = n := wrap_in _ (by omega) (by omega)
  have hf := rp_first hpos
  have hf2 : splice (List.replicate n [pI 0]) 0 (([[pI (-1)]] : List (List PV)).take n) = (rp 1 n).map i64P := by rw [← hf, ← splice_map]; simp [i64P]
  have hmn : min 1 n = 1 := by omega
  refine spec_am Try.func192 rfl rfl mix 48 rfl [.tmp 4] Try.results192 (Nat.le_of_ble_eq_true rfl) ?_
  (iterate 2 ((try simp (etaStruct := .none) only [push_cast, DrawG, Int.cast_ofNat_Int, Nat.reduceAdd, Nat.reduceSub, Nat.reduceMul, reduceCtorEq, reduceIte, Nat.reduceEqDiff, Nat.reduceLT, Nat.reduceLeDiff, Nat.reduceBEq, Int.reduceToNat, Int.reduceLE, Int.reduceLT, e1, e2, e3]); (try simp (disch := omega) only [wrap_in, wk_self, Int.tdiv_eq_ediv_of_nonneg, Int.tmod_eq_emod_of_nonneg]); (repeat with_reducible refine obA ?_)))
  refine cond_i (fun h1 => ?_) (fun h1 => ?_)
  · (try simp only [decide_eq_true_eq, decide_eq_false_iff_not, Bool.not_eq_true', Bool.not_eq_false', Bool.or_eq_true, Bool.and_eq_true, Bool.or_eq_false_iff, Bool.and_eq_false_iff, Int.not_lt, Int.not_le, Bool.not_true, Bool.not_false, not_and, not_or] at h1)
    exfalso; omega
  · (try simp only [decide_eq_true_eq, decide_eq_false_iff_not, Bool.not_eq_true', Bool.not_eq_false', Bool.or_eq_true, Bool.and_eq_true, Bool.or_eq_false_iff, Bool.and_eq_false_iff, Int.not_lt, Int.not_le, Bool.not_true, Bool.not_false, not_and, not_or] at h1)
    (iterate 2 ((try simp (etaStruct := .none) only [push_cast, DrawG, Int.cast_ofNat_Int, Nat.reduceAdd, Nat.reduceSub, Nat.reduceMul, reduceCtorEq, reduceIte, Nat.reduceEqDiff, Nat.reduceLT, Nat.reduceLeDiff, Nat.reduceBEq, Int.reduceToNat, Int.reduceLE, Int.reduceLT, e1, e2, e3]); (try simp (disch := omega) only [wrap_in, wk_self, Int.tdiv_eq_ediv_of_nonneg, Int.tmod_eq_emod_of_nonneg]); (repeat with_reducible refine obA ?_)))
    refine callP (mul_s n h) (WkL.refl _) ?_
    (iterate 2 ((try simp (etaStruct := .none) only [push_cast, DrawG, Int.cast_ofNat_Int, Nat.reduceAdd, Nat.reduceSub, Nat.reduceMul, reduceCtorEq, reduceIte, Nat.reduceEqDiff, Nat.reduceLT, Nat.reduceLeDiff, Nat.reduceBEq, Int.reduceToNat, Int.reduceLE, Int.reduceLT, e1, e2, e3]); (try simp (disch := omega) only [wrap_in, wk_self, Int.tdiv_eq_ediv_of_nonneg, Int.tmod_eq_emod_of_nonneg]); (repeat with_reducible refine obA ?_)))
    refine cond_i (fun h2 => ?_) (fun h2 => ?_)
    · (try simp only [decide_eq_true_eq, decide_eq_false_iff_not, Bool.not_eq_true', Bool.not_eq_false', Bool.or_eq_true, Bool.and_eq_true, Bool.or_eq_false_iff, Bool.and_eq_false_iff, Int.not_lt, Int.not_le, Bool.not_true, Bool.not_false, not_and, not_or] at h2)
      exfalso; omega
    · (try simp only [decide_eq_true_eq, decide_eq_false_iff_not, Bool.not_eq_true', Bool.not_eq_false', Bool.or_eq_true, Bool.and_eq_true, Bool.or_eq_false_iff, Bool.and_eq_false_iff, Int.not_lt, Int.not_le, Bool.not_true, Bool.not_false, not_and, not_or] at h2)
      (iterate 2 ((try simp (etaStruct := .none) only [push_cast, DrawG, Int.cast_ofNat_Int, Nat.reduceAdd, Nat.reduceSub, Nat.reduceMul, reduceCtorEq, reduceIte, Nat.reduceEqDiff, Nat.reduceLT, Nat.reduceLeDiff, Nat.reduceBEq, Int.reduceToNat, Int.reduceLE, Int.reduceLT, e1, e2, e3]); (try simp (disch := omega) only [wrap_in, wk_self, Int.tdiv_eq_ediv_of_nonneg, Int.tmod_eq_emod_of_nonneg]); (repeat with_reducible refine obA ?_)))
      refine loopI (fun k : Nat => ⟨[(8, I .i64 k), (7, .own 1)], [(0, .row 3 1 [[pI (-1)]]), (1, .row 3 1 ((rp k n).map i64P))], 2⟩) (fun k : Nat => 1 ≤ k ∧ k ≤ n) (fun k : Nat => n - k) (1) (⟨Nat.le_refl _, hpos⟩) (To.mk [0, 1] rfl rfl (by decide) ?_ ?_) ?_
      · simp (etaStruct := .none) only [push_cast, DrawG, Int.cast_ofNat_Int, Nat.reduceAdd, Nat.reduceSub, Nat.reduceMul, reduceCtorEq, reduceIte, Nat.reduceEqDiff, Nat.reduceLT, Nat.reduceLeDiff, Nat.reduceBEq, Int.reduceToNat, Int.reduceLE, Int.reduceLT, List.length_replicate]
        simpa only [splice, List.take_zero, List.nil_append, Nat.zero_add] using hf2
      · simp (etaStruct := .none) only [push_cast, DrawG, Int.cast_ofNat_Int, Nat.reduceAdd, Nat.reduceSub, Nat.reduceMul, reduceCtorEq, reduceIte, Nat.reduceEqDiff, Nat.reduceLT, Nat.reduceLeDiff, Nat.reduceBEq, Int.reduceToNat, Int.reduceLE, Int.reduceLT, List.length_replicate, hmn]
      rintro k ⟨hk1, hk⟩
      have hrl := rp_len hk
      have hrc := rp_copy hk
      have htk : ((rp k n).map i64P).take k = (List.replicate k (-1 : Int)).map i64P := by rw [← List.map_take, rp_take hk]
      have hs2 : splice ((rp k n).map i64P) k ((((rp k n).map i64P).take k).take (n - k)) = (rp (k + min k (n - k)) n).map i64P := by rw [htk, ← List.map_take, splice_map, hrc]
      have hl2 : (((rp k n).map i64P).take k).length = k := by rw [List.length_take, List.length_map, hrl]; omega
      unfold splice at hs2
      (iterate 2 ((try simp (etaStruct := .none) only [push_cast, DrawG, Int.cast_ofNat_Int, Nat.reduceAdd, Nat.reduceSub, Nat.reduceMul, reduceCtorEq, reduceIte, Nat.reduceEqDiff, Nat.reduceLT, Nat.reduceLeDiff, Nat.reduceBEq, Int.reduceToNat, Int.reduceLE, Int.reduceLT, e1, e2, e3]); (try simp (disch := omega) only [wrap_in, wk_self, Int.tdiv_eq_ediv_of_nonneg, Int.tmod_eq_emod_of_nonneg]); (repeat with_reducible refine obA ?_)))
      refine cond_i (fun h3 => ?_) (fun h3 => ?_)
      · (try simp only [decide_eq_true_eq, decide_eq_false_iff_not, Bool.not_eq_true', Bool.not_eq_false', Bool.or_eq_true, Bool.and_eq_true, Bool.or_eq_false_iff, Bool.and_eq_false_iff, Int.not_lt, Int.not_le, Bool.not_true, Bool.not_false, not_and, not_or] at h3)
        skip
        (iterate 2 ((try simp (etaStruct := .none) only [push_cast, DrawG, Int.cast_ofNat_Int, Nat.reduceAdd, Nat.reduceSub, Nat.reduceMul, reduceCtorEq, reduceIte, Nat.reduceEqDiff, Nat.reduceLT, Nat.reduceLeDiff, Nat.reduceBEq, Int.reduceToNat, Int.reduceLE, Int.reduceLT, e1, e2, e3]); (try simp (disch := omega) only [wrap_in, wk_self, Int.tdiv_eq_ediv_of_nonneg, Int.tmod_eq_emod_of_nonneg]); (repeat with_reducible refine obA ?_)))
        (try (refine ⟨by kernel_rfl, ?_⟩))
        (iterate 2 ((try simp (etaStruct := .none) only [push_cast, DrawG, Int.cast_ofNat_Int, Nat.reduceAdd, Nat.reduceSub, Nat.reduceMul, reduceCtorEq, reduceIte, Nat.reduceEqDiff, Nat.reduceLT, Nat.reduceLeDiff, Nat.reduceBEq, Int.reduceToNat, Int.reduceLE, Int.reduceLT, e1, e2, e3]); (try simp (disch := omega) only [wrap_in, wk_self, Int.tdiv_eq_ediv_of_nonneg, Int.tmod_eq_emod_of_nonneg]); (repeat with_reducible refine obA ?_)))
        refine ⟨k + min k (n - k), ⟨by omega, by omega⟩, by omega, To.mk [0, 1] rfl rfl (by decide) ?_ ?_⟩
        · (iterate 2 ((try simp (etaStruct := .none) only [push_cast, DrawG, Int.cast_ofNat_Int, Nat.reduceAdd, Nat.reduceSub, Nat.reduceMul, reduceCtorEq, reduceIte, Nat.reduceEqDiff, Nat.reduceLT, Nat.reduceLeDiff, Nat.reduceBEq, Int.reduceToNat, Int.reduceLE, Int.reduceLT, hrl]); (try simp (disch := omega) only [wrap_in, wk_self, Int.tdiv_eq_ediv_of_nonneg, Int.tmod_eq_emod_of_nonneg]); (repeat with_reducible refine obA ?_)))
          exact hs2
        · (iterate 2 ((try simp (etaStruct := .none) only [push_cast, DrawG, Int.cast_ofNat_Int, Nat.reduceAdd, Nat.reduceSub, Nat.reduceMul, reduceCtorEq, reduceIte, Nat.reduceEqDiff, Nat.reduceLT, Nat.reduceLeDiff, Nat.reduceBEq, Int.reduceToNat, Int.reduceLE, Int.reduceLT, hl2, hrl]); (try simp (disch := omega) only [wrap_in, wk_self, Int.tdiv_eq_ediv_of_nonneg, Int.tmod_eq_emod_of_nonneg]); (repeat with_reducible refine obA ?_)))
      · (try simp only [decide_eq_true_eq, decide_eq_false_iff_not, Bool.not_eq_true', Bool.not_eq_false', Bool.or_eq_true, Bool.and_eq_true, Bool.or_eq_false_iff, Bool.and_eq_false_iff, Int.not_lt, Int.not_le, Bool.not_true, Bool.not_false, not_and, not_or] at h3)
        obtain rfl : k = n := by omega
        have hrn : rp k k = List.replicate k (-1) := by unfold rp; simp
        (iterate 2 ((try simp (etaStruct := .none) only [push_cast, DrawG, Int.cast_ofNat_Int, Nat.reduceAdd, Nat.reduceSub, Nat.reduceMul, reduceCtorEq, reduceIte, Nat.reduceEqDiff, Nat.reduceLT, Nat.reduceLeDiff, Nat.reduceBEq, Int.reduceToNat, Int.reduceLE, Int.reduceLT, e1, e2, e3]); (try simp (disch := omega) only [wrap_in, wk_self, Int.tdiv_eq_ediv_of_nonneg, Int.tmod_eq_emod_of_nonneg]); (repeat with_reducible refine obA ?_)))
        refine retM [0, 1] rfl rfl (by decide) ⟨?_, ?_, trivial⟩ trivial ?_ <;> simp (etaStruct := .none) only [push_cast, DrawG, Int.cast_ofNat_Int, Nat.reduceAdd, Nat.reduceSub, Nat.reduceMul, reduceCtorEq, reduceIte, Nat.reduceEqDiff, Nat.reduceLT, Nat.reduceLeDiff, Nat.reduceBEq, Int.reduceToNat, Int.reduceLE, Int.reduceLT, hrn]
end Go.Proofs.Ytehcnnodkhcgfaa
namespace Go.Proofs.Ytehcnnodkhcgfaa
set_option linter.all false
open Go.RowKit
set_option maxRecDepth 100000
set_option maxHeartbeats 1000000
abbrev srPV (f : Fld) (b : Cel) (far : List Int) (q : List Nod) : List PV := [pI f.w, pI f.h, .sl 1 (f.p.map i64P), pI b.x, pI b.y, .sl 1 (far.map i64P), .sl 4 (q.map nodP)]
theorem pindex_s (f : Fld) (b : Cel) (far : List Int) (q : List Nod) (c : Cel) (hf : fldE f = 0) (hc : inF f c = true) : Spec Try.prog 111 [.fel 7 [srPV f b far q] 0 0, celA c] [] (I .i64 (idxN f c)) [] := by
  obtain ⟨i1, i2, i3, i4, i5⟩ := place_ix hf hc
  have hci := inF_iff.1 hc
  have e1 : IntKind.i64.wrap (IntKind.i64.wrap (c.y * f.w) + c.x) = (idxN f c : Int) := by rw [wrap_in (c.y * f.w) (by omega) (by omega), wrap_in _ (by omega) (by omega)]; unfold idxN; omega
  refine spec_am Try.func111 rfl rfl mix 16 rfl [.tmp 4] Try.results111 (Nat.le_of_ble_eq_true rfl) ?_
  (iterate 2 ((try simp (etaStruct := .none) only [push_cast, DrawG, Int.cast_ofNat_Int, Nat.reduceAdd, Nat.reduceSub, Nat.reduceMul, reduceCtorEq, reduceIte, Nat.reduceEqDiff, Nat.reduceLT, Nat.reduceLeDiff, Nat.reduceBEq, Int.reduceToNat, Int.reduceLE, Int.reduceLT, e1]); (try simp (disch := omega) only [wrap_in, wk_self, Int.tdiv_eq_ediv_of_nonneg, Int.tmod_eq_emod_of_nonneg]); (repeat with_reducible refine obA ?_)))
  (try (refine ⟨by kernel_rfl, ?_⟩))
  (iterate 2 ((try simp (etaStruct := .none) only [push_cast, DrawG, Int.cast_ofNat_Int, Nat.reduceAdd, Nat.reduceSub, Nat.reduceMul, reduceCtorEq, reduceIte, Nat.reduceEqDiff, Nat.reduceLT, Nat.reduceLeDiff, Nat.reduceBEq, Int.reduceToNat, Int.reduceLE, Int.reduceLT, e1]); (try simp (disch := omega) only [wrap_in, wk_self, Int.tdiv_eq_ediv_of_nonneg, Int.tmod_eq_emod_of_nonneg]); (repeat with_reducible refine obA ?_)))
  (first | (refine ret0 rfl (by repeat' (first | exact trivial | exact rfl | refine ⟨?_, ?_⟩)) (Wk.of ?_); (try simp (etaStruct := .none) only [push_cast, DrawG, Int.cast_ofNat_Int, Nat.reduceAdd, Nat.reduceSub, Nat.reduceMul, reduceCtorEq, reduceIte, Nat.reduceEqDiff, Nat.reduceLT, Nat.reduceLeDiff, Nat.reduceBEq, Int.reduceToNat, Int.reduceLE, Int.reduceLT]); first | done | (simp [*]; done) | (simp_all []; done)) | (refine ret0 rfl (by repeat' (first | exact trivial | exact rfl | refine ⟨?_, ?_⟩)) ?_; (try simp (etaStruct := .none) only [push_cast, DrawG, Int.cast_ofNat_Int, Nat.reduceAdd, Nat.reduceSub, Nat.reduceMul, reduceCtorEq, reduceIte, Nat.reduceEqDiff, Nat.reduceLT, Nat.reduceLeDiff, Nat.reduceBEq, Int.reduceToNat, Int.reduceLE, Int.reduceLT]); (try simp [*]); (try (first | exact Wk.refl _ | exact Wk.nil _ | (refine Wk.tup ?_; repeat' (first | exact trivial | exact Wk.refl _ | exact Wk.nil _ | refine ⟨?_, ?_⟩ | (refine Wk.agg ?_)))))))
def costC (f : Fld) (c : Cel) : Int × Bool := if inF f c then (if placeV f c = 1 then (0, false) else (kV (placeV f c), true)) else (0, false)
theorem pcost_s (f : Fld) (b : Cel) (far : List Int) (q : List Nod) (c : Cel) (hf : fldE f = 0) : Spec Try.prog 109 [.fel 7 [srPV f b far q] 0 0, celA c] [] (.tup [I .i64 (costC f c).1, B (costC f c).2]) [] := by
  have hfo := fldE_ok hf
  have hav : atV f c = if inF f c then (placeV f c, 0) else (0, 7) := by unfold atV; rw [if_neg (by simp [hf])]
  have hm : f.w * f.h ≤ 40 * 40 := Int.mul_le_mul hfo.1.2 hfo.2.1.2 (by omega) (by omega)
  refine spec_am Try.func109 rfl rfl mix 28 rfl [.tmp 4, .tmp 5] Try.results109 (Nat.le_of_ble_eq_true rfl) ?_
  (try simp (etaStruct := .none) only [push_cast, DrawG, Int.cast_ofNat_Int, Nat.reduceAdd, Nat.reduceSub, Nat.reduceMul, reduceCtorEq, reduceIte, Nat.reduceEqDiff, Nat.reduceLT, Nat.reduceLeDiff, Nat.reduceBEq, Int.reduceToNat, Int.reduceLE, Int.reduceLT]); (try simp (disch := omega) only [wrap_in, wk_self, Int.tdiv_eq_ediv_of_nonneg, Int.tmod_eq_emod_of_nonneg]); (repeat with_reducible refine obA ?_)
  refine callP (at_s f c (by omega)) (WkL.refl _) ?_
  rw [hav]
  (try simp (etaStruct := .none) only [push_cast, DrawG, Int.cast_ofNat_Int, Nat.reduceAdd, Nat.reduceSub, Nat.reduceMul, reduceCtorEq, reduceIte, Nat.reduceEqDiff, Nat.reduceLT, Nat.reduceLeDiff, Nat.reduceBEq, Int.reduceToNat, Int.reduceLE, Int.reduceLT]); (try simp (disch := omega) only [wrap_in, wk_self, Int.tdiv_eq_ediv_of_nonneg, Int.tmod_eq_emod_of_nonneg]); (repeat with_reducible refine obA ?_)
  (try (refine ⟨by kernel_rfl, ?_⟩))
  (try simp (etaStruct := .none) only [push_cast, DrawG, Int.cast_ofNat_Int, Nat.reduceAdd, Nat.reduceSub, Nat.reduceMul, reduceCtorEq, reduceIte, Nat.reduceEqDiff, Nat.reduceLT, Nat.reduceLeDiff, Nat.reduceBEq, Int.reduceToNat, Int.reduceLE, Int.reduceLT]); (try simp (disch := omega) only [wrap_in, wk_self, Int.tdiv_eq_ediv_of_nonneg, Int.tmod_eq_emod_of_nonneg]); (repeat with_reducible refine obA ?_)
  refine cond_i (fun h1 => ?_) (fun h1 => ?_)
  · (try simp only [decide_eq_true_eq, decide_eq_false_iff_not, Bool.not_eq_true', Bool.not_eq_false', Bool.or_eq_true, Bool.and_eq_true, Bool.or_eq_false_iff, Bool.and_eq_false_iff, Int.not_lt, Int.not_le, Bool.not_true, Bool.not_false, not_and, not_or] at h1)
    have hin : inF f c = false := by
      cases hc : inF f c with
      | false => rfl
      | true => rw [hc] at h1; simp at h1
    have e : costC f c = (0, false) := by unfold costC; rw [if_neg (by simp [hin])]
    rw [e]
    (try simp (etaStruct := .none) only [push_cast, DrawG, Int.cast_ofNat_Int, Nat.reduceAdd, Nat.reduceSub, Nat.reduceMul, reduceCtorEq, reduceIte, Nat.reduceEqDiff, Nat.reduceLT, Nat.reduceLeDiff, Nat.reduceBEq, Int.reduceToNat, Int.reduceLE, Int.reduceLT]); (try simp (disch := omega) only [wrap_in, wk_self, Int.tdiv_eq_ediv_of_nonneg, Int.tmod_eq_emod_of_nonneg]); (repeat with_reducible refine obA ?_)
    (first | (refine ret0 rfl (by repeat' (first | exact trivial | exact rfl | refine ⟨?_, ?_⟩)) (Wk.of ?_); (try simp (etaStruct := .none) only [push_cast, DrawG, Int.cast_ofNat_Int, Nat.reduceAdd, Nat.reduceSub, Nat.reduceMul, reduceCtorEq, reduceIte, Nat.reduceEqDiff, Nat.reduceLT, Nat.reduceLeDiff, Nat.reduceBEq, Int.reduceToNat, Int.reduceLE, Int.reduceLT]); first | done | (simp [*]; done) | (simp_all []; done)) | (refine ret0 rfl (by repeat' (first | exact trivial | exact rfl | refine ⟨?_, ?_⟩)) ?_; (try simp (etaStruct := .none) only [push_cast, DrawG, Int.cast_ofNat_Int, Nat.reduceAdd, Nat.reduceSub, Nat.reduceMul, reduceCtorEq, reduceIte, Nat.reduceEqDiff, Nat.reduceLT, Nat.reduceLeDiff, Nat.reduceBEq, Int.reduceToNat, Int.reduceLE, Int.reduceLT]); (try simp [*]); (try (first | exact Wk.refl _ | exact Wk.nil _ | (refine Wk.tup ?_; repeat' (first | exact trivial | exact Wk.refl _ | exact Wk.nil _ | refine ⟨?_, ?_⟩ | (refine Wk.agg ?_)))))))
  · (try simp only [decide_eq_true_eq, decide_eq_false_iff_not, Bool.not_eq_true', Bool.not_eq_false', Bool.or_eq_true, Bool.and_eq_true, Bool.or_eq_false_iff, Bool.and_eq_false_iff, Int.not_lt, Int.not_le, Bool.not_true, Bool.not_false, not_and, not_or] at h1)
    have hin : inF f c = true := by
      cases hc : inF f c with
      | true => rfl
      | false => rw [hc] at h1; simp at h1
    rw [if_pos hin]
    (try simp (etaStruct := .none) only [push_cast, DrawG, Int.cast_ofNat_Int, Nat.reduceAdd, Nat.reduceSub, Nat.reduceMul, reduceCtorEq, reduceIte, Nat.reduceEqDiff, Nat.reduceLT, Nat.reduceLeDiff, Nat.reduceBEq, Int.reduceToNat, Int.reduceLE, Int.reduceLT]); (try simp (disch := omega) only [wrap_in, wk_self, Int.tdiv_eq_ediv_of_nonneg, Int.tmod_eq_emod_of_nonneg]); (repeat with_reducible refine obA ?_)
    refine callP (cost_s (placeV f c)) (WkL.refl _) ?_
    have hpl := hfo.2.2.2 _ (getD_mem f.p _ (show (c.y * f.w + c.x).toNat < f.p.length by have := place_ix hf hin; omega))
    have hcv := costV_ok (q := placeV f c) hpl
    have e : costC f c = if placeV f c = 1 then (0, false) else (kV (placeV f c), true) := by unfold costC; rw [if_pos hin]
    have e3 : (costC f c).1 = (costV (placeV f c)).1 ∧ (costC f c).2 = decide ((costV (placeV f c)).2 = 0) := by
      rw [e]
      rcases hcv with h | h
      · rw [if_pos h.1, h.2]; exact ⟨rfl, rfl⟩
      · rw [if_neg h.1, h.2]; exact ⟨rfl, rfl⟩
    rw [e3.1, e3.2]
    (try simp (etaStruct := .none) only [push_cast, DrawG, Int.cast_ofNat_Int, Nat.reduceAdd, Nat.reduceSub, Nat.reduceMul, reduceCtorEq, reduceIte, Nat.reduceEqDiff, Nat.reduceLT, Nat.reduceLeDiff, Nat.reduceBEq, Int.reduceToNat, Int.reduceLE, Int.reduceLT]); (try simp (disch := omega) only [wrap_in, wk_self, Int.tdiv_eq_ediv_of_nonneg, Int.tmod_eq_emod_of_nonneg]); (repeat with_reducible refine obA ?_)
    (first | (refine ret0 rfl (by repeat' (first | exact trivial | exact rfl | refine ⟨?_, ?_⟩)) (Wk.of ?_); (try simp (etaStruct := .none) only [push_cast, DrawG, Int.cast_ofNat_Int, Nat.reduceAdd, Nat.reduceSub, Nat.reduceMul, reduceCtorEq, reduceIte, Nat.reduceEqDiff, Nat.reduceLT, Nat.reduceLeDiff, Nat.reduceBEq, Int.reduceToNat, Int.reduceLE, Int.reduceLT]); first | done | (simp [*]; done) | (simp_all []; done)) | (refine ret0 rfl (by repeat' (first | exact trivial | exact rfl | refine ⟨?_, ?_⟩)) ?_; (try simp (etaStruct := .none) only [push_cast, DrawG, Int.cast_ofNat_Int, Nat.reduceAdd, Nat.reduceSub, Nat.reduceMul, reduceCtorEq, reduceIte, Nat.reduceEqDiff, Nat.reduceLT, Nat.reduceLeDiff, Nat.reduceBEq, Int.reduceToNat, Int.reduceLE, Int.reduceLT]); (try simp [*]); (try (first | exact Wk.refl _ | exact Wk.nil _ | (refine Wk.tup ?_; repeat' (first | exact trivial | exact Wk.refl _ | exact Wk.nil _ | refine ⟨?_, ?_⟩ | (refine Wk.agg ?_)))))))
theorem psides_s (c : Cel) (hx : -1000000 ≤ c.x ∧ c.x ≤ 1000000) (hy : -1000000 ≤ c.y ∧ c.y ≤ 1000000) : Spec Try.prog 110 [celA c] [] (.agg [I .i64 c.x, I .i64 (c.y - 1), I .i64 (c.x - 1), I .i64 c.y, I .i64 (c.x + 1), I .i64 c.y, I .i64 c.x, I .i64 (c.y + 1)]) [] := by
  refine spec_am Try.func110 rfl rfl mix 28 rfl [.cell 2 189] Try.results110 (Nat.le_of_ble_eq_true rfl) ?_
  (try simp (etaStruct := .none) only [push_cast, DrawG, Int.cast_ofNat_Int, Nat.reduceAdd, Nat.reduceSub, Nat.reduceMul, reduceCtorEq, reduceIte, Nat.reduceEqDiff, Nat.reduceLT, Nat.reduceLeDiff, Nat.reduceBEq, Int.reduceToNat, Int.reduceLE, Int.reduceLT]); (try simp (disch := omega) only [wrap_in, wk_self, Int.tdiv_eq_ediv_of_nonneg, Int.tmod_eq_emod_of_nonneg]); (repeat with_reducible refine obA ?_)
  (first | (refine ret0 rfl (by repeat' (first | exact trivial | exact rfl | refine ⟨?_, ?_⟩)) (Wk.of ?_); (try simp (etaStruct := .none) only [push_cast, DrawG, Int.cast_ofNat_Int, Nat.reduceAdd, Nat.reduceSub, Nat.reduceMul, reduceCtorEq, reduceIte, Nat.reduceEqDiff, Nat.reduceLT, Nat.reduceLeDiff, Nat.reduceBEq, Int.reduceToNat, Int.reduceLE, Int.reduceLT]); first | done | (simp [*]; done) | (simp_all []; done)) | (refine ret0 rfl (by repeat' (first | exact trivial | exact rfl | refine ⟨?_, ?_⟩)) ?_; (try simp (etaStruct := .none) only [push_cast, DrawG, Int.cast_ofNat_Int, Nat.reduceAdd, Nat.reduceSub, Nat.reduceMul, reduceCtorEq, reduceIte, Nat.reduceEqDiff, Nat.reduceLT, Nat.reduceLeDiff, Nat.reduceBEq, Int.reduceToNat, Int.reduceLE, Int.reduceLT]); (try simp [*]); (try (first | exact Wk.refl _ | exact Wk.nil _ | (refine Wk.tup ?_; repeat' (first | exact trivial | exact Wk.refl _ | exact Wk.nil _ | refine ⟨?_, ?_⟩ | (refine Wk.agg ?_)))))))
def leftH (b c : Cel) : Int := 2 * (((b.x - c.x).natAbs + (b.y - c.y).natAbs : Nat) : Int)
end Go.Proofs.Ytehcnnodkhcgfaa
namespace Go.Proofs.Ytehcnnodkhcgfaa
set_option linter.all false
open Go.RowKit
set_option maxRecDepth 100000
def lk (f : Fld) (b : Cel) (far : List Int) (d : Int) (q : List Nod) (c : Cel) : List Nod := if (costC f c).2 = true ∧ far.getD (idxN f c) default < 0 then hpush Nod.all q ⟨c, d + (costC f c).1, d + (costC f c).1 + leftH b c⟩ else q
def lookF (f : Fld) (b : Cel) (far : List Int) (d : Int) (q : List Nod) (l : List Cel) : List Nod := l.foldl (lk f b far d) q
theorem lookF_snoc (f : Fld) (b : Cel) (far : List Int) (d : Int) (q : List Nod) (l : List Cel) (c : Cel) : lookF f b far d q (l ++ [c]) = lk f b far d (lookF f b far d q l) c := by unfold lookF; rw [List.foldl_append]; rfl
theorem lk_len (f : Fld) (b : Cel) (far : List Int) (d : Int) (q : List Nod) (c : Cel) : (lk f b far d q c).length ≤ q.length + 1 := by
  unfold lk; split
  · rw [hpush_len]; exact Nat.le_refl _
  · omega
theorem lookF_len (f : Fld) (b : Cel) (far : List Int) (d : Int) (l : List Cel) : ∀ q : List Nod, (lookF f b far d q l).length ≤ q.length + l.length := by
  induction l with
  | nil => intro q; exact Nat.le_refl _
  | cons c r ih => intro q; have h1 := ih (lk f b far d q c); have h2 := lk_len f b far d q c; simp only [lookF, List.foldl_cons, List.length_cons] at *; omega
def goB (f : Fld) (b : Cel) (far : List Int) (q : List Nod) : Prop := 0 < q.length ∧ (far.getD (idxN f b) default < 0 ∨ (q.getD 0 default).all ≤ far.getD (idxN f b) default)
def runF (f : Fld) (b : Cel) : Nat → List Int → List Nod → List Int × List Nod
  | 0, far, q => (far, q)
  | N + 1, far, q => if 0 < q.length ∧ (far.getD (idxN f b) default < 0 ∨ (q.getD 0 default).all ≤ far.getD (idxN f b) default) then
      (if 0 ≤ far.getD (idxN f (q.getD 0 default).c) default then runF f b N far (hpop Nod.all q)
       else runF f b N (far.set (idxN f (q.getD 0 default).c) (q.getD 0 default).far) (lookF f b (far.set (idxN f (q.getD 0 default).c) (q.getD 0 default).far) (q.getD 0 default).far (hpop Nod.all q) (sidesC (q.getD 0 default).c)))
    else (far, q)
section
variable {f : Fld} {W H : Nat}
theorem celW_in (hw : f.w = (W : Int)) (hh : f.h = (H : Int)) (hW : 0 < W) {p : Nat} (hp : p < W * H) : inF f (celW W p) = true ∧ idxN f (celW W p) = p := by
  have h1 := Nat.div_add_mod p W
  have h2 := Nat.mod_lt p hW
  have h3 : p / W < H := by rw [Nat.div_lt_iff_lt_mul hW, Nat.mul_comm]; exact hp
  unfold celW idxN
  refine ⟨inF_iff.2 ⟨⟨Int.natCast_nonneg _, by simp only; rw [hw]; exact Int.ofNat_lt.2 h2⟩, Int.natCast_nonneg _, by simp only; rw [hh]; exact Int.ofNat_lt.2 h3⟩, ?_⟩
  simp only
  rw [hw, show ((p / W : Nat) : Int) * (W : Int) = ((W * (p / W) : Nat) : Int) from by rw [Nat.mul_comm, Int.natCast_mul]]
  omega
theorem in_celW (hw : f.w = (W : Int)) (hh : f.h = (H : Int)) (hW : 0 < W) (hf : fldE f = 0) {c : Cel} (hc : inF f c = true) : c = celW W (idxN f c) ∧ idxN f c < f.p.length := by
  obtain ⟨i1, i2, i3, i4, i5⟩ := place_ix hf hc
  have hci := inF_iff.1 hc
  obtain ⟨x, hx⟩ : ∃ x : Nat, c.x = (x : Int) := Int.eq_ofNat_of_zero_le hci.1.1
  obtain ⟨y, hy⟩ : ∃ y : Nat, c.y = (y : Int) := Int.eq_ofNat_of_zero_le hci.2.1
  have e : idxN f c = W * y + x := by
    unfold idxN
    rw [hx, hy, hw, show (y : Int) * (W : Int) = ((W * y : Nat) : Int) from by rw [Nat.mul_comm, Int.natCast_mul]]
    omega
  have hxW : x < W := by omega
  refine ⟨?_, by unfold idxN; omega⟩
  rw [e]
  unfold celW
  rw [Nat.mul_add_mod, Nat.mod_eq_of_lt hxW, Nat.mul_add_div hW, Nat.div_eq_of_lt hxW, Nat.add_zero, ← hx, ← hy]
theorem hh_cons (hw : f.w = (W : Int)) (hh : f.h = (H : Int)) (hW : 0 < W) (b : Cel) : Cons W (W * H) fun p => leftH b (celW W p) := by
  intro p n hp hn ha
  have key : ∀ c c' : Cel, (c.x = c'.x ∧ (c.y = c'.y + 1 ∨ c'.y = c.y + 1)) ∨ (c.y = c'.y ∧ (c.x = c'.x + 1 ∨ c'.x = c.x + 1)) → leftH b c ≤ leftH b c' + 2 := by
    intro c c' h; unfold leftH; omega
  refine key _ _ ?_
  have h1 := Nat.div_add_mod p W
  have h2 := Nat.div_add_mod n W
  have m1 := Nat.mod_lt p hW
  have m2 := Nat.mod_lt n hW
  unfold celW
  simp only
  have up : ∀ m : Nat, (m + W) % W = m % W ∧ (m + W) / W = m / W + 1 := fun m => ⟨Nat.add_mod_right m W, Nat.add_div_right m hW⟩
  have side : ∀ m : Nat, 0 < (m + 1) % W → (m + 1) % W = m % W + 1 ∧ (m + 1) / W = m / W := fun m h => by
    have hs := succ_mod hW m
    have hl := Nat.mod_lt m hW
    have hd := Nat.div_add_mod m W
    split at hs
    · omega
    · rename_i hne
      refine ⟨hs, ?_⟩
      have hlt : m % W + 1 < W := by omega
      have : m + 1 = W * (m / W) + (m % W + 1) := by rw [← Nat.add_assoc, Nat.div_add_mod]
      rw [this, Nat.mul_add_div hW, Nat.div_eq_of_lt hlt, Nat.add_zero]
  rcases ha with h | ⟨h, h'⟩ | ⟨h, h'⟩ | h
  · obtain ⟨u1, u2⟩ := up n; rw [h] at u1 u2; exact .inl ⟨by omega, .inl (by omega)⟩
  · obtain ⟨u1, u2⟩ := side n (by rw [h]; exact h'); rw [h] at u1 u2; exact .inr ⟨by omega, .inl (by omega)⟩
  · obtain ⟨u1, u2⟩ := side p (by rw [h]; exact h'); rw [h] at u1 u2; exact .inr ⟨by omega, .inr (by omega)⟩
  · obtain ⟨u1, u2⟩ := up p; rw [h] at u1 u2; exact .inl ⟨by omega, .inr (by omega)⟩
theorem look_step (hw : f.w = (W : Int)) (hh : f.h = (H : Int)) (hW : 0 < W) (hf : fldE f = 0) (hL : f.p.length = W * H) (b : Cel) {a p : Nat} {far : List Int} {q : List Nod} {done : Nat → Nat → Prop} {d : Int} (h : As W f.p a (fun n => leftH b (celW W n)) far q done) (hp : p < f.p.length) (hd : far.getD p default = d) (h0 : 0 ≤ d)
    (top : ∀ m, m < f.p.length → 0 ≤ far.getD m default → far.getD m default + leftH b (celW W m) ≤ d + leftH b (celW W p)) (hb : d + 3 ≤ 3 * sumL one0 far) (c : Cel) (hc : inF f c = true → Adj W p (idxN f c)) :
    As W f.p a (fun n => leftH b (celW W n)) far (lk f b far d q c) fun x n => done x n ∨ (x = p ∧ inF f c = true ∧ n = idxN f c) := by
  have hcons := hh_cons hw hh hW b
  rw [← hL] at hcons
  cases hin : inF f c with
  | false =>
    have e : lk f b far d q c = q := by unfold lk costC; rw [if_neg (by rw [hin]; simp)]
    rw [e]
    refine ⟨h.len, h.low, h.heap, h.itm, h.src, h.why, h.top, fun u v h1 h2 h3 h4 => h.all u v h1 h2 h3 ?_⟩
    rcases h4 with h4 | h4
    · exact h4
    · exact absurd h4.2.1 (by decide)
  | true =>
    obtain ⟨e1, e2⟩ := in_celW hw hh hW hf hin
    have epl : placeV f c = f.p.getD (idxN f c) default := rfl
    refine h.look hcons (n := idxN f c) e2 hp (hc hin) (by rw [hd]; exact h0) (fun m h1 h2 => by rw [hd]; exact top m h1 h2) (by rw [hd]; exact hb) _ (fun x y h4 => by
      rcases h4 with h4 | h4
      · exact .inl h4
      · exact .inr ⟨h4.1, h4.2.2⟩) ?_
    unfold lk costC
    rw [if_pos hin, epl, hd]
    by_cases hr : f.p.getD (idxN f c) default = 1
    · rw [if_pos hr, if_neg (by simp)]
      exact .inl ⟨.inl hr, rfl⟩
    · rw [if_neg hr]
      by_cases hn : far.getD (idxN f c) default < 0
      · rw [if_pos ⟨rfl, hn⟩, ← e1]
        exact .inr ⟨hr, hn, rfl⟩
      · rw [if_neg (fun h => hn h.2)]
        exact .inl ⟨.inr (by omega), rfl⟩
theorem sides_adj (hw : f.w = (W : Int)) (hh : f.h = (H : Int)) (hW : 0 < W) {p : Nat} (hp : p < W * H) {c : Cel} (hc : c ∈ sidesC (celW W p)) (hin : inF f c = true) : Adj W p (idxN f c) := by
  obtain ⟨bm, _⟩ := besideC_ok f hw hh hW hp
  have : idxN f c ∈ besideN W H p := by rw [← bm]; exact List.mem_map_of_mem (List.mem_filter.2 ⟨hc, hin⟩)
  exact ((mem_beside hW hp).1 this).2
theorem adj_sides (hw : f.w = (W : Int)) (hh : f.h = (H : Int)) (hW : 0 < W) {p n : Nat} (hp : p < W * H) (hn : n < W * H) (ha : Adj W p n) : ∃ c ∈ sidesC (celW W p), inF f c = true ∧ n = idxN f c := by
  obtain ⟨bm, _⟩ := besideC_ok f hw hh hW hp
  have := (mem_beside hW hp).2 ⟨hn, ha⟩
  rw [← bm] at this
  obtain ⟨c, hc, e⟩ := List.mem_map.1 this
  obtain ⟨h1, h2⟩ := List.mem_filter.1 hc
  exact ⟨c, h1, h2, e.symm⟩
def doneK (f : Fld) (W p k : Nat) (x n : Nat) : Prop := x ≠ p ∨ ∃ c ∈ (sidesC (celW W p)).take k, inF f c = true ∧ n = idxN f c
theorem look_k (hw : f.w = (W : Int)) (hh : f.h = (H : Int)) (hW : 0 < W) (hf : fldE f = 0) (hL : f.p.length = W * H) (b : Cel) {a p : Nat} {far : List Int} {q : List Nod} {d : Int} (h : As W f.p a (fun n => leftH b (celW W n)) far q (fun x _ => x ≠ p)) (hp : p < f.p.length) (hd : far.getD p default = d) (h0 : 0 ≤ d)
    (top : ∀ m, m < f.p.length → 0 ≤ far.getD m default → far.getD m default + leftH b (celW W m) ≤ d + leftH b (celW W p)) (hb : d + 3 ≤ 3 * sumL one0 far) : ∀ k, k ≤ 4 → As W f.p a (fun n => leftH b (celW W n)) far (lookF f b far d q ((sidesC (celW W p)).take k)) (doneK f W p k) := by
  intro k
  induction k with
  | zero =>
    intro _
    refine ⟨h.len, h.low, h.heap, h.itm, h.src, h.why, h.top, fun u v h1 h2 h3 h4 => h.all u v h1 h2 h3 ?_⟩
    rcases h4 with h4 | ⟨c, hc, _⟩
    · exact h4
    · simp at hc
  | succ k ih =>
    intro hk
    have hlt : k < (sidesC (celW W p)).length := by rw [show (sidesC (celW W p)).length = 4 from rfl]; omega
    rw [take_snoc _ _ hlt, lookF_snoc]
    have := look_step hw hh hW hf hL b (ih (by omega)) hp hd h0 top hb ((sidesC (celW W p)).getD k default) (fun hin => sides_adj hw hh hW (by omega) (getD_mem _ _ hlt) hin)
    refine ⟨this.len, this.low, this.heap, this.itm, this.src, this.why, this.top, fun u v h1 h2 h3 h4 => this.all u v h1 h2 h3 ?_⟩
    rcases h4 with h4 | ⟨c, hc, h5, h6⟩
    · exact .inl (.inl h4)
    · rw [take_snoc _ _ hlt, List.mem_append, List.mem_singleton] at hc
      by_cases hu : u = p
      · rcases hc with hc | hc
        · exact .inl (.inr ⟨c, hc, h5, h6⟩)
        · subst hc; exact .inr ⟨hu, h5, h6⟩
      · exact .inl (.inl hu)
theorem look_all (hw : f.w = (W : Int)) (hh : f.h = (H : Int)) (hW : 0 < W) (hL : f.p.length = W * H) {a p : Nat} {hf2 : Nat → Int} {far : List Int} {q : List Nod} (hp : p < f.p.length) (h : As W f.p a hf2 far q (doneK f W p 4)) : As W f.p a hf2 far q fun _ _ => True := by
  refine ⟨h.len, h.low, h.heap, h.itm, h.src, h.why, h.top, fun u v h1 h2 h3 _ => h.all u v h1 h2 h3 ?_⟩
  by_cases hu : u = p
  · subst hu; exact .inr (adj_sides hw hh hW (by omega) (by omega) h3)
  · exact .inl hu
end
def muS (f : Fld) (far : List Int) (q : List Nod) : Nat := 5 * (f.p.length - sumL one0 far) + q.length
section
variable {f : Fld} {W H : Nat}
theorem close_ok (hw : f.w = (W : Int)) (hh : f.h = (H : Int)) (hW : 0 < W) (hf : fldE f = 0) (hL : f.p.length = W * H) (b : Cel) {a : Nat} {far : List Int} {q : List Nod} (h : As W f.p a (fun n => leftH b (celW W n)) far q fun _ _ => True) (hq : 0 < q.length) (h0 : far.getD (idxN f (q.getD 0 default).c) default < 0) :
    ∃ p, (q.getD 0 default).c = celW W p ∧ idxN f (q.getD 0 default).c = p ∧ p < f.p.length ∧ 0 ≤ (q.getD 0 default).far ∧ As W f.p a (fun n => leftH b (celW W n)) (far.set p (q.getD 0 default).far) (hpop Nod.all q) (fun x _ => x ≠ p) ∧ (far.set p (q.getD 0 default).far).getD p default = (q.getD 0 default).far ∧ sumL one0 (far.set p (q.getD 0 default).far) = sumL one0 far + 1 ∧
      (∀ m, m < f.p.length → 0 ≤ (far.set p (q.getD 0 default).far).getD m default → (far.set p (q.getD 0 default).far).getD m default + leftH b (celW W m) ≤ (q.getD 0 default).far + leftH b (celW W p)) ∧ (q.getD 0 default).far + 3 ≤ 3 * sumL one0 (far.set p (q.getD 0 default).far) := by
  obtain ⟨p, e1, hp, j0, jb, ja, jm, jw⟩ := h.itm _ ((hpop_mem Nod.all q hq _).2 (.inl rfl))
  have hidx : idxN f (q.getD 0 default).c = p := by rw [e1]; exact (celW_in hw hh hW (by omega)).2
  rw [hidx] at h0
  obtain ⟨_, hA⟩ := h.close hW hq e1 h0
  have hpL : p < far.length := by rw [h.len]; exact hp
  have G := fun k => set_get (q.getD 0 default).far k hpL
  have cnt : sumL one0 (far.set p (q.getD 0 default).far) = sumL one0 far + 1 := by
    have := sumL_set one0 far p (q.getD 0 default).far hpL
    simp only [one0, if_neg (show ¬ 0 ≤ far.getD p default by omega), if_pos j0] at this; simpa [one0] using this
  refine ⟨p, e1, hidx, hp, j0, hA, by rw [G, if_pos rfl], cnt, fun m hm hm0 => ?_, by rw [cnt]; omega⟩
  rw [G] at hm0 ⊢
  split
  · rename_i e; subst e; exact Int.le_refl _
  · rename_i e
    rw [if_neg e] at hm0
    have := jm m hm hm0
    omega
theorem run_ok (hw : f.w = (W : Int)) (hh : f.h = (H : Int)) (hW : 0 < W) (hf : fldE f = 0) (hL : f.p.length = W * H) (b : Cel) {a : Nat} : ∀ (N : Nat) (far : List Int) (q : List Nod), As W f.p a (fun n => leftH b (celW W n)) far q (fun _ _ => True) → muS f far q ≤ N →
    As W f.p a (fun n => leftH b (celW W n)) (runF f b N far q).1 (runF f b N far q).2 (fun _ _ => True) ∧ ¬ goB f b (runF f b N far q).1 (runF f b N far q).2 := by
  intro N
  induction N with
  | zero =>
    intro far q h hm
    refine ⟨h, fun hg => ?_⟩
    have := hg.1
    simp only [runF] at this
    unfold muS at hm; omega
  | succ N ih =>
    intro far q h hm
    rw [runF]
    split
    · rename_i hg
      have hcl := sumL_le one0 1 one0_le far
      rw [h.len] at hcl
      split
      · rename_i h0
        obtain ⟨p, e1, hp, _⟩ := h.itm _ ((hpop_mem Nod.all q hg.1 _).2 (.inl rfl))
        have hidx : idxN f (q.getD 0 default).c = p := by rw [e1]; exact (celW_in hw hh hW (by omega)).2
        rw [hidx] at h0
        exact ih _ _ (h.skip hg.1 e1 h0) (by unfold muS at *; rw [hpop_len]; omega)
      · rename_i h0
        obtain ⟨p, e1, hidx, hp, j0, hA, hself, cnt, top, hb⟩ := close_ok hw hh hW hf hL b h hg.1 (by omega)
        have h4 := look_k hw hh hW hf hL b hA hp hself j0 top hb 4 (Nat.le_refl _)
        rw [show (sidesC (celW W p)).take 4 = sidesC (celW W p) from rfl] at h4
        have h5 := look_all hw hh hW hL hp h4
        rw [hidx, e1]
        refine ih _ _ h5 ?_
        have hll := lookF_len f b (far.set p (q.getD 0 default).far) (q.getD 0 default).far (sidesC (celW W p)) (hpop Nod.all q)
        have hcl2 := sumL_le one0 1 one0_le (far.set p (q.getD 0 default).far)
        rw [List.length_set, h.len] at hcl2
        rw [hpop_len, show (sidesC (celW W p)).length = 4 from rfl] at hll
        unfold muS at *
        rw [cnt]; omega
    · rename_i hg
      exact ⟨h, hg⟩
end
end Go.Proofs.Ytehcnnodkhcgfaa
namespace Go.Proofs.Ytehcnnodkhcgfaa
set_option linter.all false
open Go.RowKit
set_option maxRecDepth 100000
set_option maxHeartbeats 1000000
theorem ppush_s (f : Fld) (b : Cel) (far : List Int) (l : List Nod) (c : Cel) (d : Int) (hl : l.length ≤ 1000000) (hx : -1000 ≤ c.x ∧ c.x ≤ 1000) (hy : -1000 ≤ c.y ∧ c.y ≤ 1000) (hbx : 0 ≤ b.x ∧ b.x ≤ 40) (hby : 0 ≤ b.y ∧ b.y ≤ 40) (hd : 0 ≤ d ∧ d ≤ 1000000) : Spec Try.prog 193 [.ptr 0 0 0, celA c, I .i64 d] [.blk 194 [I .i64 f.w, I .i64 f.h, .c (.sl 1 (f.p.map i64P)), I .i64 b.x, I .i64 b.y, .own 1, .own 2], .row 3 1 (far.map i64P), .row 323 4 (l.map nodP)] (.tup []) [.blk 194 [I .i64 f.w, I .i64 f.h, .c (.sl 1 (f.p.map i64P)), I .i64 b.x, I .i64 b.y, .own 1, .own 3], .row 3 1 (far.map i64P), .dead, .row 323 4 ((hpush Nod.all l ⟨c, d, d + leftH b c⟩).map nodP)] := by
  have e1 : IntKind.i64.wrap (d + IntKind.i64.wrap (2 * (((b.x - c.x).natAbs + (b.y - c.y).natAbs : Nat) : Int))) = d + leftH b c := by unfold leftH; rw [wrap_in (2 * _) (by omega) (by omega), wrap_in _ (by omega) (by omega)]
  refine spec_am Try.func193 rfl rfl mix 32 rfl [] Try.results193 (Nat.le_of_ble_eq_true rfl) ?_
  (iterate 2 ((try simp (etaStruct := .none) only [push_cast, DrawG, Int.cast_ofNat_Int, Nat.reduceAdd, Nat.reduceSub, Nat.reduceMul, reduceCtorEq, reduceIte, Nat.reduceEqDiff, Nat.reduceLT, Nat.reduceLeDiff, Nat.reduceBEq, Int.reduceToNat, Int.reduceLE, Int.reduceLT, e1]); (try simp (disch := omega) only [wrap_in, wk_self, Int.tdiv_eq_ediv_of_nonneg, Int.tmod_eq_emod_of_nonneg]); (repeat with_reducible refine obA ?_)))
  refine callP (lapart_s c b (by simp [nearB]; omega) (by simp [nearB]; omega)) (WkL.refl _) ?_
  (iterate 2 ((try simp (etaStruct := .none) only [push_cast, DrawG, Int.cast_ofNat_Int, Nat.reduceAdd, Nat.reduceSub, Nat.reduceMul, reduceCtorEq, reduceIte, Nat.reduceEqDiff, Nat.reduceLT, Nat.reduceLeDiff, Nat.reduceBEq, Int.reduceToNat, Int.reduceLE, Int.reduceLT, e1]); (try simp (disch := omega) only [wrap_in, wk_self, Int.tdiv_eq_ediv_of_nonneg, Int.tmod_eq_emod_of_nonneg]); (repeat with_reducible refine obA ?_)))
  (try (refine ⟨by kernel_rfl, ?_⟩))
  (iterate 2 ((try simp (etaStruct := .none) only [push_cast, DrawG, Int.cast_ofNat_Int, Nat.reduceAdd, Nat.reduceSub, Nat.reduceMul, reduceCtorEq, reduceIte, Nat.reduceEqDiff, Nat.reduceLT, Nat.reduceLeDiff, Nat.reduceBEq, Int.reduceToNat, Int.reduceLE, Int.reduceLT, e1]); (try simp (disch := omega) only [wrap_in, wk_self, Int.tdiv_eq_ediv_of_nonneg, Int.tmod_eq_emod_of_nonneg]); (repeat with_reducible refine obA ?_)))
  refine callM [0, 1, 2] (ohpush_s f b far l ⟨c, d, d + leftH b c⟩ hl) (WkL.refl _) rfl (by decide) (by simp [lookC_c, onlyC, memN]) ?_
  (iterate 2 ((try simp (etaStruct := .none) only [push_cast, DrawG, Int.cast_ofNat_Int, Nat.reduceAdd, Nat.reduceSub, Nat.reduceMul, reduceCtorEq, reduceIte, Nat.reduceEqDiff, Nat.reduceLT, Nat.reduceLeDiff, Nat.reduceBEq, Int.reduceToNat, Int.reduceLE, Int.reduceLT, e1]); (try simp (disch := omega) only [wrap_in, wk_self, Int.tdiv_eq_ediv_of_nonneg, Int.tmod_eq_emod_of_nonneg]); (repeat with_reducible refine obA ?_)))
  (try (refine ⟨by kernel_rfl, ?_⟩))
  (iterate 2 ((try simp (etaStruct := .none) only [push_cast, DrawG, Int.cast_ofNat_Int, Nat.reduceAdd, Nat.reduceSub, Nat.reduceMul, reduceCtorEq, reduceIte, Nat.reduceEqDiff, Nat.reduceLT, Nat.reduceLeDiff, Nat.reduceBEq, Int.reduceToNat, Int.reduceLE, Int.reduceLT, e1]); (try simp (disch := omega) only [wrap_in, wk_self, Int.tdiv_eq_ediv_of_nonneg, Int.tmod_eq_emod_of_nonneg]); (repeat with_reducible refine obA ?_)))
  refine retM [0, 1, 2, 104] rfl rfl (by decide) ⟨?_, ?_, ?_, ?_, trivial⟩ trivial ?_ <;> simp (etaStruct := .none) only [push_cast, DrawG, Int.cast_ofNat_Int, Nat.reduceAdd, Nat.reduceSub, Nat.reduceMul, reduceCtorEq, reduceIte, Nat.reduceEqDiff, Nat.reduceLT, Nat.reduceLeDiff, Nat.reduceBEq, Int.reduceToNat, Int.reduceLE, Int.reduceLT]
end Go.Proofs.Ytehcnnodkhcgfaa
namespace Go.Proofs.Ytehcnnodkhcgfaa
set_option linter.all false
open Go.RowKit
set_option maxRecDepth 100000
def nxtP (R : List Int) (f : Fld) (c n : Cel) : Bool := decide (0 ≤ R.getD (idxN f n) default) && decide (R.getD (idxN f n) default + kV (placeV f c) = R.getD (idxN f c) default)
def nxtC (R : List Int) (f : Fld) (c : Cel) : Cel := ((besideC f c).find? (nxtP R f c)).getD default
def wayL (R : List Int) (f : Fld) (a : Cel) : Nat → Cel → List Cel
  | 0, _ => []
  | N + 1, c => if c = a then [] else nxtC R f c :: wayL R f a N (nxtC R f c)
def wayV (R : List Int) (f : Fld) (a b : Cel) : List Cel := (b :: wayL R f a (R.getD (idxN f b) default).toNat b).reverse
def wayE (R : List Int) (f : Fld) (a b : Cel) : Int := if fldE f ≠ 0 then fldE f else if ¬ (inF f a = true ∧ inF f b = true) then 7 else if placeV f a = 1 ∨ placeV f b = 1 then 9 else if R.getD (idxN f b) default < 0 then 6 else 0
theorem besideC_near {f : Fld} {W H : Nat} (hw : f.w = (W : Int)) (hh : f.h = (H : Int)) (hW : 0 < W) (hf : fldE f = 0) (hL : f.p.length = W * H) {c n : Cel} (hc : inF f c = true) (hn : n ∈ besideC f c) : inF f n = true ∧ Adj W (idxN f c) (idxN f n) ∧ idxN f n < f.p.length := by
  obtain ⟨h1, h2⟩ := List.mem_filter.1 hn
  obtain ⟨e1, e2⟩ := in_celW hw hh hW hf hc
  rw [e1] at h1
  exact ⟨h2, sides_adj hw hh hW (by omega) h1 h2, (in_celW hw hh hW hf h2).2⟩
theorem nxt_ex {f : Fld} {W H : Nat} (hw : f.w = (W : Int)) (hh : f.h = (H : Int)) (hW : 0 < W) (hf : fldE f = 0) (hL : f.p.length = W * H) {a c : Cel} {R : List Int} (hR : Flood W f.p [idxN f a] R) (ha : inF f a = true) (hc : inF f c = true) (hca : c ≠ a) (h0 : 0 ≤ R.getD (idxN f c) default) :
    ∃ n ∈ besideC f c, nxtP R f c n = true := by
  obtain ⟨e1, e2⟩ := in_celW hw hh hW hf hc
  rcases hR.why _ e2 h0 with ⟨h1, h2⟩ | ⟨m, hm, hadj, hr, h3, h4⟩
  · rw [List.mem_singleton] at h1
    have := (in_celW hw hh hW hf ha).1
    rw [← h1, ← e1] at this
    exact absurd this.symm hca
  · have hp := hR.all m _ hm e2 hadj.symm h3 hr
    obtain ⟨n, hn, hin, rfl⟩ := adj_sides hw hh hW (by omega) (by omega) hadj
    rw [← e1] at hn
    refine ⟨n, List.mem_filter.2 ⟨hn, hin⟩, ?_⟩
    unfold nxtP
    have epl : placeV f c = f.p.getD (idxN f c) default := rfl
    rw [epl, Bool.and_eq_true, decide_eq_true_eq, decide_eq_true_eq]
    exact ⟨h3, by omega⟩
theorem nxt_ok {f : Fld} {W H : Nat} (hw : f.w = (W : Int)) (hh : f.h = (H : Int)) (hW : 0 < W) (hf : fldE f = 0) (hL : f.p.length = W * H) {a c : Cel} {R : List Int} (hR : Flood W f.p [idxN f a] R) (ha : inF f a = true) (hc : inF f c = true) (hca : c ≠ a) (h0 : 0 ≤ R.getD (idxN f c) default) :
    (besideC f c).find? (nxtP R f c) = some (nxtC R f c) ∧ nxtC R f c ∈ besideC f c ∧ inF f (nxtC R f c) = true ∧ Adj W (idxN f c) (idxN f (nxtC R f c)) ∧ 0 ≤ R.getD (idxN f (nxtC R f c)) default ∧ R.getD (idxN f (nxtC R f c)) default + kV (placeV f c) = R.getD (idxN f c) default := by
  obtain ⟨n, hn, hp⟩ := nxt_ex hw hh hW hf hL hR ha hc hca h0
  cases hfi : (besideC f c).find? (nxtP R f c) with
  | none => exact absurd hp (by simpa using List.find?_eq_none.1 hfi n hn)
  | some m =>
    have e : nxtC R f c = m := by unfold nxtC; rw [hfi]; rfl
    have hm := List.mem_of_find?_eq_some hfi
    have hq := List.find?_some hfi
    unfold nxtP at hq
    rw [Bool.and_eq_true, decide_eq_true_eq, decide_eq_true_eq] at hq
    obtain ⟨b1, b2, _⟩ := besideC_near hw hh hW hf hL hc hm
    rw [e]
    exact ⟨rfl, hm, b1, b2, hq.1, hq.2⟩
theorem prog_ok {f : Fld} {W H : Nat} (hw : f.w = (W : Int)) (hh : f.h = (H : Int)) (hW : 0 < W) (hf : fldE f = 0) (hL : f.p.length = W * H) {a b c : Cel} {R far : List Int} {q : List Nod} (hR : Flood W f.p [idxN f a] R) (ha : inF f a = true) (hpa : placeV f a ≠ 1) (hc : inF f c = true) (h0 : 0 ≤ R.getD (idxN f c) default)
    (hA : As W f.p (idxN f a) (fun n => leftH b (celW W n)) far q fun _ _ => True) (hcb : R.getD (idxN f c) default + leftH b c ≤ R.getD (idxN f b) default) (hq : ∀ x ∈ q, R.getD (idxN f b) default < x.all) (hfc : far.getD (idxN f c) default = R.getD (idxN f c) default) {n : Cel} (hn : n ∈ sidesC c) :
    ((costC f n).2 = true ∧ 0 ≤ far.getD (idxN f n) default ∧ far.getD (idxN f n) default + kV (placeV f c) = far.getD (idxN f c) default) ↔ (inF f n = true ∧ nxtP R f c n = true) := by
  have hcons := hh_cons hw hh hW b
  rw [← hL] at hcons
  have haL := (in_celW hw hh hW hf ha).2
  obtain ⟨ec, hcL⟩ := in_celW hw hh hW hf hc
  have hkv := kV_b (placeV f c)
  have epl : ∀ n, placeV f n = f.p.getD (idxN f n) default := fun _ => rfl
  unfold nxtP costC
  rw [Bool.and_eq_true, decide_eq_true_eq, decide_eq_true_eq, hfc]
  constructor
  · rintro ⟨h1, h2, h3⟩
    have hin : inF f n = true := by
      cases hi : inF f n with
      | true => rfl
      | false => rw [hi] at h1; simp at h1
    have := hA.same hcons haL hR (in_celW hw hh hW hf hin).2 h2
    rw [this] at h2 h3
    exact ⟨hin, h2, h3⟩
  · rintro ⟨hin, h2, h3⟩
    obtain ⟨en, hnL⟩ := in_celW hw hh hW hf hin
    have hadj : Adj W (idxN f c) (idxN f n) := by rw [ec] at hn; exact sides_adj hw hh hW (by omega) hn hin
    have hle := hcons _ _ hnL hcL hadj.symm
    simp only at hle
    rw [← en, ← ec] at hle
    have hk := hA.known hcons haL hR hnL h2 (fun x hx => by have := hq x hx; rw [← en]; omega)
    rw [hk]
    refine ⟨?_, h2, h3⟩
    rw [if_pos hin, if_neg]
    rw [epl]
    rcases hR.why _ hnL h2 with ⟨w1, _⟩ | ⟨_, _, _, hr, _⟩
    · rw [List.mem_singleton] at w1; rw [w1]; exact hpa
    · exact hr
theorem find_sides {f : Fld} {R : List Int} {c : Cel} {p : Cel → Bool} (hp : ∀ n ∈ sidesC c, p n = (inF f n && nxtP R f c n)) : (sidesC c).find? p = (besideC f c).find? (nxtP R f c) := by
  unfold besideC
  rw [List.find?_filter]
  have key : ∀ l : List Cel, (∀ n ∈ l, p n = (inF f n && nxtP R f c n)) → l.find? p = l.find? (fun n => inF f n && nxtP R f c n) := by
    intro l
    induction l with
    | nil => intro _; rfl
    | cons x r ih => intro h; rw [List.find?_cons, List.find?_cons, h x (by simp), ih fun n hn => h n (by simp [hn])]
  have := key _ hp
  simpa using this
end Go.Proofs.Ytehcnnodkhcgfaa
namespace Go.Proofs.Ytehcnnodkhcgfaa
set_option linter.all false
open Go.RowKit
theorem To.moveC {k : Nat} {s : St} (bid j id e sz tt : Nat) (cs : List AV) (xs : List (List PV)) (hc : lookC s.h bid = .blk tt cs) (hj : cs[j]? = some (.own id)) (hr : lookC s.h id = .row e sz xs) :
    ToK k s ⟨s.t, (s.n, .row e sz xs) :: (id, .dead) :: (bid, .blk tt (cs.set j (.own s.n))) :: s.h, s.n + 1⟩ := by
  intro H F β a w hk C
  obtain ⟨bd0, hb1, hb2⟩ := C.m.ch bid (by rw [hc]; simp)
  obtain ⟨bd1, hr1, hr2⟩ := C.m.ch id (by rw [hr]; simp)
  have hbn : bid ≠ s.n := fun h => absurd (C.m.used _ _ hb1) (by rw [h]; exact Nat.lt_irrefl _)
  have hin : id ≠ s.n := fun h => absurd (C.m.used _ _ hr1) (by rw [h]; exact Nat.lt_irrefl _)
  have hbi : bid ≠ id := fun h => by rw [h, hr] at hc; simp at hc
  have hb2' := hb2
  rw [hc] at hb2'
  obtain ⟨q1, q2, g0, vs, q3, q4, q5, q6, q7⟩ := hb2'
  obtain ⟨u, hu, hv⟩ := q6.at j _ hj
  simp only [RelA] at hv
  obtain ⟨_, hone, hv⟩ := hv
  obtain rfl := hv bd1 hr1
  obtain ⟨M, E⟩ := C.m.step (w' := w) (h' := lookC ((s.n, .row e sz xs) :: (id, .dead) :: (bid, .blk tt (cs.set j (.own s.n))) :: s.h)) (β' := updB (updB β id none) s.n (some bd1)) (F' := F) (U' := (· < s.n + 1)) (fun i => i = s.n ∨ i = id ∨ i = bid)
    (fun i hi => by simp only [not_or] at hi; simp [updB, Ne.symm hi.1, Ne.symm hi.2.1]) (fun i hi => by simp only [not_or] at hi; simp [lookC, Ne.symm hi.1, Ne.symm hi.2.1, Ne.symm hi.2.2]) rfl rfl rfl (Nat.le_refl _) (fun _ _ _ => rfl) (fun i hi => Nat.lt_succ_of_lt hi) (fun b hb => hb)
    (fun b hb => ⟨C.m.fin b hb, .inl hb⟩)
    (fun i bd' hi hu hb => by
      rcases hi with rfl | rfl | rfl
      · exact absurd hu (Nat.lt_irrefl _)
      · simp [updB, Ne.symm hin] at hb
      · simpa [updB, Ne.symm hbn, Ne.symm hbi] using hb)
    (fun i bd' hi hb => by
      rcases hi with rfl | rfl | rfl
      · simp only [updB, if_true, Option.some.injEq] at hb
        subst hb
        refine ⟨Nat.lt_succ_self _, fun b hbb => ?_⟩
        obtain ⟨r1, r2, r3⟩ := C.m.off _ _ _ hr1 hbb
        exact ⟨r2, r1, .inr ⟨id, bd1, .inr (.inl rfl), hr1, hbb⟩⟩
      · simp [updB, Ne.symm hin] at hb
      · have hb' : β i = some bd' := by simpa [updB, Ne.symm hbn, Ne.symm hbi] using hb
        refine ⟨Nat.lt_succ_of_lt (C.m.used _ _ hb'), fun b hbb => ?_⟩
        obtain ⟨p1, p2, p3⟩ := C.m.off _ _ _ hb' hbb
        exact ⟨p2, p1, .inr ⟨i, bd', .inr (.inr rfl), hb', hbb⟩⟩)
    (fun i j' bi bj b hi hj' hbi2 hbj h1 h2 => by
      have old : ∀ i' bd', i' = bid → (updB (updB β id none) s.n (some bd1)) i' = some bd' → β bid = some bd' := by
        intro i' bd' h hb; subst h; simpa [updB, Ne.symm hbn, Ne.symm hbi] using hb
      rcases hi with rfl | rfl | rfl <;> rcases hj' with rfl | rfl | rfl
      · rfl
      · simp [updB, Ne.symm hin] at hbj
      · simp only [updB, if_true, Option.some.injEq] at hbi2; subst hbi2
        have := C.m.dis id j' bd1 bj b hr1 (old _ _ rfl hbj) h1 h2
        exact absurd this.symm hbi
      · simp [updB, Ne.symm hin] at hbi2
      · rfl
      · simp [updB, Ne.symm hin] at hbi2
      · simp only [updB, if_true, Option.some.injEq] at hbj; subst hbj
        have := C.m.dis i id bi bd1 b (old _ _ rfl hbi2) hr1 h1 h2
        exact absurd this hbi
      · simp [updB, Ne.symm hin] at hbj
      · rfl)
    (fun E i hi hd => by
      rcases hi with rfl | rfl | rfl
      · refine ⟨bd1, by simp [updB], ?_⟩
        have hr3 := ChOk.mono E (fun g _ => rfl) hr2
        rw [hr] at hr3
        simp only [lookC, if_true]
        exact hr3
      · simp [lookC, Ne.symm hin] at hd
      · refine ⟨bd0, by simpa [updB, Ne.symm hbn, Ne.symm hbi] using hb1, ?_⟩
        have hb3 := ChOk.mono E (fun g _ => rfl) hb2
        rw [hc] at hb3
        simp only [lookC, if_true, Ne.symm hbn, Ne.symm hbi, if_false]
        obtain ⟨q1, q2, g, vs', q3', q4, q5', q6', q7⟩ := hb3
        have hg : g = g0 := by rw [q3] at q3'; exact (Option.some.inj q3').symm
        subst hg
        have hvs : vs' = vs := by rw [q5] at q5'; simpa using q5'.symm
        subst hvs
        refine ⟨by rw [List.length_set]; exact q1, q2, g, vs', q3', q4, q5', RelL.setAt j q6' (fun u hu2 => ?_), q7⟩
        rw [hu] at hu2
        obtain rfl := Option.some.inj hu2
        simp only [RelA]
        refine ⟨Nat.lt_succ_self _, hone, fun bd hb => ?_⟩
        simp only [updB, if_true, Option.some.injEq] at hb
        subst hb; rfl)
  refine ⟨F, _, fun t' => RelA.mono E _ _ (C.t t'), M, C.nt, C.d, C.f, C.g, fun i bd' hi hb => ?_, Nat.le_succ_of_le C.k⟩
  have h1 : s.n ≠ i := by have := C.k; omega
  by_cases h2 : id = i
  · subst h2; simp [updB, h1] at hb
  · exact C.e i bd' hi (by simpa [updB, h1, h2] using hb)
end Go.Proofs.Ytehcnnodkhcgfaa
namespace Go.Proofs.Ytehcnnodkhcgfaa
set_option linter.all false
open Go.RowKit
def endG (ops : Array Oper) (n : Nat) (K : St → Prop) (acc : List (List Nat × List Nat)) (s' : St) : Prop := drawOk ops acc = true ∧ K ⟨s'.t, s'.h, n + 4 * ops.size⟩
theorem drawG_w {P : Program} {nt : Nat} {ops : Array Oper} {K : St → Prop} {t : List (Nat × AV)} {h : List (Nat × Chunk)} {n : Nat} (ds : List (Option Tmp)) (hds : ops.toList.map (fun o : Oper => o.dst) = ds)
    (G : ∀ (O : Array Oper) (l : List Oper) (R : List (List Nat × List Nat) → St → Prop), l = ops.toList → (∀ j : Nat, (O[j]?).bind (fun o : Oper => o.dst) = (ds[j]?).bind id) → R = endG ops n K → drawL P nt O n 0 l [] R ⟨t, h, n⟩) : DrawG P nt ops K ⟨t, h, n⟩ := by
  refine G ops ops.toList _ rfl (fun j => ?_) rfl
  rw [← hds, List.getElem?_map, Array.getElem?_toList]
  cases ops[j]? <;> rfl
theorem peelD {P : Program} {nt : Nat} {O : Array Oper} {n i : Nat} {o : Oper} {r0 : List Oper} {acc : List (List Nat × List Nat)} {R : List (List Nat × List Nat) → St → Prop} {s : St}
    (G : ∀ r, r = r0 → drawL P nt O n i (o :: r) acc R s) : drawL P nt O n i (o :: r0) acc R s := G r0 rfl
theorem endD {P : Program} {nt : Nat} {O : Array Oper} {n i : Nat} {acc : List (List Nat × List Nat)} {R : List (List Nat × List Nat) → St → Prop} {t : List (Nat × AV)} {h : List (Nat × Chunk)} {m : Nat} (G : R acc ⟨t, h, m⟩) : drawL P nt O n i [] acc R ⟨t, h, m⟩ := G
theorem endE {ops : Array Oper} {n : Nat} {K : St → Prop} {acc : List (List Nat × List Nat)} {t : List (Nat × AV)} {h : List (Nat × Chunk)} {m : Nat} (G1 : drawOk ops acc = true) (G2 : K ⟨t, h, n + 4 * ops.size⟩) : endG ops n K acc ⟨t, h, m⟩ := ⟨G1, G2⟩
end Go.Proofs.Ytehcnnodkhcgfaa
namespace Go.Proofs.Ytehcnnodkhcgfaa
set_option linter.all false
open Go.RowKit
set_option maxRecDepth 100000
set_option maxHeartbeats 2000000
def idxG (f : Fld) (c : Cel) : Nat := if inF f c = true then idxN f c else 0
theorem idxG_in {f : Fld} {c : Cel} (h : inF f c = true) : idxG f c = idxN f c := if_pos h
theorem idxG_lt {f : Fld} (hf : fldE f = 0) (c : Cel) : idxG f c < f.p.length := by
  have hfo := fldE_ok hf
  unfold idxG
  split
  · rename_i h
    have := place_ix hf h
    unfold idxN; omega
  · have h1 : 0 < f.w * f.h := Int.mul_pos (by omega) (by omega)
    omega
theorem pindexG_s (f : Fld) (b : Cel) (far : List Int) (q : List Nod) (c : Cel) (hf : fldE f = 0) (hc : (costC f c).2 = true) : Spec Try.prog 111 [.fel 7 [srPV f b far q] 0 0, celA c] [] (I .i64 (idxG f c)) [] := by
  have hin : inF f c = true := by
    cases hi : inF f c with
    | true => rfl
    | false => unfold costC at hc; rw [hi] at hc; simp at hc
  rw [idxG_in hin]; exact pindex_s f b far q c hf hin
theorem sides_cells (c : Cel) (k : Nat) (hk : k < 4) : List.take 2 (List.drop (k * 2) ([I .i64 c.x, I .i64 (c.y - 1), I .i64 (c.x - 1), I .i64 c.y, I .i64 (c.x + 1), I .i64 c.y, I .i64 c.x, I .i64 (c.y + 1)] : List AV)) = [I .i64 ((sidesC c).getD k default).x, I .i64 ((sidesC c).getD k default).y] := by
  have : k = 0 ∨ k = 1 ∨ k = 2 ∨ k = 3 := by omega
  rcases this with rfl | rfl | rfl | rfl <;> rfl
theorem side_near {f : Fld} {c : Cel} (hf : fldE f = 0) (hc : inF f c = true) (k : Nat) (hk : k < 4) : (-1000 ≤ ((sidesC c).getD k default).x ∧ ((sidesC c).getD k default).x ≤ 1000) ∧ -1000 ≤ ((sidesC c).getD k default).y ∧ ((sidesC c).getD k default).y ≤ 1000 := by
  have h1 := inF_iff.1 hc
  have h2 := fldE_ok hf
  have : k = 0 ∨ k = 1 ∨ k = 2 ∨ k = 3 := by omega
  rcases this with rfl | rfl | rfl | rfl <;> simp only [sidesC, List.getD_cons_zero, List.getD_cons_succ] <;> omega
theorem runF_go {f : Fld} {b : Cel} {fr : List Int} {m : List Nod} (h : 0 < m.length ∧ (fr.getD (idxN f b) default < 0 ∨ (m.getD 0 default).all ≤ fr.getD (idxN f b) default)) (M : Nat) : runF f b (M + 1) fr m = if 0 ≤ fr.getD (idxN f (m.getD 0 default).c) default then runF f b M fr (hpop Nod.all m)
    else runF f b M (fr.set (idxN f (m.getD 0 default).c) (m.getD 0 default).far) (lookF f b (fr.set (idxN f (m.getD 0 default).c) (m.getD 0 default).far) (m.getD 0 default).far (hpop Nod.all m) (sidesC (m.getD 0 default).c)) := by
  rw [runF, if_pos h]
theorem runF_no {f : Fld} {b : Cel} {fr : List Int} {m : List Nod} (h : ¬ (0 < m.length ∧ (fr.getD (idxN f b) default < 0 ∨ (m.getD 0 default).all ≤ fr.getD (idxN f b) default))) (M : Nat) : runF f b M fr m = (fr, m) := by
  cases M with
  | zero => rfl
  | succ M => rw [runF, if_neg h]
theorem prun_s (f : Fld) (b : Cel) {W H : Nat} (hw : f.w = (W : Int)) (hh : f.h = (H : Int)) (hW : 0 < W) (hf : fldE f = 0) (hL : f.p.length = W * H) (hb : inF f b = true) (a N : Nat) (far : List Int) (q : List Nod) (hA : As W f.p a (fun n => leftH b (celW W n)) far q (fun _ _ => True)) (hm : muS f far q ≤ N) (hN : N ≤ 100000) : Spec Try.prog 194 [.ptr 0 0 0] [.blk 194 [I .i64 f.w, I .i64 f.h, .c (.sl 1 (f.p.map i64P)), I .i64 b.x, I .i64 b.y, .own 1, .own 2], .row 3 1 (far.map i64P), .row 323 4 (q.map nodP)] (.tup []) [.blk 194 [I .i64 f.w, I .i64 f.h, .c (.sl 1 (f.p.map i64P)), I .i64 b.x, I .i64 b.y, .own 1, .own 3], .row 3 1 ((runF f b N far q).1.map i64P), .dead, .row 323 4 ((runF f b N far q).2.map nodP)] := by
  have hbW : idxN f b < f.p.length := (in_celW hw hh hW hf hb).2
  have hbi := inF_iff.1 hb
  have hfo := fldE_ok hf
  have hpl := (place_ix hf hb).2.2.2.2
  refine spec_am Try.func194 rfl rfl mix 108 rfl [] Try.results194 (Nat.le_of_ble_eq_true rfl) ?_
  (iterate 2 ((try simp (etaStruct := .none) only [push_cast, Int.cast_ofNat_Int, Nat.reduceAdd, Nat.reduceSub, Nat.reduceMul, reduceCtorEq, reduceIte, Nat.reduceEqDiff, Nat.reduceLT, Nat.reduceLeDiff, Nat.reduceBEq, Int.reduceToNat, Int.reduceLE, Int.reduceLT]); (try simp (disch := omega) only [wrap_in, wk_self, Int.tdiv_eq_ediv_of_nonneg, Int.tmod_eq_emod_of_nonneg]); (repeat with_reducible refine obA ?_)))
  refine callB (pindex_s f b far q b hf hb) (WkL.refl _) rfl ?_
  (iterate 2 ((try simp (etaStruct := .none) only [push_cast, Int.cast_ofNat_Int, Nat.reduceAdd, Nat.reduceSub, Nat.reduceMul, reduceCtorEq, reduceIte, Nat.reduceEqDiff, Nat.reduceLT, Nat.reduceLeDiff, Nat.reduceBEq, Int.reduceToNat, Int.reduceLE, Int.reduceLT]); (try simp (disch := omega) only [wrap_in, wk_self, Int.tdiv_eq_ediv_of_nonneg, Int.tmod_eq_emod_of_nonneg]); (repeat with_reducible refine obA ?_)))
  refine loopI (fun x : Nat × List Int × List Nod => ⟨[(2, I .i64 (idxN f b)), (0, .ptr 0 0 0)], [(0, .blk 194 [I .i64 f.w, I .i64 f.h, .c (.sl 1 (f.p.map i64P)), I .i64 b.x, I .i64 b.y, .own 1, .own 3]), (1, .row 3 1 (x.2.1.map i64P)), (2, .dead), (3, .row 323 4 (x.2.2.map nodP))], 4⟩) (fun x : Nat × List Int × List Nod => As W f.p a (fun n => leftH b (celW W n)) x.2.1 x.2.2 (fun _ _ => True) ∧ muS f x.2.1 x.2.2 ≤ x.1 ∧ x.1 ≤ N ∧ runF f b x.1 x.2.1 x.2.2 = runF f b N far q) (fun x : Nat × List Int × List Nod => x.1) ((N, far, q)) (⟨hA, hm, Nat.le_refl _, rfl⟩) ((To.moveC 0 6 2 323 4 194 _ (q.map nodP) rfl rfl rfl).trans (To.mk [0, 1, 2, 3] rfl rfl (by decide) ?_ ?_)) ?_
  · simp (etaStruct := .none) only [push_cast, DrawG, Int.cast_ofNat_Int, Nat.reduceAdd, Nat.reduceSub, Nat.reduceMul, reduceCtorEq, reduceIte, Nat.reduceEqDiff, Nat.reduceLT, Nat.reduceLeDiff, Nat.reduceBEq, Int.reduceToNat, Int.reduceLE, Int.reduceLT, List.set_cons_zero, List.set_cons_succ]
  · simp (etaStruct := .none) only [push_cast, DrawG, Int.cast_ofNat_Int, Nat.reduceAdd, Nat.reduceSub, Nat.reduceMul, reduceCtorEq, reduceIte, Nat.reduceEqDiff, Nat.reduceLT, Nat.reduceLeDiff, Nat.reduceBEq, Int.reduceToNat, Int.reduceLE, Int.reduceLT]
  rintro ⟨M, fr, m⟩ ⟨hA, hm, hMN, hu⟩
  simp only at hA hm hMN hu
  have hbF : idxN f b < fr.length := by rw [hA.len]; exact hbW
  rcases Nat.eq_zero_or_pos m.length with hz | hz
  · obtain rfl := List.length_eq_zero_iff.1 hz
    have e : runF f b M fr [] = (fr, []) := by
      cases M with
      | zero => rfl
      | succ M => rw [runF, if_neg (fun h => by simp at h)]
    simp only [awp, seqK]
    refine drawG_w _ rfl ?_
    intro O l R hl hd hR
    subst hl
    iterate 4 (refine peelD fun r hr => ?_; simp (etaStruct := .none) only [push_cast, DrawG, Int.cast_ofNat_Int, Nat.reduceAdd, Nat.reduceSub, Nat.reduceMul, reduceCtorEq, reduceIte, Nat.reduceEqDiff, Nat.reduceLT, Nat.reduceLeDiff, Nat.reduceBEq, Int.reduceToNat, Int.reduceLE, Int.reduceLT, hd]; subst hr)
    refine peelD fun r hr => ?_
    simp (etaStruct := .none) only [push_cast, DrawG, Int.cast_ofNat_Int, Nat.reduceAdd, Nat.reduceSub, Nat.reduceMul, reduceCtorEq, reduceIte, Nat.reduceEqDiff, Nat.reduceLT, Nat.reduceLeDiff, Nat.reduceBEq, Int.reduceToNat, Int.reduceLE, Int.reduceLT, hd]
    refine callB (olen_s []) (WkL.refl _) rfl ?_
    simp (etaStruct := .none) only [push_cast, DrawG, Int.cast_ofNat_Int, Nat.reduceAdd, Nat.reduceSub, Nat.reduceMul, reduceCtorEq, reduceIte, Nat.reduceEqDiff, Nat.reduceLT, Nat.reduceLeDiff, Nat.reduceBEq, Int.reduceToNat, Int.reduceLE, Int.reduceLT, hd, List.length_nil, Int.ofNat_zero, Int.lt_irrefl]
    subst hr
    iterate 28 (refine peelD fun r hr => ?_; simp (etaStruct := .none) only [push_cast, DrawG, Int.cast_ofNat_Int, Nat.reduceAdd, Nat.reduceSub, Nat.reduceMul, reduceCtorEq, reduceIte, Nat.reduceEqDiff, Nat.reduceLT, Nat.reduceLeDiff, Nat.reduceBEq, Int.reduceToNat, Int.reduceLE, Int.reduceLT, hd, getD_in _ _ _ hbF, i64P, List.length_nil, Int.ofNat_zero, Int.lt_irrefl, id]; (try refine ⟨fun h => absurd h (by decide), ?_⟩); (try refine ⟨fun h => h.elim, ?_⟩); subst hr)
    refine endD ?_
    subst hR
    refine endE (by kernel_rfl) ?_
    simp (etaStruct := .none) only [push_cast, DrawG, Int.cast_ofNat_Int, Nat.reduceAdd, Nat.reduceSub, Nat.reduceMul, reduceCtorEq, reduceIte, Nat.reduceEqDiff, Nat.reduceLT, Nat.reduceLeDiff, Nat.reduceBEq, Int.reduceToNat, Int.reduceLE, Int.reduceLT]
    refine cond_i (fun h1 => ?_) (fun h1 => ?_)
    · exact absurd h1 (by decide)
    · rw [← hu, e]
      (try simp (etaStruct := .none) only [push_cast, DrawG, Int.cast_ofNat_Int, Nat.reduceAdd, Nat.reduceSub, Nat.reduceMul, reduceCtorEq, reduceIte, Nat.reduceEqDiff, Nat.reduceLT, Nat.reduceLeDiff, Nat.reduceBEq, Int.reduceToNat, Int.reduceLE, Int.reduceLT]); (try simp (disch := omega) only [wrap_in, wk_self, Int.tdiv_eq_ediv_of_nonneg, Int.tmod_eq_emod_of_nonneg]); (repeat with_reducible refine obA ?_)
      refine retM [0, 1, 2, 3] rfl rfl (by decide) ⟨?_, ?_, ?_, ?_, trivial⟩ trivial ?_ <;> simp (etaStruct := .none) only [push_cast, DrawG, Int.cast_ofNat_Int, Nat.reduceAdd, Nat.reduceSub, Nat.reduceMul, reduceCtorEq, reduceIte, Nat.reduceEqDiff, Nat.reduceLT, Nat.reduceLeDiff, Nat.reduceBEq, Int.reduceToNat, Int.reduceLE, Int.reduceLT]
  have hzd : (0 < (m.length : Int)) = True := eq_true (by omega)
  have hmu5 : m.length ≤ 100000 := by unfold muS at hm; omega
  (iterate 2 ((try simp (etaStruct := .none) only [push_cast, Int.cast_ofNat_Int, Nat.reduceAdd, Nat.reduceSub, Nat.reduceMul, reduceCtorEq, reduceIte, Nat.reduceEqDiff, Nat.reduceLT, Nat.reduceLeDiff, Nat.reduceBEq, Int.reduceToNat, Int.reduceLE, Int.reduceLT, hzd, getD_in _ _ _ hbF, getD_in _ _ _ hz, i64P, nodP]); (try simp (disch := omega) only [wrap_in, wk_self, Int.tdiv_eq_ediv_of_nonneg, Int.tmod_eq_emod_of_nonneg]); (repeat with_reducible refine obA ?_)))
  refine drawG_w [some 14, some 15, some 16, some 17, some 18, some 19, some 20, some 21, some 22, some 23, some 24, some 25, some 26, some 27, some 28, some 29, some 30, some 31, some 32, some 33, some 34, some 35, some 36, some 37, some 38, some 39, some 40, some 41, some 42, some 43, some 44, some 45, some 46] rfl ?_
  intro Oq lq Rq hlq hdq hRq
  subst hlq
  iterate 4 (refine peelD fun rq hrq => ?_; (iterate 2 ((try simp (etaStruct := .none) only [push_cast, Int.cast_ofNat_Int, Nat.reduceAdd, Nat.reduceSub, Nat.reduceMul, reduceCtorEq, reduceIte, Nat.reduceEqDiff, Nat.reduceLT, Nat.reduceLeDiff, Nat.reduceBEq, Int.reduceToNat, Int.reduceLE, Int.reduceLT, hdq, id, hzd, getD_in _ _ _ hbF, getD_in _ _ _ hz, i64P, nodP]); (try simp (disch := omega) only [wrap_in, wk_self, Int.tdiv_eq_ediv_of_nonneg, Int.tmod_eq_emod_of_nonneg]); (repeat with_reducible refine obA ?_))); subst hrq)
  refine peelD fun rq hrq => ?_
  (iterate 2 ((try simp (etaStruct := .none) only [push_cast, Int.cast_ofNat_Int, Nat.reduceAdd, Nat.reduceSub, Nat.reduceMul, reduceCtorEq, reduceIte, Nat.reduceEqDiff, Nat.reduceLT, Nat.reduceLeDiff, Nat.reduceBEq, Int.reduceToNat, Int.reduceLE, Int.reduceLT, hdq, id, hzd, getD_in _ _ _ hbF, getD_in _ _ _ hz, i64P, nodP]); (try simp (disch := omega) only [wrap_in, wk_self, Int.tdiv_eq_ediv_of_nonneg, Int.tmod_eq_emod_of_nonneg]); (repeat with_reducible refine obA ?_)))
  refine callB (olen_s m) (WkL.refl _) rfl ?_
  (iterate 2 ((try simp (etaStruct := .none) only [push_cast, Int.cast_ofNat_Int, Nat.reduceAdd, Nat.reduceSub, Nat.reduceMul, reduceCtorEq, reduceIte, Nat.reduceEqDiff, Nat.reduceLT, Nat.reduceLeDiff, Nat.reduceBEq, Int.reduceToNat, Int.reduceLE, Int.reduceLT, hdq, id, hzd, getD_in _ _ _ hbF, getD_in _ _ _ hz, i64P, nodP]); (try simp (disch := omega) only [wrap_in, wk_self, Int.tdiv_eq_ediv_of_nonneg, Int.tmod_eq_emod_of_nonneg]); (repeat with_reducible refine obA ?_)))
  subst hrq
  iterate 28 (refine peelD fun rq hrq => ?_; (iterate 2 ((try simp (etaStruct := .none) only [push_cast, Int.cast_ofNat_Int, Nat.reduceAdd, Nat.reduceSub, Nat.reduceMul, reduceCtorEq, reduceIte, Nat.reduceEqDiff, Nat.reduceLT, Nat.reduceLeDiff, Nat.reduceBEq, Int.reduceToNat, Int.reduceLE, Int.reduceLT, hdq, id, hzd, getD_in _ _ _ hbF, getD_in _ _ _ hz, i64P, nodP]); (try simp (disch := omega) only [wrap_in, wk_self, Int.tdiv_eq_ediv_of_nonneg, Int.tmod_eq_emod_of_nonneg]); (repeat with_reducible refine obA ?_))); subst hrq)
  refine endD ?_
  subst hRq
  clear hdq Oq
  refine endE (by kernel_rfl) ?_
  (iterate 2 ((try simp (etaStruct := .none) only [push_cast, Int.cast_ofNat_Int, Nat.reduceAdd, Nat.reduceSub, Nat.reduceMul, reduceCtorEq, reduceIte, Nat.reduceEqDiff, Nat.reduceLT, Nat.reduceLeDiff, Nat.reduceBEq, Int.reduceToNat, Int.reduceLE, Int.reduceLT, hzd, getD_in _ _ _ hbF, getD_in _ _ _ hz, i64P, nodP]); (try simp (disch := omega) only [wrap_in, wk_self, Int.tdiv_eq_ediv_of_nonneg, Int.tmod_eq_emod_of_nonneg]); (repeat with_reducible refine obA ?_)))
  refine cond_i (fun h1 => ?_) (fun h1 => ?_)
  · (try simp only [decide_eq_true_eq, decide_eq_false_iff_not, Bool.not_eq_true', Bool.not_eq_false', Bool.or_eq_true, Bool.and_eq_true, Bool.or_eq_false_iff, Bool.and_eq_false_iff, Int.not_lt, Int.not_le, Bool.not_true, Bool.not_false, not_and, not_or] at h1)
    have hg : goB f b fr m := ⟨hz, h1⟩
    obtain ⟨p, e1, hp, j0, jb, _⟩ := hA.itm _ ((hpop_mem Nod.all m hz _).2 (.inl rfl))
    obtain ⟨hin, hidx⟩ := celW_in (f := f) hw hh hW (p := p) (by omega)
    rw [← e1] at hin hidx
    have hpF : idxN f (m.getD 0 default).c < fr.length := by rw [hidx, hA.len]; exact hp
    have hci := inF_iff.1 hin
    have hcl := sumL_le one0 1 one0_le fr
    rw [hA.len] at hcl
    obtain ⟨M', rfl⟩ : ∃ M', M = M' + 1 := ⟨M - 1, by unfold muS at hm; omega⟩
    have hrun := runF_go hg M'
    (iterate 2 ((try simp (etaStruct := .none) only [push_cast, Int.cast_ofNat_Int, Nat.reduceAdd, Nat.reduceSub, Nat.reduceMul, reduceCtorEq, reduceIte, Nat.reduceEqDiff, Nat.reduceLT, Nat.reduceLeDiff, Nat.reduceBEq, Int.reduceToNat, Int.reduceLE, Int.reduceLT, hzd, getD_in _ _ _ hbF, getD_in _ _ _ hz, i64P, nodP, getD_in _ _ _ hpF]); (try simp (disch := omega) only [wrap_in, wk_self, Int.tdiv_eq_ediv_of_nonneg, Int.tmod_eq_emod_of_nonneg]); (repeat with_reducible refine obA ?_)))
    refine callM [0, 1, 3] (ohpop_s f b fr m hz (by omega)) (WkL.refl _) rfl (by decide) (by simp [lookC_c]) ?_
    (iterate 2 ((try simp (etaStruct := .none) only [push_cast, Int.cast_ofNat_Int, Nat.reduceAdd, Nat.reduceSub, Nat.reduceMul, reduceCtorEq, reduceIte, Nat.reduceEqDiff, Nat.reduceLT, Nat.reduceLeDiff, Nat.reduceBEq, Int.reduceToNat, Int.reduceLE, Int.reduceLT, hzd, getD_in _ _ _ hbF, getD_in _ _ _ hz, i64P, nodP, getD_in _ _ _ hpF]); (try simp (disch := omega) only [wrap_in, wk_self, Int.tdiv_eq_ediv_of_nonneg, Int.tmod_eq_emod_of_nonneg]); (repeat with_reducible refine obA ?_)))
    refine drawG_w [some 53, some 54, some 55, some 56, some 57, some 58, some 59, some 60, some 61, some 62, some 63] rfl ?_
    intro Oq lq Rq hlq hdq hRq
    subst hlq
    iterate 7 (refine peelD fun rq hrq => ?_; (iterate 2 ((try simp (etaStruct := .none) only [push_cast, Int.cast_ofNat_Int, Nat.reduceAdd, Nat.reduceSub, Nat.reduceMul, reduceCtorEq, reduceIte, Nat.reduceEqDiff, Nat.reduceLT, Nat.reduceLeDiff, Nat.reduceBEq, Int.reduceToNat, Int.reduceLE, Int.reduceLT, hdq, id, hzd, getD_in _ _ _ hbF, getD_in _ _ _ hz, i64P, nodP, getD_in _ _ _ hpF]); (try simp (disch := omega) only [wrap_in, wk_self, Int.tdiv_eq_ediv_of_nonneg, Int.tmod_eq_emod_of_nonneg]); (repeat with_reducible refine obA ?_))); subst hrq)
    refine peelD fun rq hrq => ?_
    (iterate 2 ((try simp (etaStruct := .none) only [push_cast, Int.cast_ofNat_Int, Nat.reduceAdd, Nat.reduceSub, Nat.reduceMul, reduceCtorEq, reduceIte, Nat.reduceEqDiff, Nat.reduceLT, Nat.reduceLeDiff, Nat.reduceBEq, Int.reduceToNat, Int.reduceLE, Int.reduceLT, hdq, id, hzd, getD_in _ _ _ hbF, getD_in _ _ _ hz, i64P, nodP, getD_in _ _ _ hpF]); (try simp (disch := omega) only [wrap_in, wk_self, Int.tdiv_eq_ediv_of_nonneg, Int.tmod_eq_emod_of_nonneg]); (repeat with_reducible refine obA ?_)))
    refine callB (pindex_s f b fr (hpop Nod.all m) (m.getD 0 default).c hf hin) (WkL.refl _) rfl ?_
    (iterate 2 ((try simp (etaStruct := .none) only [push_cast, Int.cast_ofNat_Int, Nat.reduceAdd, Nat.reduceSub, Nat.reduceMul, reduceCtorEq, reduceIte, Nat.reduceEqDiff, Nat.reduceLT, Nat.reduceLeDiff, Nat.reduceBEq, Int.reduceToNat, Int.reduceLE, Int.reduceLT, hdq, id, hzd, getD_in _ _ _ hbF, getD_in _ _ _ hz, i64P, nodP, getD_in _ _ _ hpF]); (try simp (disch := omega) only [wrap_in, wk_self, Int.tdiv_eq_ediv_of_nonneg, Int.tmod_eq_emod_of_nonneg]); (repeat with_reducible refine obA ?_)))
    subst hrq
    iterate 3 (refine peelD fun rq hrq => ?_; (iterate 2 ((try simp (etaStruct := .none) only [push_cast, Int.cast_ofNat_Int, Nat.reduceAdd, Nat.reduceSub, Nat.reduceMul, reduceCtorEq, reduceIte, Nat.reduceEqDiff, Nat.reduceLT, Nat.reduceLeDiff, Nat.reduceBEq, Int.reduceToNat, Int.reduceLE, Int.reduceLT, hdq, id, hzd, getD_in _ _ _ hbF, getD_in _ _ _ hz, i64P, nodP, getD_in _ _ _ hpF]); (try simp (disch := omega) only [wrap_in, wk_self, Int.tdiv_eq_ediv_of_nonneg, Int.tmod_eq_emod_of_nonneg]); (repeat with_reducible refine obA ?_))); subst hrq)
    refine endD ?_
    subst hRq
    clear hdq Oq
    refine endE (by kernel_rfl) ?_
    (iterate 2 ((try simp (etaStruct := .none) only [push_cast, Int.cast_ofNat_Int, Nat.reduceAdd, Nat.reduceSub, Nat.reduceMul, reduceCtorEq, reduceIte, Nat.reduceEqDiff, Nat.reduceLT, Nat.reduceLeDiff, Nat.reduceBEq, Int.reduceToNat, Int.reduceLE, Int.reduceLT, hzd, getD_in _ _ _ hbF, getD_in _ _ _ hz, i64P, nodP, getD_in _ _ _ hpF]); (try simp (disch := omega) only [wrap_in, wk_self, Int.tdiv_eq_ediv_of_nonneg, Int.tmod_eq_emod_of_nonneg]); (repeat with_reducible refine obA ?_)))
    refine cond_i (fun h2 => ?_) (fun h2 => ?_)
    · (try simp only [decide_eq_true_eq, decide_eq_false_iff_not, Bool.not_eq_true', Bool.not_eq_false', Bool.or_eq_true, Bool.and_eq_true, Bool.or_eq_false_iff, Bool.and_eq_false_iff, Int.not_lt, Int.not_le, Bool.not_true, Bool.not_false, not_and, not_or] at h2)
      skip
      (iterate 2 ((try simp (etaStruct := .none) only [push_cast, Int.cast_ofNat_Int, Nat.reduceAdd, Nat.reduceSub, Nat.reduceMul, reduceCtorEq, reduceIte, Nat.reduceEqDiff, Nat.reduceLT, Nat.reduceLeDiff, Nat.reduceBEq, Int.reduceToNat, Int.reduceLE, Int.reduceLT, hzd, getD_in _ _ _ hbF, getD_in _ _ _ hz, i64P, nodP, getD_in _ _ _ hpF]); (try simp (disch := omega) only [wrap_in, wk_self, Int.tdiv_eq_ediv_of_nonneg, Int.tmod_eq_emod_of_nonneg]); (repeat with_reducible refine obA ?_)))
      refine ⟨(M', fr, hpop Nod.all m), ⟨hA.skip hz e1 (by rw [← hidx]; exact h2), by simp only; unfold muS at hm ⊢; rw [hpop_len]; omega, by simp only; omega, by rw [← hu, hrun, if_pos h2]⟩, by simp only; omega, To.mk [0, 1, 2, 136] rfl rfl (by decide) ?_ ?_⟩
      · (iterate 2 ((try simp (etaStruct := .none) only [push_cast, Int.cast_ofNat_Int, Nat.reduceAdd, Nat.reduceSub, Nat.reduceMul, reduceCtorEq, reduceIte, Nat.reduceEqDiff, Nat.reduceLT, Nat.reduceLeDiff, Nat.reduceBEq, Int.reduceToNat, Int.reduceLE, Int.reduceLT, hzd, getD_in _ _ _ hbF, getD_in _ _ _ hz, i64P, nodP, getD_in _ _ _ hpF]); (try simp (disch := omega) only [wrap_in, wk_self, Int.tdiv_eq_ediv_of_nonneg, Int.tmod_eq_emod_of_nonneg]); (repeat with_reducible refine obA ?_)))
      · (iterate 2 ((try simp (etaStruct := .none) only [push_cast, Int.cast_ofNat_Int, Nat.reduceAdd, Nat.reduceSub, Nat.reduceMul, reduceCtorEq, reduceIte, Nat.reduceEqDiff, Nat.reduceLT, Nat.reduceLeDiff, Nat.reduceBEq, Int.reduceToNat, Int.reduceLE, Int.reduceLT, hzd, getD_in _ _ _ hbF, getD_in _ _ _ hz, i64P, nodP, getD_in _ _ _ hpF]); (try simp (disch := omega) only [wrap_in, wk_self, Int.tdiv_eq_ediv_of_nonneg, Int.tmod_eq_emod_of_nonneg]); (repeat with_reducible refine obA ?_)))
    · (try simp only [decide_eq_true_eq, decide_eq_false_iff_not, Bool.not_eq_true', Bool.not_eq_false', Bool.or_eq_true, Bool.and_eq_true, Bool.or_eq_false_iff, Bool.and_eq_false_iff, Int.not_lt, Int.not_le, Bool.not_true, Bool.not_false, not_and, not_or] at h2)
      obtain ⟨p', e1', _, _, _, hA2, hself, cnt, top, hb3⟩ := close_ok hw hh hW hf hL b hA hz (by omega)
      obtain rfl : p = p' := celW_inj (e1.symm.trans e1')
      obtain ⟨C, hC⟩ : ∃ C, C = (m.getD 0 default).c := ⟨_, rfl⟩
      obtain ⟨D, hD⟩ : ∃ D, D = (m.getD 0 default).far := ⟨_, rfl⟩
      rw [← hidx, ← hC, ← hD] at hA2 hself cnt top hb3
      rw [← hC, ← hD] at hrun
      rw [← hC] at hin hci e1 hidx hpF
      rw [← hD] at j0 jb
      obtain ⟨Fq, hFS⟩ : ∃ Fq, Fq = fr.set (idxN f C) D := ⟨_, rfl⟩
      rw [← hFS] at hA2 hself cnt top hb3 hrun
      have hFl : Fq.length = f.p.length := by rw [hFS, List.length_set]; exact hA.len
      (iterate 2 ((try simp (etaStruct := .none) only [push_cast, Int.cast_ofNat_Int, Nat.reduceAdd, Nat.reduceSub, Nat.reduceMul, reduceCtorEq, reduceIte, Nat.reduceEqDiff, Nat.reduceLT, Nat.reduceLeDiff, Nat.reduceBEq, Int.reduceToNat, Int.reduceLE, Int.reduceLT, hzd, getD_in _ _ _ hbF, getD_in _ _ _ hz, i64P, nodP, getD_in _ _ _ hpF, ← hC, ← hD]); (try simp (disch := omega) only [wrap_in, wk_self, Int.tdiv_eq_ediv_of_nonneg, Int.tmod_eq_emod_of_nonneg]); (repeat with_reducible refine obA ?_)))
      refine drawG_w [some 64, some 65, some 66, some 67, some 68, some 69, some 70, some 71, some 72, some 73, some 74, none] rfl ?_
      intro Oq lq Rq hlq hdq hRq
      subst hlq
      iterate 7 (refine peelD fun rq hrq => ?_; (iterate 2 ((try simp (etaStruct := .none) only [push_cast, Int.cast_ofNat_Int, Nat.reduceAdd, Nat.reduceSub, Nat.reduceMul, reduceCtorEq, reduceIte, Nat.reduceEqDiff, Nat.reduceLT, Nat.reduceLeDiff, Nat.reduceBEq, Int.reduceToNat, Int.reduceLE, Int.reduceLT, hdq, id, hzd, getD_in _ _ _ hbF, getD_in _ _ _ hz, i64P, nodP, getD_in _ _ _ hpF, ← hC, ← hD]); (try simp (disch := omega) only [wrap_in, wk_self, Int.tdiv_eq_ediv_of_nonneg, Int.tmod_eq_emod_of_nonneg]); (repeat with_reducible refine obA ?_))); subst hrq)
      refine peelD fun rq hrq => ?_
      (iterate 2 ((try simp (etaStruct := .none) only [push_cast, Int.cast_ofNat_Int, Nat.reduceAdd, Nat.reduceSub, Nat.reduceMul, reduceCtorEq, reduceIte, Nat.reduceEqDiff, Nat.reduceLT, Nat.reduceLeDiff, Nat.reduceBEq, Int.reduceToNat, Int.reduceLE, Int.reduceLT, hdq, id, hzd, getD_in _ _ _ hbF, getD_in _ _ _ hz, i64P, nodP, getD_in _ _ _ hpF, ← hC, ← hD]); (try simp (disch := omega) only [wrap_in, wk_self, Int.tdiv_eq_ediv_of_nonneg, Int.tmod_eq_emod_of_nonneg]); (repeat with_reducible refine obA ?_)))
      refine callB (pindex_s f b fr (hpop Nod.all m) C hf hin) (WkL.refl _) rfl ?_
      (iterate 2 ((try simp (etaStruct := .none) only [push_cast, Int.cast_ofNat_Int, Nat.reduceAdd, Nat.reduceSub, Nat.reduceMul, reduceCtorEq, reduceIte, Nat.reduceEqDiff, Nat.reduceLT, Nat.reduceLeDiff, Nat.reduceBEq, Int.reduceToNat, Int.reduceLE, Int.reduceLT, hdq, id, hzd, getD_in _ _ _ hbF, getD_in _ _ _ hz, i64P, nodP, getD_in _ _ _ hpF, ← hC, ← hD]); (try simp (disch := omega) only [wrap_in, wk_self, Int.tdiv_eq_ediv_of_nonneg, Int.tmod_eq_emod_of_nonneg]); (repeat with_reducible refine obA ?_)))
      subst hrq
      iterate 4 (refine peelD fun rq hrq => ?_; (iterate 2 ((try simp (etaStruct := .none) only [push_cast, Int.cast_ofNat_Int, Nat.reduceAdd, Nat.reduceSub, Nat.reduceMul, reduceCtorEq, reduceIte, Nat.reduceEqDiff, Nat.reduceLT, Nat.reduceLeDiff, Nat.reduceBEq, Int.reduceToNat, Int.reduceLE, Int.reduceLT, hdq, id, hzd, getD_in _ _ _ hbF, getD_in _ _ _ hz, i64P, nodP, getD_in _ _ _ hpF, ← hC, ← hD]); (try simp (disch := omega) only [wrap_in, wk_self, Int.tdiv_eq_ediv_of_nonneg, Int.tmod_eq_emod_of_nonneg]); (repeat with_reducible refine obA ?_))); subst hrq)
      refine endD ?_
      subst hRq
      clear hdq Oq
      refine endE (by kernel_rfl) ?_
      (iterate 2 ((try simp (etaStruct := .none) only [push_cast, Int.cast_ofNat_Int, Nat.reduceAdd, Nat.reduceSub, Nat.reduceMul, reduceCtorEq, reduceIte, Nat.reduceEqDiff, Nat.reduceLT, Nat.reduceLeDiff, Nat.reduceBEq, Int.reduceToNat, Int.reduceLE, Int.reduceLT, hzd, getD_in _ _ _ hbF, getD_in _ _ _ hz, i64P, nodP, getD_in _ _ _ hpF, ← hC, ← hD]); (try simp (disch := omega) only [wrap_in, wk_self, Int.tdiv_eq_ediv_of_nonneg, Int.tmod_eq_emod_of_nonneg]); (repeat with_reducible refine obA ?_)))
      refine callP (psides_s C (by omega) (by omega)) (WkL.refl _) ?_
      (iterate 2 ((try simp (etaStruct := .none) only [push_cast, Int.cast_ofNat_Int, Nat.reduceAdd, Nat.reduceSub, Nat.reduceMul, reduceCtorEq, reduceIte, Nat.reduceEqDiff, Nat.reduceLT, Nat.reduceLeDiff, Nat.reduceBEq, Int.reduceToNat, Int.reduceLE, Int.reduceLT, hzd, getD_in _ _ _ hbF, getD_in _ _ _ hz, i64P, nodP, getD_in _ _ _ hpF, ← hC, ← hD]); (try simp (disch := omega) only [wrap_in, wk_self, Int.tdiv_eq_ediv_of_nonneg, Int.tmod_eq_emod_of_nonneg]); (repeat with_reducible refine obA ?_)))
      refine loopI (fun k : Nat => ⟨[(78, I .i64 k), (77, .agg [I .i64 C.x, I .i64 (C.y - 1), I .i64 (C.x - 1), I .i64 C.y, I .i64 (C.x + 1), I .i64 C.y, I .i64 C.x, I .i64 (C.y + 1)]), (3, .ptr 4 0 0), (2, I .i64 (idxN f b)), (0, .ptr 0 0 0)], [(0, .blk 194 [I .i64 f.w, I .i64 f.h, .c (.sl 1 (f.p.map i64P)), I .i64 b.x, I .i64 b.y, .own 1, .own 3]), (1, .row 3 1 (Fq.map i64P)), (2, .dead), (3, .row 323 4 ((lookF f b Fq D (hpop Nod.all m) ((sidesC C).take k)).map nodP)), (4, .blk 323 [I .i64 C.x, I .i64 C.y, I .i64 D, I .i64 (m.getD 0 default).all])], 5⟩) (fun k : Nat => k ≤ 4) (fun k : Nat => 4 - k) (0) (Nat.zero_le _) (To.mk [0, 1, 2, 136, 137] rfl rfl (by decide) ?_ ?_) ?_
      · simp (etaStruct := .none) only [push_cast, DrawG, Int.cast_ofNat_Int, Nat.reduceAdd, Nat.reduceSub, Nat.reduceMul, reduceCtorEq, reduceIte, Nat.reduceEqDiff, Nat.reduceLT, Nat.reduceLeDiff, Nat.reduceBEq, Int.reduceToNat, Int.reduceLE, Int.reduceLT, List.map_set, i64P, List.take_zero, lookF, List.foldl_nil, hFS]
      · simp (etaStruct := .none) only [push_cast, DrawG, Int.cast_ofNat_Int, Nat.reduceAdd, Nat.reduceSub, Nat.reduceMul, reduceCtorEq, reduceIte, Nat.reduceEqDiff, Nat.reduceLT, Nat.reduceLeDiff, Nat.reduceBEq, Int.reduceToNat, Int.reduceLE, Int.reduceLT, Int.ofNat_zero]
      rintro k hk2
      (iterate 2 ((try simp (etaStruct := .none) only [push_cast, Int.cast_ofNat_Int, Nat.reduceAdd, Nat.reduceSub, Nat.reduceMul, reduceCtorEq, reduceIte, Nat.reduceEqDiff, Nat.reduceLT, Nat.reduceLeDiff, Nat.reduceBEq, Int.reduceToNat, Int.reduceLE, Int.reduceLT, hzd, getD_in _ _ _ hbF, getD_in _ _ _ hz, i64P, nodP, getD_in _ _ _ hpF, ← hC, ← hD]); (try simp (disch := omega) only [wrap_in, wk_self, Int.tdiv_eq_ediv_of_nonneg, Int.tmod_eq_emod_of_nonneg]); (repeat with_reducible refine obA ?_)))
      refine cond_i (fun h3 => ?_) (fun h3 => ?_)
      · (try simp only [decide_eq_true_eq, decide_eq_false_iff_not, Bool.not_eq_true', Bool.not_eq_false', Bool.or_eq_true, Bool.and_eq_true, Bool.or_eq_false_iff, Bool.and_eq_false_iff, Int.not_lt, Int.not_le, Bool.not_true, Bool.not_false, not_and, not_or] at h3)
        have hlt : k < 4 := by omega
        have hsc := sides_cells C k hlt
        have hsn := side_near hf hin k hlt
        have hst : lookF f b Fq D (hpop Nod.all m) ((sidesC C).take (k + 1)) = lk f b Fq D (lookF f b Fq D (hpop Nod.all m) ((sidesC C).take k)) ((sidesC C).getD k default) := by rw [take_snoc _ _ (show k < (sidesC C).length from hlt), lookF_snoc]
        have hgG : idxG f ((sidesC C).getD k default) < Fq.length := by rw [hFl]; exact idxG_lt hf _
        have hcb : 0 ≤ (costC f ((sidesC C).getD k default)).1 ∧ (costC f ((sidesC C).getD k default)).1 ≤ 3 := by
          have := kV_b (placeV f ((sidesC C).getD k default))
          unfold costC
          split
          · split <;> simp only <;> omega
          · simp only; omega
        have hql : ((lookF f b Fq D (hpop Nod.all m) ((sidesC C).take k))).length ≤ 100004 := by
          have h1 := lookF_len f b Fq D ((sidesC C).take k) (hpop Nod.all m)
          rw [hpop_len, List.length_take] at h1
          omega
        (iterate 2 ((try simp (etaStruct := .none) only [push_cast, Int.cast_ofNat_Int, Nat.reduceAdd, Nat.reduceSub, Nat.reduceMul, reduceCtorEq, reduceIte, Nat.reduceEqDiff, Nat.reduceLT, Nat.reduceLeDiff, Nat.reduceBEq, Int.reduceToNat, Int.reduceLE, Int.reduceLT, hzd, getD_in _ _ _ hbF, getD_in _ _ _ hz, i64P, nodP, getD_in _ _ _ hpF, ← hC, ← hD, hsc, getD_in _ _ _ hgG, i64P]); (try simp (disch := omega) only [wrap_in, wk_self, Int.tdiv_eq_ediv_of_nonneg, Int.tmod_eq_emod_of_nonneg]); (repeat with_reducible refine obA ?_)))
        refine callB (pcost_s f b Fq (lookF f b Fq D (hpop Nod.all m) ((sidesC C).take k)) ((sidesC C).getD k default) hf) (WkL.refl _) rfl ?_
        (iterate 2 ((try simp (etaStruct := .none) only [push_cast, Int.cast_ofNat_Int, Nat.reduceAdd, Nat.reduceSub, Nat.reduceMul, reduceCtorEq, reduceIte, Nat.reduceEqDiff, Nat.reduceLT, Nat.reduceLeDiff, Nat.reduceBEq, Int.reduceToNat, Int.reduceLE, Int.reduceLT, hzd, getD_in _ _ _ hbF, getD_in _ _ _ hz, i64P, nodP, getD_in _ _ _ hpF, ← hC, ← hD, hsc, getD_in _ _ _ hgG, i64P]); (try simp (disch := omega) only [wrap_in, wk_self, Int.tdiv_eq_ediv_of_nonneg, Int.tmod_eq_emod_of_nonneg]); (repeat with_reducible refine obA ?_)))
        refine drawG_w [some 87, some 88, some 89, some 90, some 91, some 92, some 93, some 94, some 95, some 96, some 97, some 98, some 99] rfl ?_
        intro Oq lq Rq hlq hdq hRq
        subst hlq
        iterate 8 (refine peelD fun rq hrq => ?_; (iterate 2 ((try simp (etaStruct := .none) only [push_cast, Int.cast_ofNat_Int, Nat.reduceAdd, Nat.reduceSub, Nat.reduceMul, reduceCtorEq, reduceIte, Nat.reduceEqDiff, Nat.reduceLT, Nat.reduceLeDiff, Nat.reduceBEq, Int.reduceToNat, Int.reduceLE, Int.reduceLT, hdq, id, hzd, getD_in _ _ _ hbF, getD_in _ _ _ hz, i64P, nodP, getD_in _ _ _ hpF, ← hC, ← hD, hsc, getD_in _ _ _ hgG, i64P]); (try simp (disch := omega) only [wrap_in, wk_self, Int.tdiv_eq_ediv_of_nonneg, Int.tmod_eq_emod_of_nonneg]); (repeat with_reducible refine obA ?_))); subst hrq)
        refine peelD fun rq hrq => ?_
        (iterate 2 ((try simp (etaStruct := .none) only [push_cast, Int.cast_ofNat_Int, Nat.reduceAdd, Nat.reduceSub, Nat.reduceMul, reduceCtorEq, reduceIte, Nat.reduceEqDiff, Nat.reduceLT, Nat.reduceLeDiff, Nat.reduceBEq, Int.reduceToNat, Int.reduceLE, Int.reduceLT, hdq, id, hzd, getD_in _ _ _ hbF, getD_in _ _ _ hz, i64P, nodP, getD_in _ _ _ hpF, ← hC, ← hD, hsc, getD_in _ _ _ hgG, i64P]); (try simp (disch := omega) only [wrap_in, wk_self, Int.tdiv_eq_ediv_of_nonneg, Int.tmod_eq_emod_of_nonneg]); (repeat with_reducible refine obA ?_)))
        refine gcallB (fun hcc => pindexG_s f b Fq (lookF f b Fq D (hpop Nod.all m) ((sidesC C).take k)) ((sidesC C).getD k default) hf hcc) (WkL.refl _) rfl (by intro hc; (try simp (etaStruct := .none) only [push_cast, DrawG, Int.cast_ofNat_Int, Nat.reduceAdd, Nat.reduceSub, Nat.reduceMul, reduceCtorEq, reduceIte, Nat.reduceEqDiff, Nat.reduceLT, Nat.reduceLeDiff, Nat.reduceBEq, Int.reduceToNat, Int.reduceLE, Int.reduceLT]); (try simp_all)) ?_
        (iterate 2 ((try simp (etaStruct := .none) only [push_cast, Int.cast_ofNat_Int, Nat.reduceAdd, Nat.reduceSub, Nat.reduceMul, reduceCtorEq, reduceIte, Nat.reduceEqDiff, Nat.reduceLT, Nat.reduceLeDiff, Nat.reduceBEq, Int.reduceToNat, Int.reduceLE, Int.reduceLT, hdq, id, hzd, getD_in _ _ _ hbF, getD_in _ _ _ hz, i64P, nodP, getD_in _ _ _ hpF, ← hC, ← hD, hsc, getD_in _ _ _ hgG, i64P]); (try simp (disch := omega) only [wrap_in, wk_self, Int.tdiv_eq_ediv_of_nonneg, Int.tmod_eq_emod_of_nonneg]); (repeat with_reducible refine obA ?_)))
        subst hrq
        iterate 4 (refine peelD fun rq hrq => ?_; (iterate 2 ((try simp (etaStruct := .none) only [push_cast, Int.cast_ofNat_Int, Nat.reduceAdd, Nat.reduceSub, Nat.reduceMul, reduceCtorEq, reduceIte, Nat.reduceEqDiff, Nat.reduceLT, Nat.reduceLeDiff, Nat.reduceBEq, Int.reduceToNat, Int.reduceLE, Int.reduceLT, hdq, id, hzd, getD_in _ _ _ hbF, getD_in _ _ _ hz, i64P, nodP, getD_in _ _ _ hpF, ← hC, ← hD, hsc, getD_in _ _ _ hgG, i64P]); (try simp (disch := omega) only [wrap_in, wk_self, Int.tdiv_eq_ediv_of_nonneg, Int.tmod_eq_emod_of_nonneg]); (repeat with_reducible refine obA ?_))); subst hrq)
        refine endD ?_
        subst hRq
        clear hdq Oq
        refine endE (by kernel_rfl) ?_
        (iterate 2 ((try simp (etaStruct := .none) only [push_cast, Int.cast_ofNat_Int, Nat.reduceAdd, Nat.reduceSub, Nat.reduceMul, reduceCtorEq, reduceIte, Nat.reduceEqDiff, Nat.reduceLT, Nat.reduceLeDiff, Nat.reduceBEq, Int.reduceToNat, Int.reduceLE, Int.reduceLT, hzd, getD_in _ _ _ hbF, getD_in _ _ _ hz, i64P, nodP, getD_in _ _ _ hpF, ← hC, ← hD, hsc, getD_in _ _ _ hgG, i64P]); (try simp (disch := omega) only [wrap_in, wk_self, Int.tdiv_eq_ediv_of_nonneg, Int.tmod_eq_emod_of_nonneg]); (repeat with_reducible refine obA ?_)))
        refine cond_i (fun h4 => ?_) (fun h4 => ?_)
        · (try simp only [decide_eq_true_eq, decide_eq_false_iff_not, Bool.not_eq_true', Bool.not_eq_false', Bool.or_eq_true, Bool.and_eq_true, Bool.or_eq_false_iff, Bool.and_eq_false_iff, Int.not_lt, Int.not_le, Bool.not_true, Bool.not_false, not_and, not_or] at h4)
          have hin2 : inF f ((sidesC C).getD k default) = true := by
            cases hi : inF f ((sidesC C).getD k default) with
            | true => rfl
            | false => have := h4.1; unfold costC at this; rw [hi] at this; simp at this
          have hlk : lk f b Fq D (lookF f b Fq D (hpop Nod.all m) ((sidesC C).take k)) ((sidesC C).getD k default) = hpush Nod.all (lookF f b Fq D (hpop Nod.all m) ((sidesC C).take k)) ⟨((sidesC C).getD k default), D + (costC f ((sidesC C).getD k default)).1, D + (costC f ((sidesC C).getD k default)).1 + leftH b ((sidesC C).getD k default)⟩ := by unfold lk; rw [if_pos ⟨h4.1, by rw [← idxG_in hin2]; exact h4.2⟩]
          rw [hlk] at hst
          (iterate 2 ((try simp (etaStruct := .none) only [push_cast, Int.cast_ofNat_Int, Nat.reduceAdd, Nat.reduceSub, Nat.reduceMul, reduceCtorEq, reduceIte, Nat.reduceEqDiff, Nat.reduceLT, Nat.reduceLeDiff, Nat.reduceBEq, Int.reduceToNat, Int.reduceLE, Int.reduceLT, hzd, getD_in _ _ _ hbF, getD_in _ _ _ hz, i64P, nodP, getD_in _ _ _ hpF, ← hC, ← hD, hsc, getD_in _ _ _ hgG, i64P, hst]); (try simp (disch := omega) only [wrap_in, wk_self, Int.tdiv_eq_ediv_of_nonneg, Int.tmod_eq_emod_of_nonneg]); (repeat with_reducible refine obA ?_)))
          refine callM [0, 1, 3] (ppush_s f b Fq (lookF f b Fq D (hpop Nod.all m) ((sidesC C).take k)) ((sidesC C).getD k default) (D + (costC f ((sidesC C).getD k default)).1) (by omega) hsn.1 hsn.2 (by omega) (by omega) (by omega)) (WkL.refl _) rfl (by decide) (by simp [lookC_c]) ?_
          (iterate 2 ((try simp (etaStruct := .none) only [push_cast, Int.cast_ofNat_Int, Nat.reduceAdd, Nat.reduceSub, Nat.reduceMul, reduceCtorEq, reduceIte, Nat.reduceEqDiff, Nat.reduceLT, Nat.reduceLeDiff, Nat.reduceBEq, Int.reduceToNat, Int.reduceLE, Int.reduceLT, hzd, getD_in _ _ _ hbF, getD_in _ _ _ hz, i64P, nodP, getD_in _ _ _ hpF, ← hC, ← hD, hsc, getD_in _ _ _ hgG, i64P, hst]); (try simp (disch := omega) only [wrap_in, wk_self, Int.tdiv_eq_ediv_of_nonneg, Int.tmod_eq_emod_of_nonneg]); (repeat with_reducible refine obA ?_)))
          refine ⟨k + 1, by omega, by omega, To.mk [0, 1, 2, 58, 4] rfl rfl (by decide) ?_ ?_⟩
          · (iterate 2 ((try simp (etaStruct := .none) only [push_cast, Int.cast_ofNat_Int, Nat.reduceAdd, Nat.reduceSub, Nat.reduceMul, reduceCtorEq, reduceIte, Nat.reduceEqDiff, Nat.reduceLT, Nat.reduceLeDiff, Nat.reduceBEq, Int.reduceToNat, Int.reduceLE, Int.reduceLT, hzd, getD_in _ _ _ hbF, getD_in _ _ _ hz, i64P, nodP, getD_in _ _ _ hpF, ← hC, ← hD, hsc, getD_in _ _ _ hgG, i64P, hst]); (try simp (disch := omega) only [wrap_in, wk_self, Int.tdiv_eq_ediv_of_nonneg, Int.tmod_eq_emod_of_nonneg]); (repeat with_reducible refine obA ?_)))
          · (iterate 2 ((try simp (etaStruct := .none) only [push_cast, Int.cast_ofNat_Int, Nat.reduceAdd, Nat.reduceSub, Nat.reduceMul, reduceCtorEq, reduceIte, Nat.reduceEqDiff, Nat.reduceLT, Nat.reduceLeDiff, Nat.reduceBEq, Int.reduceToNat, Int.reduceLE, Int.reduceLT, hzd, getD_in _ _ _ hbF, getD_in _ _ _ hz, i64P, nodP, getD_in _ _ _ hpF, ← hC, ← hD, hsc, getD_in _ _ _ hgG, i64P, hst]); (try simp (disch := omega) only [wrap_in, wk_self, Int.tdiv_eq_ediv_of_nonneg, Int.tmod_eq_emod_of_nonneg]); (repeat with_reducible refine obA ?_)))
        · (try simp only [decide_eq_true_eq, decide_eq_false_iff_not, Bool.not_eq_true', Bool.not_eq_false', Bool.or_eq_true, Bool.and_eq_true, Bool.or_eq_false_iff, Bool.and_eq_false_iff, Int.not_lt, Int.not_le, Bool.not_true, Bool.not_false, not_and, not_or] at h4)
          have hlk : lk f b Fq D (lookF f b Fq D (hpop Nod.all m) ((sidesC C).take k)) ((sidesC C).getD k default) = (lookF f b Fq D (hpop Nod.all m) ((sidesC C).take k)) := by
            unfold lk
            rw [if_neg]
            rintro ⟨c1, c2⟩
            have hin2 : inF f ((sidesC C).getD k default) = true := by
              cases hi : inF f ((sidesC C).getD k default) with
              | true => rfl
              | false => unfold costC at c1; rw [hi] at c1; simp at c1
            rw [← idxG_in hin2] at c2
            rcases h4 with h4 | h4
            · rw [c1] at h4; exact absurd h4 (by decide)
            · omega
          rw [hlk] at hst
          (iterate 2 ((try simp (etaStruct := .none) only [push_cast, Int.cast_ofNat_Int, Nat.reduceAdd, Nat.reduceSub, Nat.reduceMul, reduceCtorEq, reduceIte, Nat.reduceEqDiff, Nat.reduceLT, Nat.reduceLeDiff, Nat.reduceBEq, Int.reduceToNat, Int.reduceLE, Int.reduceLT, hzd, getD_in _ _ _ hbF, getD_in _ _ _ hz, i64P, nodP, getD_in _ _ _ hpF, ← hC, ← hD, hsc, getD_in _ _ _ hgG, i64P, hst]); (try simp (disch := omega) only [wrap_in, wk_self, Int.tdiv_eq_ediv_of_nonneg, Int.tmod_eq_emod_of_nonneg]); (repeat with_reducible refine obA ?_)))
          refine ⟨k + 1, by omega, by omega, To.mk [0, 1, 2, 3, 4] rfl rfl (by decide) ?_ ?_⟩
          · (iterate 2 ((try simp (etaStruct := .none) only [push_cast, Int.cast_ofNat_Int, Nat.reduceAdd, Nat.reduceSub, Nat.reduceMul, reduceCtorEq, reduceIte, Nat.reduceEqDiff, Nat.reduceLT, Nat.reduceLeDiff, Nat.reduceBEq, Int.reduceToNat, Int.reduceLE, Int.reduceLT, hzd, getD_in _ _ _ hbF, getD_in _ _ _ hz, i64P, nodP, getD_in _ _ _ hpF, ← hC, ← hD, hsc, getD_in _ _ _ hgG, i64P, hst]); (try simp (disch := omega) only [wrap_in, wk_self, Int.tdiv_eq_ediv_of_nonneg, Int.tmod_eq_emod_of_nonneg]); (repeat with_reducible refine obA ?_)))
          · (iterate 2 ((try simp (etaStruct := .none) only [push_cast, Int.cast_ofNat_Int, Nat.reduceAdd, Nat.reduceSub, Nat.reduceMul, reduceCtorEq, reduceIte, Nat.reduceEqDiff, Nat.reduceLT, Nat.reduceLeDiff, Nat.reduceBEq, Int.reduceToNat, Int.reduceLE, Int.reduceLT, hzd, getD_in _ _ _ hbF, getD_in _ _ _ hz, i64P, nodP, getD_in _ _ _ hpF, ← hC, ← hD, hsc, getD_in _ _ _ hgG, i64P, hst]); (try simp (disch := omega) only [wrap_in, wk_self, Int.tdiv_eq_ediv_of_nonneg, Int.tmod_eq_emod_of_nonneg]); (repeat with_reducible refine obA ?_)))
      · (try simp only [decide_eq_true_eq, decide_eq_false_iff_not, Bool.not_eq_true', Bool.not_eq_false', Bool.or_eq_true, Bool.and_eq_true, Bool.or_eq_false_iff, Bool.and_eq_false_iff, Int.not_lt, Int.not_le, Bool.not_true, Bool.not_false, not_and, not_or] at h3)
        obtain rfl : k = 4 := by omega
        have ht4 : (sidesC C).take 4 = sidesC C := rfl
        have hpc : idxN f C < f.p.length := by omega
        have h4 := look_k hw hh hW hf hL b hA2 hpc hself j0 top hb3 4 (Nat.le_refl _)
        rw [hidx, ← e1, ht4, ← hidx] at h4
        have h5 := look_all hw hh hW hL hpc h4
        have hll := lookF_len f b Fq D (sidesC C) (hpop Nod.all m)
        rw [hpop_len, show (sidesC C).length = 4 from rfl] at hll
        have hcl2 := sumL_le one0 1 one0_le Fq
        rw [hFl] at hcl2
        (iterate 2 ((try simp (etaStruct := .none) only [push_cast, Int.cast_ofNat_Int, Nat.reduceAdd, Nat.reduceSub, Nat.reduceMul, reduceCtorEq, reduceIte, Nat.reduceEqDiff, Nat.reduceLT, Nat.reduceLeDiff, Nat.reduceBEq, Int.reduceToNat, Int.reduceLE, Int.reduceLT, hzd, getD_in _ _ _ hbF, getD_in _ _ _ hz, i64P, nodP, getD_in _ _ _ hpF, ← hC, ← hD, ht4]); (try simp (disch := omega) only [wrap_in, wk_self, Int.tdiv_eq_ediv_of_nonneg, Int.tmod_eq_emod_of_nonneg]); (repeat with_reducible refine obA ?_)))
        refine ⟨(M', Fq, lookF f b Fq D (hpop Nod.all m) (sidesC C)), ⟨h5, by simp only; unfold muS at hm ⊢; omega, by simp only; omega, by rw [← hu, hrun, if_neg (by rw [hC]; omega)]⟩, by simp only; omega, To.mk [0, 1, 2, 3] rfl rfl (by decide) ?_ ?_⟩
        · (iterate 2 ((try simp (etaStruct := .none) only [push_cast, Int.cast_ofNat_Int, Nat.reduceAdd, Nat.reduceSub, Nat.reduceMul, reduceCtorEq, reduceIte, Nat.reduceEqDiff, Nat.reduceLT, Nat.reduceLeDiff, Nat.reduceBEq, Int.reduceToNat, Int.reduceLE, Int.reduceLT, hzd, getD_in _ _ _ hbF, getD_in _ _ _ hz, i64P, nodP, getD_in _ _ _ hpF, ← hC, ← hD, ht4]); (try simp (disch := omega) only [wrap_in, wk_self, Int.tdiv_eq_ediv_of_nonneg, Int.tmod_eq_emod_of_nonneg]); (repeat with_reducible refine obA ?_)))
        · (iterate 2 ((try simp (etaStruct := .none) only [push_cast, Int.cast_ofNat_Int, Nat.reduceAdd, Nat.reduceSub, Nat.reduceMul, reduceCtorEq, reduceIte, Nat.reduceEqDiff, Nat.reduceLT, Nat.reduceLeDiff, Nat.reduceBEq, Int.reduceToNat, Int.reduceLE, Int.reduceLT, hzd, getD_in _ _ _ hbF, getD_in _ _ _ hz, i64P, nodP, getD_in _ _ _ hpF, ← hC, ← hD, ht4]); (try simp (disch := omega) only [wrap_in, wk_self, Int.tdiv_eq_ediv_of_nonneg, Int.tmod_eq_emod_of_nonneg]); (repeat with_reducible refine obA ?_)))
  · (try simp only [decide_eq_true_eq, decide_eq_false_iff_not, Bool.not_eq_true', Bool.not_eq_false', Bool.or_eq_true, Bool.and_eq_true, Bool.or_eq_false_iff, Bool.and_eq_false_iff, Int.not_lt, Int.not_le, Bool.not_true, Bool.not_false, not_and, not_or] at h1)
    rw [← hu, runF_no (fun h => by have := h.2; omega) M]
    (iterate 2 ((try simp (etaStruct := .none) only [push_cast, Int.cast_ofNat_Int, Nat.reduceAdd, Nat.reduceSub, Nat.reduceMul, reduceCtorEq, reduceIte, Nat.reduceEqDiff, Nat.reduceLT, Nat.reduceLeDiff, Nat.reduceBEq, Int.reduceToNat, Int.reduceLE, Int.reduceLT, hzd, getD_in _ _ _ hbF, getD_in _ _ _ hz, i64P, nodP]); (try simp (disch := omega) only [wrap_in, wk_self, Int.tdiv_eq_ediv_of_nonneg, Int.tmod_eq_emod_of_nonneg]); (repeat with_reducible refine obA ?_)))
    refine retM [0, 1, 2, 3] rfl rfl (by decide) ⟨?_, ?_, ?_, ?_, trivial⟩ trivial ?_ <;> simp (etaStruct := .none) only [push_cast, DrawG, Int.cast_ofNat_Int, Nat.reduceAdd, Nat.reduceSub, Nat.reduceMul, reduceCtorEq, reduceIte, Nat.reduceEqDiff, Nat.reduceLT, Nat.reduceLeDiff, Nat.reduceBEq, Int.reduceToNat, Int.reduceLE, Int.reduceLT]
end Go.Proofs.Ytehcnnodkhcgfaa
namespace Go.Proofs.Ytehcnnodkhcgfaa
set_option linter.all false
open Go.RowKit
set_option maxRecDepth 100000
set_option maxHeartbeats 2000000
theorem oqpush0_s (f : Fld) (b : Cel) (far : List Int) (x : Nod) : Spec Try.prog 318 [.ptr 0 0 6, .ifc 323 (nodA x)] [.blk 194 [I .i64 f.w, I .i64 f.h, .c (.sl 1 (f.p.map i64P)), I .i64 b.x, I .i64 b.y, .own 1, .c (.v (.slice none 0 0))], .row 3 1 (far.map i64P)] (.tup []) [.blk 194 [I .i64 f.w, I .i64 f.h, .c (.sl 1 (f.p.map i64P)), I .i64 b.x, I .i64 b.y, .own 1, .own 2], .row 3 1 (far.map i64P), .row 323 4 ([x].map nodP)] := by
  refine spec_am Try.func318 rfl rfl mix 13 rfl [] Try.results318 (Nat.le_of_ble_eq_true rfl) ?_
  (try simp (etaStruct := .none) only [push_cast, DrawG, Int.cast_ofNat_Int, Nat.reduceAdd, Nat.reduceSub, Nat.reduceMul, reduceCtorEq, reduceIte, Nat.reduceEqDiff, Nat.reduceLT, Nat.reduceLeDiff, Nat.reduceBEq, Int.reduceToNat, Int.reduceLE, Int.reduceLT]); (try simp (disch := omega) only [wrap_in, wk_self, Int.tdiv_eq_ediv_of_nonneg, Int.tmod_eq_emod_of_nonneg]); (repeat with_reducible refine obA ?_)
  (try (refine ⟨by kernel_rfl, ?_⟩))
  (try simp (etaStruct := .none) only [push_cast, DrawG, Int.cast_ofNat_Int, Nat.reduceAdd, Nat.reduceSub, Nat.reduceMul, reduceCtorEq, reduceIte, Nat.reduceEqDiff, Nat.reduceLT, Nat.reduceLeDiff, Nat.reduceBEq, Int.reduceToNat, Int.reduceLE, Int.reduceLT]); (try simp (disch := omega) only [wrap_in, wk_self, Int.tdiv_eq_ediv_of_nonneg, Int.tmod_eq_emod_of_nonneg]); (repeat with_reducible refine obA ?_)
  refine retM [0, 1, 30] rfl rfl (by decide) ⟨?_, ?_, ?_, trivial⟩ trivial ?_ <;> simp (etaStruct := .none) only [push_cast, DrawG, Int.cast_ofNat_Int, Nat.reduceAdd, Nat.reduceSub, Nat.reduceMul, reduceCtorEq, reduceIte, Nat.reduceEqDiff, Nat.reduceLT, Nat.reduceLeDiff, Nat.reduceBEq, Int.reduceToNat, Int.reduceLE, Int.reduceLT, nodP]
theorem ohpush0_s (f : Fld) (b : Cel) (far : List Int) (x : Nod) : Spec Try.prog 236 [.ifc 321 (.ptr 0 0 6), .ifc 323 (nodA x)] [.blk 194 [I .i64 f.w, I .i64 f.h, .c (.sl 1 (f.p.map i64P)), I .i64 b.x, I .i64 b.y, .own 1, .c (.v (.slice none 0 0))], .row 3 1 (far.map i64P)] (.tup []) [.blk 194 [I .i64 f.w, I .i64 f.h, .c (.sl 1 (f.p.map i64P)), I .i64 b.x, I .i64 b.y, .own 1, .own 2], .row 3 1 (far.map i64P), .row 323 4 ((hpush Nod.all [] x).map nodP)] := by
  refine spec_am Try.func236 rfl rfl mix 12 rfl [] Try.results236 (Nat.le_of_ble_eq_true rfl) ?_
  (try simp (etaStruct := .none) only [push_cast, DrawG, Int.cast_ofNat_Int, Nat.reduceAdd, Nat.reduceSub, Nat.reduceMul, reduceCtorEq, reduceIte, Nat.reduceEqDiff, Nat.reduceLT, Nat.reduceLeDiff, Nat.reduceBEq, Int.reduceToNat, Int.reduceLE, Int.reduceLT]); (try simp (disch := omega) only [wrap_in, wk_self, Int.tdiv_eq_ediv_of_nonneg, Int.tmod_eq_emod_of_nonneg]); (repeat with_reducible refine obA ?_)
  refine callM [0, 1] (oqpush0_s f b far x) (WkL.refl _) rfl (by decide) (by simp [lookC_c]) ?_
  (try simp (etaStruct := .none) only [push_cast, DrawG, Int.cast_ofNat_Int, Nat.reduceAdd, Nat.reduceSub, Nat.reduceMul, reduceCtorEq, reduceIte, Nat.reduceEqDiff, Nat.reduceLT, Nat.reduceLeDiff, Nat.reduceBEq, Int.reduceToNat, Int.reduceLE, Int.reduceLT]); (try simp (disch := omega) only [wrap_in, wk_self, Int.tdiv_eq_ediv_of_nonneg, Int.tmod_eq_emod_of_nonneg]); (repeat with_reducible refine obA ?_)
  refine callB (olen_s [x]) (WkL.refl _) rfl ?_
  (try simp (etaStruct := .none) only [push_cast, DrawG, Int.cast_ofNat_Int, Nat.reduceAdd, Nat.reduceSub, Nat.reduceMul, reduceCtorEq, reduceIte, Nat.reduceEqDiff, Nat.reduceLT, Nat.reduceLeDiff, Nat.reduceBEq, Int.reduceToNat, Int.reduceLE, Int.reduceLT]); (try simp (disch := omega) only [wrap_in, wk_self, Int.tdiv_eq_ediv_of_nonneg, Int.tmod_eq_emod_of_nonneg]); (repeat with_reducible refine obA ?_)
  refine callM [0, 1, 2] (oup_s f b far [x] 0 (by simp) (by simp)) (WkL.refl _) rfl (by decide) (by simp [lookC_c]) ?_
  (try simp (etaStruct := .none) only [push_cast, DrawG, Int.cast_ofNat_Int, Nat.reduceAdd, Nat.reduceSub, Nat.reduceMul, reduceCtorEq, reduceIte, Nat.reduceEqDiff, Nat.reduceLT, Nat.reduceLeDiff, Nat.reduceBEq, Int.reduceToNat, Int.reduceLE, Int.reduceLT]); (try simp (disch := omega) only [wrap_in, wk_self, Int.tdiv_eq_ediv_of_nonneg, Int.tmod_eq_emod_of_nonneg]); (repeat with_reducible refine obA ?_)
  refine retM [0, 1, 2] rfl rfl (by decide) ⟨?_, ?_, ?_, trivial⟩ trivial ?_ <;> simp (etaStruct := .none) only [push_cast, DrawG, Int.cast_ofNat_Int, Nat.reduceAdd, Nat.reduceSub, Nat.reduceMul, reduceCtorEq, reduceIte, Nat.reduceEqDiff, Nat.reduceLT, Nat.reduceLeDiff, Nat.reduceBEq, Int.reduceToNat, Int.reduceLE, Int.reduceLT, hpush]
abbrev srB (f : Fld) (b : Cel) (x y : AV) : Chunk := .blk 194 [I .i64 f.w, I .i64 f.h, .c (.sl 1 (f.p.map i64P)), I .i64 b.x, I .i64 b.y, x, y]
theorem ppush0_s (f : Fld) (b : Cel) (far : List Int) (c : Cel) (d : Int) (hx : -1000 ≤ c.x ∧ c.x ≤ 1000) (hy : -1000 ≤ c.y ∧ c.y ≤ 1000) (hbx : 0 ≤ b.x ∧ b.x ≤ 40) (hby : 0 ≤ b.y ∧ b.y ≤ 40) (hd : 0 ≤ d ∧ d ≤ 1000000) : Spec Try.prog 193 [.ptr 0 0 0, celA c, I .i64 d] [.blk 194 [I .i64 f.w, I .i64 f.h, .c (.sl 1 (f.p.map i64P)), I .i64 b.x, I .i64 b.y, .own 1, .c (.v (.slice none 0 0))], .row 3 1 (far.map i64P)] (.tup []) [.blk 194 [I .i64 f.w, I .i64 f.h, .c (.sl 1 (f.p.map i64P)), I .i64 b.x, I .i64 b.y, .own 1, .own 2], .row 3 1 (far.map i64P), .row 323 4 ((hpush Nod.all [] ⟨c, d, d + leftH b c⟩).map nodP)] := by
  have e1 : IntKind.i64.wrap (d + IntKind.i64.wrap (2 * (((b.x - c.x).natAbs + (b.y - c.y).natAbs : Nat) : Int))) = d + leftH b c := by unfold leftH; rw [wrap_in (2 * _) (by omega) (by omega), wrap_in _ (by omega) (by omega)]
  refine spec_am Try.func193 rfl rfl mix 32 rfl [] Try.results193 (Nat.le_of_ble_eq_true rfl) ?_
  (iterate 2 ((try simp (etaStruct := .none) only [push_cast, DrawG, Int.cast_ofNat_Int, Nat.reduceAdd, Nat.reduceSub, Nat.reduceMul, reduceCtorEq, reduceIte, Nat.reduceEqDiff, Nat.reduceLT, Nat.reduceLeDiff, Nat.reduceBEq, Int.reduceToNat, Int.reduceLE, Int.reduceLT, e1]); (try simp (disch := omega) only [wrap_in, wk_self, Int.tdiv_eq_ediv_of_nonneg, Int.tmod_eq_emod_of_nonneg]); (repeat with_reducible refine obA ?_)))
  refine callP (lapart_s c b (by simp [nearB]; omega) (by simp [nearB]; omega)) (WkL.refl _) ?_
  (iterate 2 ((try simp (etaStruct := .none) only [push_cast, DrawG, Int.cast_ofNat_Int, Nat.reduceAdd, Nat.reduceSub, Nat.reduceMul, reduceCtorEq, reduceIte, Nat.reduceEqDiff, Nat.reduceLT, Nat.reduceLeDiff, Nat.reduceBEq, Int.reduceToNat, Int.reduceLE, Int.reduceLT, e1]); (try simp (disch := omega) only [wrap_in, wk_self, Int.tdiv_eq_ediv_of_nonneg, Int.tmod_eq_emod_of_nonneg]); (repeat with_reducible refine obA ?_)))
  (try (refine ⟨by kernel_rfl, ?_⟩))
  (iterate 2 ((try simp (etaStruct := .none) only [push_cast, DrawG, Int.cast_ofNat_Int, Nat.reduceAdd, Nat.reduceSub, Nat.reduceMul, reduceCtorEq, reduceIte, Nat.reduceEqDiff, Nat.reduceLT, Nat.reduceLeDiff, Nat.reduceBEq, Int.reduceToNat, Int.reduceLE, Int.reduceLT, e1]); (try simp (disch := omega) only [wrap_in, wk_self, Int.tdiv_eq_ediv_of_nonneg, Int.tmod_eq_emod_of_nonneg]); (repeat with_reducible refine obA ?_)))
  refine callM [0, 1] (ohpush0_s f b far ⟨c, d, d + leftH b c⟩) (WkL.refl _) rfl (by decide) (by simp [lookC_c, onlyC, memN]) ?_
  (iterate 2 ((try simp (etaStruct := .none) only [push_cast, DrawG, Int.cast_ofNat_Int, Nat.reduceAdd, Nat.reduceSub, Nat.reduceMul, reduceCtorEq, reduceIte, Nat.reduceEqDiff, Nat.reduceLT, Nat.reduceLeDiff, Nat.reduceBEq, Int.reduceToNat, Int.reduceLE, Int.reduceLT, e1]); (try simp (disch := omega) only [wrap_in, wk_self, Int.tdiv_eq_ediv_of_nonneg, Int.tmod_eq_emod_of_nonneg]); (repeat with_reducible refine obA ?_)))
  (try (refine ⟨by kernel_rfl, ?_⟩))
  (iterate 2 ((try simp (etaStruct := .none) only [push_cast, DrawG, Int.cast_ofNat_Int, Nat.reduceAdd, Nat.reduceSub, Nat.reduceMul, reduceCtorEq, reduceIte, Nat.reduceEqDiff, Nat.reduceLT, Nat.reduceLeDiff, Nat.reduceBEq, Int.reduceToNat, Int.reduceLE, Int.reduceLT, e1]); (try simp (disch := omega) only [wrap_in, wk_self, Int.tdiv_eq_ediv_of_nonneg, Int.tmod_eq_emod_of_nonneg]); (repeat with_reducible refine obA ?_)))
  refine retM [0, 1, 103] rfl rfl (by decide) ⟨?_, ?_, ?_, trivial⟩ trivial ?_ <;> simp (etaStruct := .none) only [push_cast, DrawG, Int.cast_ofNat_Int, Nat.reduceAdd, Nat.reduceSub, Nat.reduceMul, reduceCtorEq, reduceIte, Nat.reduceEqDiff, Nat.reduceLT, Nat.reduceLeDiff, Nat.reduceBEq, Int.reduceToNat, Int.reduceLE, Int.reduceLT]
theorem atV_at {f : Fld} {c : Cel} (hf : fldE f = 0) : atV f c = if inF f c then (placeV f c, 0) else (0, 7) := by unfold atV; rw [if_neg (by simp [hf])]
theorem searched_no (f : Fld) (a b : Cel) (hl : f.p.length ≤ 9223372036854775807) (hE : fldE f ≠ 0 ∨ ¬ (inF f a = true ∧ inF f b = true) ∨ placeV f a = 1 ∨ placeV f b = 1) (R : List Int) : Spec Try.prog 108 [fldA f, celA a, celA b] [] (.tup [.c (.v (.pointer none)), I .i64 (wayE R f a b)]) [] := by
  have key : (atV f a).2 ≠ 0 ∧ wayE R f a b = (atV f a).2 ∨ (atV f a).2 = 0 ∧ (atV f b).2 ≠ 0 ∧ wayE R f a b = (atV f b).2 ∨ (atV f a).2 = 0 ∧ (atV f b).2 = 0 ∧ wayE R f a b = 9 ∧ ((atV f a).1 = 1 ∨ (atV f b).1 = 1) := by
    by_cases hf : fldE f = 0
    · rw [atV_at hf, atV_at hf]
      unfold wayE
      cases ha : inF f a with
      | false => exact .inl ⟨by simp [ha], by simp [ha, hf]⟩
      | true =>
        cases hb : inF f b with
        | false => exact .inr (.inl ⟨by simp [ha], by simp [hb], by simp [hb, hf]⟩)
        | true =>
          rcases hE with h | h | h
          · exact absurd hf h
          · exact absurd ⟨ha, hb⟩ h
          · exact .inr (.inr ⟨by simp [ha], by simp [hb], by simp [ha, hb, hf, h], by simpa [ha, hb] using h⟩)
    · have e : ∀ c, atV f c = (0, fldE f) := fun c => by unfold atV; rw [if_pos hf]
      rw [e]
      unfold wayE
      rw [if_pos hf]
      exact .inl ⟨hf, rfl⟩
  refine spec_am Try.func108 rfl rfl mix 61 rfl [.tmp 6, .tmp 7] Try.results108 (Nat.le_of_ble_eq_true rfl) ?_
  (try simp (etaStruct := .none) only [push_cast, DrawG, Int.cast_ofNat_Int, Nat.reduceAdd, Nat.reduceSub, Nat.reduceMul, reduceCtorEq, reduceIte, Nat.reduceEqDiff, Nat.reduceLT, Nat.reduceLeDiff, Nat.reduceBEq, Int.reduceToNat, Int.reduceLE, Int.reduceLT]); (try simp (disch := omega) only [wrap_in, wk_self, Int.tdiv_eq_ediv_of_nonneg, Int.tmod_eq_emod_of_nonneg]); (repeat with_reducible refine obA ?_)
  refine callP (at_s f a hl) (WkL.refl _) ?_
  (try simp (etaStruct := .none) only [push_cast, DrawG, Int.cast_ofNat_Int, Nat.reduceAdd, Nat.reduceSub, Nat.reduceMul, reduceCtorEq, reduceIte, Nat.reduceEqDiff, Nat.reduceLT, Nat.reduceLeDiff, Nat.reduceBEq, Int.reduceToNat, Int.reduceLE, Int.reduceLT]); (try simp (disch := omega) only [wrap_in, wk_self, Int.tdiv_eq_ediv_of_nonneg, Int.tmod_eq_emod_of_nonneg]); (repeat with_reducible refine obA ?_)
  refine cond_i (fun h1 => ?_) (fun h1 => ?_)
  · (try simp only [decide_eq_true_eq, decide_eq_false_iff_not, Bool.not_eq_true', Bool.not_eq_false', Bool.or_eq_true, Bool.and_eq_true, Bool.or_eq_false_iff, Bool.and_eq_false_iff, Int.not_lt, Int.not_le, Bool.not_true, Bool.not_false, not_and, not_or] at h1)
    have e : wayE R f a b = (atV f a).2 := by
      rcases key with k | k | k
      · exact k.2
      · exact absurd k.1 h1
      · exact absurd k.1 h1
    (try simp (etaStruct := .none) only [push_cast, DrawG, Int.cast_ofNat_Int, Nat.reduceAdd, Nat.reduceSub, Nat.reduceMul, reduceCtorEq, reduceIte, Nat.reduceEqDiff, Nat.reduceLT, Nat.reduceLeDiff, Nat.reduceBEq, Int.reduceToNat, Int.reduceLE, Int.reduceLT]); (try simp (disch := omega) only [wrap_in, wk_self, Int.tdiv_eq_ediv_of_nonneg, Int.tmod_eq_emod_of_nonneg]); (repeat with_reducible refine obA ?_)
    (first | (refine ret0 rfl (by repeat' (first | exact trivial | exact rfl | refine ⟨?_, ?_⟩)) (Wk.of ?_); (try simp (etaStruct := .none) only [push_cast, DrawG, Int.cast_ofNat_Int, Nat.reduceAdd, Nat.reduceSub, Nat.reduceMul, reduceCtorEq, reduceIte, Nat.reduceEqDiff, Nat.reduceLT, Nat.reduceLeDiff, Nat.reduceBEq, Int.reduceToNat, Int.reduceLE, Int.reduceLT]); first | done | (simp [e, *]; done) | (simp_all [e]; done)) | (refine ret0 rfl (by repeat' (first | exact trivial | exact rfl | refine ⟨?_, ?_⟩)) ?_; (try simp (etaStruct := .none) only [push_cast, DrawG, Int.cast_ofNat_Int, Nat.reduceAdd, Nat.reduceSub, Nat.reduceMul, reduceCtorEq, reduceIte, Nat.reduceEqDiff, Nat.reduceLT, Nat.reduceLeDiff, Nat.reduceBEq, Int.reduceToNat, Int.reduceLE, Int.reduceLT]); (try simp [e, *]); (try (first | exact Wk.refl _ | exact Wk.nil _ | (refine Wk.tup ?_; repeat' (first | exact trivial | exact Wk.refl _ | exact Wk.nil _ | refine ⟨?_, ?_⟩ | (refine Wk.agg ?_)))))))
  · (try simp only [decide_eq_true_eq, decide_eq_false_iff_not, Bool.not_eq_true', Bool.not_eq_false', Bool.or_eq_true, Bool.and_eq_true, Bool.or_eq_false_iff, Bool.and_eq_false_iff, Int.not_lt, Int.not_le, Bool.not_true, Bool.not_false, not_and, not_or] at h1)
    (try simp (etaStruct := .none) only [push_cast, DrawG, Int.cast_ofNat_Int, Nat.reduceAdd, Nat.reduceSub, Nat.reduceMul, reduceCtorEq, reduceIte, Nat.reduceEqDiff, Nat.reduceLT, Nat.reduceLeDiff, Nat.reduceBEq, Int.reduceToNat, Int.reduceLE, Int.reduceLT]); (try simp (disch := omega) only [wrap_in, wk_self, Int.tdiv_eq_ediv_of_nonneg, Int.tmod_eq_emod_of_nonneg]); (repeat with_reducible refine obA ?_)
    refine callP (at_s f b hl) (WkL.refl _) ?_
    (try simp (etaStruct := .none) only [push_cast, DrawG, Int.cast_ofNat_Int, Nat.reduceAdd, Nat.reduceSub, Nat.reduceMul, reduceCtorEq, reduceIte, Nat.reduceEqDiff, Nat.reduceLT, Nat.reduceLeDiff, Nat.reduceBEq, Int.reduceToNat, Int.reduceLE, Int.reduceLT]); (try simp (disch := omega) only [wrap_in, wk_self, Int.tdiv_eq_ediv_of_nonneg, Int.tmod_eq_emod_of_nonneg]); (repeat with_reducible refine obA ?_)
    refine cond_i (fun h2 => ?_) (fun h2 => ?_)
    · (try simp only [decide_eq_true_eq, decide_eq_false_iff_not, Bool.not_eq_true', Bool.not_eq_false', Bool.or_eq_true, Bool.and_eq_true, Bool.or_eq_false_iff, Bool.and_eq_false_iff, Int.not_lt, Int.not_le, Bool.not_true, Bool.not_false, not_and, not_or] at h2)
      have e : wayE R f a b = (atV f b).2 := by
        rcases key with k | k | k
        · exact absurd h1 k.1
        · exact k.2.2
        · exact absurd k.2.1 h2
      (try simp (etaStruct := .none) only [push_cast, DrawG, Int.cast_ofNat_Int, Nat.reduceAdd, Nat.reduceSub, Nat.reduceMul, reduceCtorEq, reduceIte, Nat.reduceEqDiff, Nat.reduceLT, Nat.reduceLeDiff, Nat.reduceBEq, Int.reduceToNat, Int.reduceLE, Int.reduceLT]); (try simp (disch := omega) only [wrap_in, wk_self, Int.tdiv_eq_ediv_of_nonneg, Int.tmod_eq_emod_of_nonneg]); (repeat with_reducible refine obA ?_)
      (first | (refine ret0 rfl (by repeat' (first | exact trivial | exact rfl | refine ⟨?_, ?_⟩)) (Wk.of ?_); (try simp (etaStruct := .none) only [push_cast, DrawG, Int.cast_ofNat_Int, Nat.reduceAdd, Nat.reduceSub, Nat.reduceMul, reduceCtorEq, reduceIte, Nat.reduceEqDiff, Nat.reduceLT, Nat.reduceLeDiff, Nat.reduceBEq, Int.reduceToNat, Int.reduceLE, Int.reduceLT]); first | done | (simp [e, *]; done) | (simp_all [e]; done)) | (refine ret0 rfl (by repeat' (first | exact trivial | exact rfl | refine ⟨?_, ?_⟩)) ?_; (try simp (etaStruct := .none) only [push_cast, DrawG, Int.cast_ofNat_Int, Nat.reduceAdd, Nat.reduceSub, Nat.reduceMul, reduceCtorEq, reduceIte, Nat.reduceEqDiff, Nat.reduceLT, Nat.reduceLeDiff, Nat.reduceBEq, Int.reduceToNat, Int.reduceLE, Int.reduceLT]); (try simp [e, *]); (try (first | exact Wk.refl _ | exact Wk.nil _ | (refine Wk.tup ?_; repeat' (first | exact trivial | exact Wk.refl _ | exact Wk.nil _ | refine ⟨?_, ?_⟩ | (refine Wk.agg ?_)))))))
    · (try simp only [decide_eq_true_eq, decide_eq_false_iff_not, Bool.not_eq_true', Bool.not_eq_false', Bool.or_eq_true, Bool.and_eq_true, Bool.or_eq_false_iff, Bool.and_eq_false_iff, Int.not_lt, Int.not_le, Bool.not_true, Bool.not_false, not_and, not_or] at h2)
      (try simp (etaStruct := .none) only [push_cast, DrawG, Int.cast_ofNat_Int, Nat.reduceAdd, Nat.reduceSub, Nat.reduceMul, reduceCtorEq, reduceIte, Nat.reduceEqDiff, Nat.reduceLT, Nat.reduceLeDiff, Nat.reduceBEq, Int.reduceToNat, Int.reduceLE, Int.reduceLT]); (try simp (disch := omega) only [wrap_in, wk_self, Int.tdiv_eq_ediv_of_nonneg, Int.tmod_eq_emod_of_nonneg]); (repeat with_reducible refine obA ?_)
      refine cond_i (fun h3 => ?_) (fun h3 => ?_)
      · (try simp only [decide_eq_true_eq, decide_eq_false_iff_not, Bool.not_eq_true', Bool.not_eq_false', Bool.or_eq_true, Bool.and_eq_true, Bool.or_eq_false_iff, Bool.and_eq_false_iff, Int.not_lt, Int.not_le, Bool.not_true, Bool.not_false, not_and, not_or] at h3)
        have e : wayE R f a b = 9 := by
          rcases key with k | k | k
          · exact absurd h1 k.1
          · exact absurd h2 k.2.1
          · exact k.2.2.1
        (try simp (etaStruct := .none) only [push_cast, DrawG, Int.cast_ofNat_Int, Nat.reduceAdd, Nat.reduceSub, Nat.reduceMul, reduceCtorEq, reduceIte, Nat.reduceEqDiff, Nat.reduceLT, Nat.reduceLeDiff, Nat.reduceBEq, Int.reduceToNat, Int.reduceLE, Int.reduceLT]); (try simp (disch := omega) only [wrap_in, wk_self, Int.tdiv_eq_ediv_of_nonneg, Int.tmod_eq_emod_of_nonneg]); (repeat with_reducible refine obA ?_)
        (first | (refine ret0 rfl (by repeat' (first | exact trivial | exact rfl | refine ⟨?_, ?_⟩)) (Wk.of ?_); (try simp (etaStruct := .none) only [push_cast, DrawG, Int.cast_ofNat_Int, Nat.reduceAdd, Nat.reduceSub, Nat.reduceMul, reduceCtorEq, reduceIte, Nat.reduceEqDiff, Nat.reduceLT, Nat.reduceLeDiff, Nat.reduceBEq, Int.reduceToNat, Int.reduceLE, Int.reduceLT]); first | done | (simp [e, *]; done) | (simp_all [e]; done)) | (refine ret0 rfl (by repeat' (first | exact trivial | exact rfl | refine ⟨?_, ?_⟩)) ?_; (try simp (etaStruct := .none) only [push_cast, DrawG, Int.cast_ofNat_Int, Nat.reduceAdd, Nat.reduceSub, Nat.reduceMul, reduceCtorEq, reduceIte, Nat.reduceEqDiff, Nat.reduceLT, Nat.reduceLeDiff, Nat.reduceBEq, Int.reduceToNat, Int.reduceLE, Int.reduceLT]); (try simp [e, *]); (try (first | exact Wk.refl _ | exact Wk.nil _ | (refine Wk.tup ?_; repeat' (first | exact trivial | exact Wk.refl _ | exact Wk.nil _ | refine ⟨?_, ?_⟩ | (refine Wk.agg ?_)))))))
      · (try simp only [decide_eq_true_eq, decide_eq_false_iff_not, Bool.not_eq_true', Bool.not_eq_false', Bool.or_eq_true, Bool.and_eq_true, Bool.or_eq_false_iff, Bool.and_eq_false_iff, Int.not_lt, Int.not_le, Bool.not_true, Bool.not_false, not_and, not_or] at h3)
        exfalso
        rcases key with k | k | k
        · exact absurd h1 k.1
        · exact absurd h2 k.2.1
        · have := k.2.2.2; omega
def runS (f : Fld) (a b : Cel) : List Int × List Nod := runF f b 8001 (List.replicate f.p.length (-1)) (hpush Nod.all [] ⟨a, 0, 0 + leftH b a⟩)
theorem muS0 (f : Fld) (x : Nod) (h : f.p.length ≤ 1600) : muS f (List.replicate f.p.length (-1)) (hpush Nod.all [] x) ≤ 8001 := by
  unfold muS; rw [hpush_len]; simp only [List.length_nil]; omega
theorem As0 {f : Fld} {W H : Nat} (hw : f.w = (W : Int)) (hh : f.h = (H : Int)) (hW : 0 < W) (hf : fldE f = 0) (b : Cel) {a : Cel} (ha : inF f a = true) : As W f.p (idxN f a) (fun n => leftH b (celW W n)) (List.replicate f.p.length (-1)) (hpush Nod.all [] ⟨a, 0, 0 + leftH b a⟩) fun _ _ => True := by
  obtain ⟨e, hlt⟩ := in_celW hw hh hW hf ha
  have := As.start (W := W) (pl := f.p) (a := idxN f a) (hh := fun n => leftH b (celW W n)) hlt
  rw [← e] at this
  exact this
theorem fld_nat {f : Fld} (hf : fldE f = 0) : ∃ W H : Nat, f.w = (W : Int) ∧ f.h = (H : Int) ∧ 0 < W ∧ f.p.length = W * H := by
  obtain ⟨⟨w1, w2⟩, ⟨w3, w4⟩, wl, wp⟩ := fldE_ok hf
  obtain ⟨W, hW⟩ : ∃ W : Nat, f.w = (W : Int) := Int.eq_ofNat_of_zero_le (by omega)
  obtain ⟨H, hH⟩ : ∃ H : Nat, f.h = (H : Int) := Int.eq_ofNat_of_zero_le (by omega)
  exact ⟨W, H, hW, hH, by omega, by rw [hW, hH] at wl; exact_mod_cast wl⟩
structure Srch (f : Fld) (a b : Cel) (R : List Int) (W H : Nat) : Prop where
  w : f.w = (W : Int)
  h : f.h = (H : Int)
  w0 : 0 < W
  l : f.p.length = W * H
  r : Flood W f.p [idxN f a] R
  ass : As W f.p (idxN f a) (fun n => leftH b (celW W n)) (runS f a b).1 (runS f a b).2 fun _ _ => True
  no : ¬ goB f b (runS f a b).1 (runS f a b).2
theorem srch {f : Fld} {a b : Cel} {R : List Int} (hf : fldE f = 0) (ha : inF f a = true) (hpa : placeV f a ≠ 1) (hR : FloodIs f [a] R) : ∃ W H, Srch f a b R W H := by
  obtain ⟨W, H, hw, hh, hW, hL⟩ := fld_nat hf
  have hA := run_ok hw hh hW hf hL b 8001 _ _ (As0 hw hh hW hf b ha) (muS0 f _ (place_ix hf ha).2.2.2.2)
  have hlt := (in_celW hw hh hW hf ha).2
  obtain ⟨F, hF⟩ := flood_ex (W := W) (pl := f.p) (s := [idxN f a]) hW (place_ix hf ha).2.2.2.2 (by intro p hp; rw [List.mem_singleton] at hp; rw [hp]; exact hlt)
  have e : floodE f [a] = 0 := by
    unfold floodE srcE srcE
    rw [if_neg (by simp [hf]), if_neg (by simp), if_pos ha, if_neg hpa]
  have := hR.1 e F (by rw [hw, Int.toNat_natCast]; exact hF)
  subst this
  exact ⟨W, H, hw, hh, hW, hL, hF, hA.1, hA.2⟩
theorem Srch.end {f : Fld} {a b : Cel} {R : List Int} {W H : Nat} (s : Srch f a b R W H) (hf : fldE f = 0) (ha : inF f a = true) (hb : inF f b = true) : ((runS f a b).1.getD (idxN f b) default < 0 ↔ R.getD (idxN f b) default < 0) ∧ (0 ≤ R.getD (idxN f b) default → (runS f a b).1.getD (idxN f b) default = R.getD (idxN f b) default ∧ ∀ x ∈ (runS f a b).2, R.getD (idxN f b) default < x.all) := by
  have hcons := hh_cons s.w s.h s.w0 b
  rw [← s.l] at hcons
  have haL := (in_celW s.w s.h s.w0 hf ha).2
  have hbL := (in_celW s.w s.h s.w0 hf hb).2
  have h1 : ∀ h : 0 ≤ (runS f a b).1.getD (idxN f b) default, (runS f a b).1.getD (idxN f b) default = R.getD (idxN f b) default := fun h => s.ass.same hcons haL s.r hbL h
  have h2 : (runS f a b).1.getD (idxN f b) default < 0 → R.getD (idxN f b) default < 0 := fun h => by
    rcases Int.lt_or_le (R.getD (idxN f b) default) 0 with h3 | h3
    · exact h3
    · have hq : (runS f a b).2 = [] := by
        have := s.no
        unfold goB at this
        cases hq : (runS f a b).2 with
        | nil => rfl
        | cons x r => exact absurd ⟨by rw [hq]; simp, .inl h⟩ this
      have := s.ass.known hcons haL s.r hbL h3 (by rw [hq]; intro x hx; simp at hx)
      omega
  refine ⟨⟨h2, fun h => ?_⟩, fun h => ?_⟩
  · rcases Int.lt_or_le ((runS f a b).1.getD (idxN f b) default) 0 with h3 | h3
    · exact h3
    · have := h1 h3; omega
  · have h3 : 0 ≤ (runS f a b).1.getD (idxN f b) default := by
      rcases Int.lt_or_le ((runS f a b).1.getD (idxN f b) default) 0 with h3 | h3
      · have := h2 h3; omega
      · exact h3
    have h4 := h1 h3
    refine ⟨h4, fun x hx => ?_⟩
    obtain ⟨k, hk, rfl⟩ := mem_getD.1 hx
    have hle := heap_min _ s.ass.heap k hk
    have := s.no
    unfold goB at this
    rw [h4] at this
    rcases Int.lt_or_le (R.getD (idxN f b) default) ((runS f a b).2.getD k default).all with h5 | h5
    · exact h5
    · exact absurd ⟨by omega, .inr (by omega)⟩ this
theorem searched_six (f : Fld) (a b : Cel) (hl : f.p.length ≤ 9223372036854775807) {R : List Int} (hf : fldE f = 0) (ha : inF f a = true) (hb : inF f b = true) (hpa : placeV f a ≠ 1) (hpb : placeV f b ≠ 1) (hR : FloodIs f [a] R) (h0 : R.getD (idxN f b) default < 0) : Spec Try.prog 108 [fldA f, celA a, celA b] [] (.tup [.c (.v (.pointer none)), I .i64 6]) [] := by
  obtain ⟨W, H, s⟩ := srch (b := b) hf ha hpa hR
  have hend := s.end hf ha hb
  obtain ⟨hw, hh, hW, hL, hFl, hAe, _⟩ := s
  have hA0 := As0 hw hh hW hf b ha
  have hmu0 := muS0 f ⟨a, 0, 0 + leftH b a⟩ (place_ix hf ha).2.2.2.2
  have hai := inF_iff.1 ha
  have hbi := inF_iff.1 hb
  have hfo := fldE_ok hf
  have hpx := place_ix hf ha
  have hrunS : runF f b 8001 (List.replicate f.p.length (-1)) (hpush Nod.all [] ⟨a, 0, 0 + leftH b a⟩) = runS f a b := rfl
  have hbF : idxN f b < (runS f a b).1.length := by rw [hAe.len]; exact (in_celW hw hh hW hf hb).2
  refine spec_am Try.func108 rfl rfl mix 61 rfl [.tmp 6, .tmp 7] Try.results108 (Nat.le_of_ble_eq_true rfl) ?_
  (iterate 2 ((try simp (etaStruct := .none) only [push_cast, DrawG, Int.cast_ofNat_Int, Nat.reduceAdd, Nat.reduceSub, Nat.reduceMul, reduceCtorEq, reduceIte, Nat.reduceEqDiff, Nat.reduceLT, Nat.reduceLeDiff, Nat.reduceBEq, Int.reduceToNat, Int.reduceLE, Int.reduceLT, Int.ofNat_zero, hrunS, getD_in _ _ _ hbF, i64P]); (try simp (disch := omega) only [wrap_in, wk_self, Int.tdiv_eq_ediv_of_nonneg, Int.tmod_eq_emod_of_nonneg]); (repeat with_reducible refine obA ?_)))
  refine callP (at_s f a hl) (WkL.refl _) ?_
  rw [atV_at hf, if_pos ha]
  (iterate 2 ((try simp (etaStruct := .none) only [push_cast, DrawG, Int.cast_ofNat_Int, Nat.reduceAdd, Nat.reduceSub, Nat.reduceMul, reduceCtorEq, reduceIte, Nat.reduceEqDiff, Nat.reduceLT, Nat.reduceLeDiff, Nat.reduceBEq, Int.reduceToNat, Int.reduceLE, Int.reduceLT, Int.ofNat_zero, hrunS, getD_in _ _ _ hbF, i64P]); (try simp (disch := omega) only [wrap_in, wk_self, Int.tdiv_eq_ediv_of_nonneg, Int.tmod_eq_emod_of_nonneg]); (repeat with_reducible refine obA ?_)))
  refine cond_i (fun h1 => ?_) (fun h1 => ?_)
  · (try simp only [decide_eq_true_eq, decide_eq_false_iff_not, Bool.not_eq_true', Bool.not_eq_false', Bool.or_eq_true, Bool.and_eq_true, Bool.or_eq_false_iff, Bool.and_eq_false_iff, Int.not_lt, Int.not_le, Bool.not_true, Bool.not_false, not_and, not_or] at h1)
    exact absurd h1 (by decide)
  · (try simp only [decide_eq_true_eq, decide_eq_false_iff_not, Bool.not_eq_true', Bool.not_eq_false', Bool.or_eq_true, Bool.and_eq_true, Bool.or_eq_false_iff, Bool.and_eq_false_iff, Int.not_lt, Int.not_le, Bool.not_true, Bool.not_false, not_and, not_or] at h1)
    (iterate 2 ((try simp (etaStruct := .none) only [push_cast, DrawG, Int.cast_ofNat_Int, Nat.reduceAdd, Nat.reduceSub, Nat.reduceMul, reduceCtorEq, reduceIte, Nat.reduceEqDiff, Nat.reduceLT, Nat.reduceLeDiff, Nat.reduceBEq, Int.reduceToNat, Int.reduceLE, Int.reduceLT, Int.ofNat_zero, hrunS, getD_in _ _ _ hbF, i64P]); (try simp (disch := omega) only [wrap_in, wk_self, Int.tdiv_eq_ediv_of_nonneg, Int.tmod_eq_emod_of_nonneg]); (repeat with_reducible refine obA ?_)))
    refine callP (at_s f b hl) (WkL.refl _) ?_
    rw [atV_at hf, if_pos hb]
    (iterate 2 ((try simp (etaStruct := .none) only [push_cast, DrawG, Int.cast_ofNat_Int, Nat.reduceAdd, Nat.reduceSub, Nat.reduceMul, reduceCtorEq, reduceIte, Nat.reduceEqDiff, Nat.reduceLT, Nat.reduceLeDiff, Nat.reduceBEq, Int.reduceToNat, Int.reduceLE, Int.reduceLT, Int.ofNat_zero, hrunS, getD_in _ _ _ hbF, i64P]); (try simp (disch := omega) only [wrap_in, wk_self, Int.tdiv_eq_ediv_of_nonneg, Int.tmod_eq_emod_of_nonneg]); (repeat with_reducible refine obA ?_)))
    refine cond_i (fun h2 => ?_) (fun h2 => ?_)
    · (try simp only [decide_eq_true_eq, decide_eq_false_iff_not, Bool.not_eq_true', Bool.not_eq_false', Bool.or_eq_true, Bool.and_eq_true, Bool.or_eq_false_iff, Bool.and_eq_false_iff, Int.not_lt, Int.not_le, Bool.not_true, Bool.not_false, not_and, not_or] at h2)
      exact absurd h2 (by decide)
    · (try simp only [decide_eq_true_eq, decide_eq_false_iff_not, Bool.not_eq_true', Bool.not_eq_false', Bool.or_eq_true, Bool.and_eq_true, Bool.or_eq_false_iff, Bool.and_eq_false_iff, Int.not_lt, Int.not_le, Bool.not_true, Bool.not_false, not_and, not_or] at h2)
      (iterate 2 ((try simp (etaStruct := .none) only [push_cast, DrawG, Int.cast_ofNat_Int, Nat.reduceAdd, Nat.reduceSub, Nat.reduceMul, reduceCtorEq, reduceIte, Nat.reduceEqDiff, Nat.reduceLT, Nat.reduceLeDiff, Nat.reduceBEq, Int.reduceToNat, Int.reduceLE, Int.reduceLT, Int.ofNat_zero, hrunS, getD_in _ _ _ hbF, i64P]); (try simp (disch := omega) only [wrap_in, wk_self, Int.tdiv_eq_ediv_of_nonneg, Int.tmod_eq_emod_of_nonneg]); (repeat with_reducible refine obA ?_)))
      refine cond_i (fun h3 => ?_) (fun h3 => ?_)
      · (try simp only [decide_eq_true_eq, decide_eq_false_iff_not, Bool.not_eq_true', Bool.not_eq_false', Bool.or_eq_true, Bool.and_eq_true, Bool.or_eq_false_iff, Bool.and_eq_false_iff, Int.not_lt, Int.not_le, Bool.not_true, Bool.not_false, not_and, not_or] at h3)
        rcases h3 with h3 | h3
        · exact absurd h3 hpa
        · exact absurd h3 hpb
      · (try simp only [decide_eq_true_eq, decide_eq_false_iff_not, Bool.not_eq_true', Bool.not_eq_false', Bool.or_eq_true, Bool.and_eq_true, Bool.or_eq_false_iff, Bool.and_eq_false_iff, Int.not_lt, Int.not_le, Bool.not_true, Bool.not_false, not_and, not_or] at h3)
        (iterate 2 ((try simp (etaStruct := .none) only [push_cast, DrawG, Int.cast_ofNat_Int, Nat.reduceAdd, Nat.reduceSub, Nat.reduceMul, reduceCtorEq, reduceIte, Nat.reduceEqDiff, Nat.reduceLT, Nat.reduceLeDiff, Nat.reduceBEq, Int.reduceToNat, Int.reduceLE, Int.reduceLT, Int.ofNat_zero, hrunS, getD_in _ _ _ hbF, i64P]); (try simp (disch := omega) only [wrap_in, wk_self, Int.tdiv_eq_ediv_of_nonneg, Int.tmod_eq_emod_of_nonneg]); (repeat with_reducible refine obA ?_)))
        refine callM [11] (repeat_s f.p.length (by omega) (by omega)) (WkL.refl _) rfl (by decide) (by simp [lookC_c, onlyC, memN]) ?_
        (iterate 2 ((try simp (etaStruct := .none) only [push_cast, DrawG, Int.cast_ofNat_Int, Nat.reduceAdd, Nat.reduceSub, Nat.reduceMul, reduceCtorEq, reduceIte, Nat.reduceEqDiff, Nat.reduceLT, Nat.reduceLeDiff, Nat.reduceBEq, Int.reduceToNat, Int.reduceLE, Int.reduceLT, Int.ofNat_zero, hrunS, getD_in _ _ _ hbF, i64P]); (try simp (disch := omega) only [wrap_in, wk_self, Int.tdiv_eq_ediv_of_nonneg, Int.tmod_eq_emod_of_nonneg]); (repeat with_reducible refine obA ?_)))
        (try (refine ⟨by kernel_rfl, ?_⟩))
        (iterate 2 ((try simp (etaStruct := .none) only [push_cast, DrawG, Int.cast_ofNat_Int, Nat.reduceAdd, Nat.reduceSub, Nat.reduceMul, reduceCtorEq, reduceIte, Nat.reduceEqDiff, Nat.reduceLT, Nat.reduceLeDiff, Nat.reduceBEq, Int.reduceToNat, Int.reduceLE, Int.reduceLT, Int.ofNat_zero, hrunS, getD_in _ _ _ hbF, i64P]); (try simp (disch := omega) only [wrap_in, wk_self, Int.tdiv_eq_ediv_of_nonneg, Int.tmod_eq_emod_of_nonneg]); (repeat with_reducible refine obA ?_)))
        refine callM [35, 27] (ppush0_s f b (List.replicate f.p.length (-1)) a 0 (by omega) (by omega) (by omega) (by omega) (by omega)) (WkL.refl _) rfl (by decide) (by simp [lookC_c]) ?_
        (iterate 2 ((try simp (etaStruct := .none) only [push_cast, DrawG, Int.cast_ofNat_Int, Nat.reduceAdd, Nat.reduceSub, Nat.reduceMul, reduceCtorEq, reduceIte, Nat.reduceEqDiff, Nat.reduceLT, Nat.reduceLeDiff, Nat.reduceBEq, Int.reduceToNat, Int.reduceLE, Int.reduceLT, Int.ofNat_zero, hrunS, getD_in _ _ _ hbF, i64P]); (try simp (disch := omega) only [wrap_in, wk_self, Int.tdiv_eq_ediv_of_nonneg, Int.tmod_eq_emod_of_nonneg]); (repeat with_reducible refine obA ?_)))
        refine callM [35, 27, 43] (prun_s f b hw hh hW hf hL hb (idxN f a) 8001 (List.replicate f.p.length (-1)) (hpush Nod.all [] ⟨a, 0, 0 + leftH b a⟩) hA0 hmu0 (by decide)) (WkL.refl _) rfl (by decide) (by simp [lookC_c]) ?_
        (iterate 2 ((try simp (etaStruct := .none) only [push_cast, DrawG, Int.cast_ofNat_Int, Nat.reduceAdd, Nat.reduceSub, Nat.reduceMul, reduceCtorEq, reduceIte, Nat.reduceEqDiff, Nat.reduceLT, Nat.reduceLeDiff, Nat.reduceBEq, Int.reduceToNat, Int.reduceLE, Int.reduceLT, Int.ofNat_zero, hrunS, getD_in _ _ _ hbF, i64P]); (try simp (disch := omega) only [wrap_in, wk_self, Int.tdiv_eq_ediv_of_nonneg, Int.tmod_eq_emod_of_nonneg]); (repeat with_reducible refine obA ?_)))
        refine callB (pindex_s f b (runS f a b).1 (runS f a b).2 b hf hb) (WkL.refl _) rfl ?_
        (iterate 2 ((try simp (etaStruct := .none) only [push_cast, DrawG, Int.cast_ofNat_Int, Nat.reduceAdd, Nat.reduceSub, Nat.reduceMul, reduceCtorEq, reduceIte, Nat.reduceEqDiff, Nat.reduceLT, Nat.reduceLeDiff, Nat.reduceBEq, Int.reduceToNat, Int.reduceLE, Int.reduceLT, Int.ofNat_zero, hrunS, getD_in _ _ _ hbF, i64P]); (try simp (disch := omega) only [wrap_in, wk_self, Int.tdiv_eq_ediv_of_nonneg, Int.tmod_eq_emod_of_nonneg]); (repeat with_reducible refine obA ?_)))
        (try (refine ⟨by kernel_rfl, ?_⟩))
        (iterate 2 ((try simp (etaStruct := .none) only [push_cast, DrawG, Int.cast_ofNat_Int, Nat.reduceAdd, Nat.reduceSub, Nat.reduceMul, reduceCtorEq, reduceIte, Nat.reduceEqDiff, Nat.reduceLT, Nat.reduceLeDiff, Nat.reduceBEq, Int.reduceToNat, Int.reduceLE, Int.reduceLT, Int.ofNat_zero, hrunS, getD_in _ _ _ hbF, i64P]); (try simp (disch := omega) only [wrap_in, wk_self, Int.tdiv_eq_ediv_of_nonneg, Int.tmod_eq_emod_of_nonneg]); (repeat with_reducible refine obA ?_)))
        refine cond_i (fun h4 => ?_) (fun h4 => ?_)
        · (try simp only [decide_eq_true_eq, decide_eq_false_iff_not, Bool.not_eq_true', Bool.not_eq_false', Bool.or_eq_true, Bool.and_eq_true, Bool.or_eq_false_iff, Bool.and_eq_false_iff, Int.not_lt, Int.not_le, Bool.not_true, Bool.not_false, not_and, not_or] at h4)
          (iterate 2 ((try simp (etaStruct := .none) only [push_cast, DrawG, Int.cast_ofNat_Int, Nat.reduceAdd, Nat.reduceSub, Nat.reduceMul, reduceCtorEq, reduceIte, Nat.reduceEqDiff, Nat.reduceLT, Nat.reduceLeDiff, Nat.reduceBEq, Int.reduceToNat, Int.reduceLE, Int.reduceLT, Int.ofNat_zero, hrunS, getD_in _ _ _ hbF, i64P]); (try simp (disch := omega) only [wrap_in, wk_self, Int.tdiv_eq_ediv_of_nonneg, Int.tmod_eq_emod_of_nonneg]); (repeat with_reducible refine obA ?_)))
          (first | (refine ret0 rfl (by repeat' (first | exact trivial | exact rfl | refine ⟨?_, ?_⟩)) (Wk.of ?_); (try simp (etaStruct := .none) only [push_cast, DrawG, Int.cast_ofNat_Int, Nat.reduceAdd, Nat.reduceSub, Nat.reduceMul, reduceCtorEq, reduceIte, Nat.reduceEqDiff, Nat.reduceLT, Nat.reduceLeDiff, Nat.reduceBEq, Int.reduceToNat, Int.reduceLE, Int.reduceLT]); first | done | (simp [*]; done) | (simp_all []; done)) | (refine ret0 rfl (by repeat' (first | exact trivial | exact rfl | refine ⟨?_, ?_⟩)) ?_; (try simp (etaStruct := .none) only [push_cast, DrawG, Int.cast_ofNat_Int, Nat.reduceAdd, Nat.reduceSub, Nat.reduceMul, reduceCtorEq, reduceIte, Nat.reduceEqDiff, Nat.reduceLT, Nat.reduceLeDiff, Nat.reduceBEq, Int.reduceToNat, Int.reduceLE, Int.reduceLT]); (try simp [*]); (try (first | exact Wk.refl _ | exact Wk.nil _ | (refine Wk.tup ?_; repeat' (first | exact trivial | exact Wk.refl _ | exact Wk.nil _ | refine ⟨?_, ?_⟩ | (refine Wk.agg ?_)))))))
        · (try simp only [decide_eq_true_eq, decide_eq_false_iff_not, Bool.not_eq_true', Bool.not_eq_false', Bool.or_eq_true, Bool.and_eq_true, Bool.or_eq_false_iff, Bool.and_eq_false_iff, Int.not_lt, Int.not_le, Bool.not_true, Bool.not_false, not_and, not_or] at h4)
          exact absurd (hend.1.2 h0) (by omega)
theorem searched_ok (f : Fld) (a b : Cel) (hl : f.p.length ≤ 9223372036854775807) {R : List Int} (hf : fldE f = 0) (ha : inF f a = true) (hb : inF f b = true) (hpa : placeV f a ≠ 1) (hpb : placeV f b ≠ 1) (hR : FloodIs f [a] R) (h0 : 0 ≤ R.getD (idxN f b) default) : Spec Try.prog 108 [fldA f, celA a, celA b] [] (.tup [.ptr 0 0 0, I .i64 0]) [srB f b (.own 1) (.own 2), .row 3 1 ((runS f a b).1.map i64P), .row 323 4 ((runS f a b).2.map nodP)] := by
  obtain ⟨W, H, s⟩ := srch (b := b) hf ha hpa hR
  have hend := s.end hf ha hb
  obtain ⟨hw, hh, hW, hL, hFl, hAe, _⟩ := s
  have hA0 := As0 hw hh hW hf b ha
  have hmu0 := muS0 f ⟨a, 0, 0 + leftH b a⟩ (place_ix hf ha).2.2.2.2
  have hai := inF_iff.1 ha
  have hbi := inF_iff.1 hb
  have hfo := fldE_ok hf
  have hpx := place_ix hf ha
  have hrunS : runF f b 8001 (List.replicate f.p.length (-1)) (hpush Nod.all [] ⟨a, 0, 0 + leftH b a⟩) = runS f a b := rfl
  have hbF : idxN f b < (runS f a b).1.length := by rw [hAe.len]; exact (in_celW hw hh hW hf hb).2
  refine spec_am Try.func108 rfl rfl mix 61 rfl [.tmp 6, .tmp 7] Try.results108 (Nat.le_of_ble_eq_true rfl) ?_
  (iterate 2 ((try simp (etaStruct := .none) only [push_cast, DrawG, Int.cast_ofNat_Int, Nat.reduceAdd, Nat.reduceSub, Nat.reduceMul, reduceCtorEq, reduceIte, Nat.reduceEqDiff, Nat.reduceLT, Nat.reduceLeDiff, Nat.reduceBEq, Int.reduceToNat, Int.reduceLE, Int.reduceLT, Int.ofNat_zero, hrunS, getD_in _ _ _ hbF, i64P]); (try simp (disch := omega) only [wrap_in, wk_self, Int.tdiv_eq_ediv_of_nonneg, Int.tmod_eq_emod_of_nonneg]); (repeat with_reducible refine obA ?_)))
  refine callP (at_s f a hl) (WkL.refl _) ?_
  rw [atV_at hf, if_pos ha]
  (iterate 2 ((try simp (etaStruct := .none) only [push_cast, DrawG, Int.cast_ofNat_Int, Nat.reduceAdd, Nat.reduceSub, Nat.reduceMul, reduceCtorEq, reduceIte, Nat.reduceEqDiff, Nat.reduceLT, Nat.reduceLeDiff, Nat.reduceBEq, Int.reduceToNat, Int.reduceLE, Int.reduceLT, Int.ofNat_zero, hrunS, getD_in _ _ _ hbF, i64P]); (try simp (disch := omega) only [wrap_in, wk_self, Int.tdiv_eq_ediv_of_nonneg, Int.tmod_eq_emod_of_nonneg]); (repeat with_reducible refine obA ?_)))
  refine cond_i (fun h1 => ?_) (fun h1 => ?_)
  · (try simp only [decide_eq_true_eq, decide_eq_false_iff_not, Bool.not_eq_true', Bool.not_eq_false', Bool.or_eq_true, Bool.and_eq_true, Bool.or_eq_false_iff, Bool.and_eq_false_iff, Int.not_lt, Int.not_le, Bool.not_true, Bool.not_false, not_and, not_or] at h1)
    exact absurd h1 (by decide)
  · (try simp only [decide_eq_true_eq, decide_eq_false_iff_not, Bool.not_eq_true', Bool.not_eq_false', Bool.or_eq_true, Bool.and_eq_true, Bool.or_eq_false_iff, Bool.and_eq_false_iff, Int.not_lt, Int.not_le, Bool.not_true, Bool.not_false, not_and, not_or] at h1)
    (iterate 2 ((try simp (etaStruct := .none) only [push_cast, DrawG, Int.cast_ofNat_Int, Nat.reduceAdd, Nat.reduceSub, Nat.reduceMul, reduceCtorEq, reduceIte, Nat.reduceEqDiff, Nat.reduceLT, Nat.reduceLeDiff, Nat.reduceBEq, Int.reduceToNat, Int.reduceLE, Int.reduceLT, Int.ofNat_zero, hrunS, getD_in _ _ _ hbF, i64P]); (try simp (disch := omega) only [wrap_in, wk_self, Int.tdiv_eq_ediv_of_nonneg, Int.tmod_eq_emod_of_nonneg]); (repeat with_reducible refine obA ?_)))
    refine callP (at_s f b hl) (WkL.refl _) ?_
    rw [atV_at hf, if_pos hb]
    (iterate 2 ((try simp (etaStruct := .none) only [push_cast, DrawG, Int.cast_ofNat_Int, Nat.reduceAdd, Nat.reduceSub, Nat.reduceMul, reduceCtorEq, reduceIte, Nat.reduceEqDiff, Nat.reduceLT, Nat.reduceLeDiff, Nat.reduceBEq, Int.reduceToNat, Int.reduceLE, Int.reduceLT, Int.ofNat_zero, hrunS, getD_in _ _ _ hbF, i64P]); (try simp (disch := omega) only [wrap_in, wk_self, Int.tdiv_eq_ediv_of_nonneg, Int.tmod_eq_emod_of_nonneg]); (repeat with_reducible refine obA ?_)))
    refine cond_i (fun h2 => ?_) (fun h2 => ?_)
    · (try simp only [decide_eq_true_eq, decide_eq_false_iff_not, Bool.not_eq_true', Bool.not_eq_false', Bool.or_eq_true, Bool.and_eq_true, Bool.or_eq_false_iff, Bool.and_eq_false_iff, Int.not_lt, Int.not_le, Bool.not_true, Bool.not_false, not_and, not_or] at h2)
      exact absurd h2 (by decide)
    · (try simp only [decide_eq_true_eq, decide_eq_false_iff_not, Bool.not_eq_true', Bool.not_eq_false', Bool.or_eq_true, Bool.and_eq_true, Bool.or_eq_false_iff, Bool.and_eq_false_iff, Int.not_lt, Int.not_le, Bool.not_true, Bool.not_false, not_and, not_or] at h2)
      (iterate 2 ((try simp (etaStruct := .none) only [push_cast, DrawG, Int.cast_ofNat_Int, Nat.reduceAdd, Nat.reduceSub, Nat.reduceMul, reduceCtorEq, reduceIte, Nat.reduceEqDiff, Nat.reduceLT, Nat.reduceLeDiff, Nat.reduceBEq, Int.reduceToNat, Int.reduceLE, Int.reduceLT, Int.ofNat_zero, hrunS, getD_in _ _ _ hbF, i64P]); (try simp (disch := omega) only [wrap_in, wk_self, Int.tdiv_eq_ediv_of_nonneg, Int.tmod_eq_emod_of_nonneg]); (repeat with_reducible refine obA ?_)))
      refine cond_i (fun h3 => ?_) (fun h3 => ?_)
      · (try simp only [decide_eq_true_eq, decide_eq_false_iff_not, Bool.not_eq_true', Bool.not_eq_false', Bool.or_eq_true, Bool.and_eq_true, Bool.or_eq_false_iff, Bool.and_eq_false_iff, Int.not_lt, Int.not_le, Bool.not_true, Bool.not_false, not_and, not_or] at h3)
        rcases h3 with h3 | h3
        · exact absurd h3 hpa
        · exact absurd h3 hpb
      · (try simp only [decide_eq_true_eq, decide_eq_false_iff_not, Bool.not_eq_true', Bool.not_eq_false', Bool.or_eq_true, Bool.and_eq_true, Bool.or_eq_false_iff, Bool.and_eq_false_iff, Int.not_lt, Int.not_le, Bool.not_true, Bool.not_false, not_and, not_or] at h3)
        (iterate 2 ((try simp (etaStruct := .none) only [push_cast, DrawG, Int.cast_ofNat_Int, Nat.reduceAdd, Nat.reduceSub, Nat.reduceMul, reduceCtorEq, reduceIte, Nat.reduceEqDiff, Nat.reduceLT, Nat.reduceLeDiff, Nat.reduceBEq, Int.reduceToNat, Int.reduceLE, Int.reduceLT, Int.ofNat_zero, hrunS, getD_in _ _ _ hbF, i64P]); (try simp (disch := omega) only [wrap_in, wk_self, Int.tdiv_eq_ediv_of_nonneg, Int.tmod_eq_emod_of_nonneg]); (repeat with_reducible refine obA ?_)))
        refine callM [11] (repeat_s f.p.length (by omega) (by omega)) (WkL.refl _) rfl (by decide) (by simp [lookC_c, onlyC, memN]) ?_
        (iterate 2 ((try simp (etaStruct := .none) only [push_cast, DrawG, Int.cast_ofNat_Int, Nat.reduceAdd, Nat.reduceSub, Nat.reduceMul, reduceCtorEq, reduceIte, Nat.reduceEqDiff, Nat.reduceLT, Nat.reduceLeDiff, Nat.reduceBEq, Int.reduceToNat, Int.reduceLE, Int.reduceLT, Int.ofNat_zero, hrunS, getD_in _ _ _ hbF, i64P]); (try simp (disch := omega) only [wrap_in, wk_self, Int.tdiv_eq_ediv_of_nonneg, Int.tmod_eq_emod_of_nonneg]); (repeat with_reducible refine obA ?_)))
        (try (refine ⟨by kernel_rfl, ?_⟩))
        (iterate 2 ((try simp (etaStruct := .none) only [push_cast, DrawG, Int.cast_ofNat_Int, Nat.reduceAdd, Nat.reduceSub, Nat.reduceMul, reduceCtorEq, reduceIte, Nat.reduceEqDiff, Nat.reduceLT, Nat.reduceLeDiff, Nat.reduceBEq, Int.reduceToNat, Int.reduceLE, Int.reduceLT, Int.ofNat_zero, hrunS, getD_in _ _ _ hbF, i64P]); (try simp (disch := omega) only [wrap_in, wk_self, Int.tdiv_eq_ediv_of_nonneg, Int.tmod_eq_emod_of_nonneg]); (repeat with_reducible refine obA ?_)))
        refine callM [35, 27] (ppush0_s f b (List.replicate f.p.length (-1)) a 0 (by omega) (by omega) (by omega) (by omega) (by omega)) (WkL.refl _) rfl (by decide) (by simp [lookC_c]) ?_
        (iterate 2 ((try simp (etaStruct := .none) only [push_cast, DrawG, Int.cast_ofNat_Int, Nat.reduceAdd, Nat.reduceSub, Nat.reduceMul, reduceCtorEq, reduceIte, Nat.reduceEqDiff, Nat.reduceLT, Nat.reduceLeDiff, Nat.reduceBEq, Int.reduceToNat, Int.reduceLE, Int.reduceLT, Int.ofNat_zero, hrunS, getD_in _ _ _ hbF, i64P]); (try simp (disch := omega) only [wrap_in, wk_self, Int.tdiv_eq_ediv_of_nonneg, Int.tmod_eq_emod_of_nonneg]); (repeat with_reducible refine obA ?_)))
        refine callM [35, 27, 43] (prun_s f b hw hh hW hf hL hb (idxN f a) 8001 (List.replicate f.p.length (-1)) (hpush Nod.all [] ⟨a, 0, 0 + leftH b a⟩) hA0 hmu0 (by decide)) (WkL.refl _) rfl (by decide) (by simp [lookC_c]) ?_
        (iterate 2 ((try simp (etaStruct := .none) only [push_cast, DrawG, Int.cast_ofNat_Int, Nat.reduceAdd, Nat.reduceSub, Nat.reduceMul, reduceCtorEq, reduceIte, Nat.reduceEqDiff, Nat.reduceLT, Nat.reduceLeDiff, Nat.reduceBEq, Int.reduceToNat, Int.reduceLE, Int.reduceLT, Int.ofNat_zero, hrunS, getD_in _ _ _ hbF, i64P]); (try simp (disch := omega) only [wrap_in, wk_self, Int.tdiv_eq_ediv_of_nonneg, Int.tmod_eq_emod_of_nonneg]); (repeat with_reducible refine obA ?_)))
        refine callB (pindex_s f b (runS f a b).1 (runS f a b).2 b hf hb) (WkL.refl _) rfl ?_
        (iterate 2 ((try simp (etaStruct := .none) only [push_cast, DrawG, Int.cast_ofNat_Int, Nat.reduceAdd, Nat.reduceSub, Nat.reduceMul, reduceCtorEq, reduceIte, Nat.reduceEqDiff, Nat.reduceLT, Nat.reduceLeDiff, Nat.reduceBEq, Int.reduceToNat, Int.reduceLE, Int.reduceLT, Int.ofNat_zero, hrunS, getD_in _ _ _ hbF, i64P]); (try simp (disch := omega) only [wrap_in, wk_self, Int.tdiv_eq_ediv_of_nonneg, Int.tmod_eq_emod_of_nonneg]); (repeat with_reducible refine obA ?_)))
        (try (refine ⟨by kernel_rfl, ?_⟩))
        (iterate 2 ((try simp (etaStruct := .none) only [push_cast, DrawG, Int.cast_ofNat_Int, Nat.reduceAdd, Nat.reduceSub, Nat.reduceMul, reduceCtorEq, reduceIte, Nat.reduceEqDiff, Nat.reduceLT, Nat.reduceLeDiff, Nat.reduceBEq, Int.reduceToNat, Int.reduceLE, Int.reduceLT, Int.ofNat_zero, hrunS, getD_in _ _ _ hbF, i64P]); (try simp (disch := omega) only [wrap_in, wk_self, Int.tdiv_eq_ediv_of_nonneg, Int.tmod_eq_emod_of_nonneg]); (repeat with_reducible refine obA ?_)))
        refine cond_i (fun h4 => ?_) (fun h4 => ?_)
        · (try simp only [decide_eq_true_eq, decide_eq_false_iff_not, Bool.not_eq_true', Bool.not_eq_false', Bool.or_eq_true, Bool.and_eq_true, Bool.or_eq_false_iff, Bool.and_eq_false_iff, Int.not_lt, Int.not_le, Bool.not_true, Bool.not_false, not_and, not_or] at h4)
          exact absurd (hend.1.1 h4) (by omega)
        · (try simp only [decide_eq_true_eq, decide_eq_false_iff_not, Bool.not_eq_true', Bool.not_eq_false', Bool.or_eq_true, Bool.and_eq_true, Bool.or_eq_false_iff, Bool.and_eq_false_iff, Int.not_lt, Int.not_le, Bool.not_true, Bool.not_false, not_and, not_or] at h4)
          (iterate 2 ((try simp (etaStruct := .none) only [push_cast, DrawG, Int.cast_ofNat_Int, Nat.reduceAdd, Nat.reduceSub, Nat.reduceMul, reduceCtorEq, reduceIte, Nat.reduceEqDiff, Nat.reduceLT, Nat.reduceLeDiff, Nat.reduceBEq, Int.reduceToNat, Int.reduceLE, Int.reduceLT, Int.ofNat_zero, hrunS, getD_in _ _ _ hbF, i64P]); (try simp (disch := omega) only [wrap_in, wk_self, Int.tdiv_eq_ediv_of_nonneg, Int.tmod_eq_emod_of_nonneg]); (repeat with_reducible refine obA ?_)))
          refine retM [35, 27, 44] rfl rfl (by decide) ⟨?_, ?_, ?_, trivial⟩ trivial ?_ <;> simp (etaStruct := .none) only [push_cast, DrawG, Int.cast_ofNat_Int, Nat.reduceAdd, Nat.reduceSub, Nat.reduceMul, reduceCtorEq, reduceIte, Nat.reduceEqDiff, Nat.reduceLT, Nat.reduceLeDiff, Nat.reduceBEq, Int.reduceToNat, Int.reduceLE, Int.reduceLT]
end Go.Proofs.Ytehcnnodkhcgfaa
namespace Go.Proofs.Ytehcnnodkhcgfaa
set_option linter.all false
open Go.RowKit
set_option maxRecDepth 100000
set_option maxHeartbeats 1000000
def dropS (l : List Sea) (T : List Nat) : List Sea := (List.range l.length).map fun i => ⟨(l.getD i default).waits.drop (T.getD i default), (lateS (l.getD i default)).late, (l.getD i default).gone⟩
theorem dropS_len (l : List Sea) (T : List Nat) : (dropS l T).length = l.length := by simp [dropS]
theorem dropS_at (l : List Sea) (T : List Nat) (i : Nat) (h : i < l.length) : (dropS l T).getD i default = ⟨(l.getD i default).waits.drop (T.getD i default), (lateS (l.getD i default)).late, (l.getD i default).gone⟩ := by
  rw [getD_at _ _ (by rw [dropS_len]; exact h)]
  simp [dropS]
theorem ext_getD {α : Type} [Inhabited α] {l m : List α} (h : l.length = m.length) (h2 : ∀ i, i < l.length → l.getD i default = m.getD i default) : l = m := by
  refine List.ext_getElem h fun i i1 i2 => ?_
  have := h2 i i1
  rwa [getD_at _ _ i1, getD_at _ _ i2] at this
theorem set_getD {α : Type} [Inhabited α] (l : List α) (i j : Nat) (x : α) (h : i < l.length) : (l.set i x).getD j default = if i = j then x else l.getD j default := by
  by_cases e : i = j
  · subst e; rw [if_pos rfl, getD_at _ _ (by simpa using h)]; simp
  · rw [if_neg e, List.getD_eq_getElem?_getD, List.getElem?_set_ne e, List.getD_eq_getElem?_getD]
def TkQ (most : Int) (l : List Sea) (k i : Nat) (o : List Ord) (U : List Nat) : Prop :=
  U.length = l.length ∧ o.length ≤ 100 ∧ (∀ j, j < l.length → U.getD j default ≤ (l.getD j default).waits.length) ∧
  ((o.length : Int) < most → ∀ j, j < l.length → U.getD j default = if j < i then min (k + 1) (l.getD j default).waits.length else min k (l.getD j default).waits.length)
theorem TkQ.t {most : Int} {l : List Sea} {k i : Nat} {o : List Ord} {U : List Nat} (h : TkQ most l k i o U) (hi : i < l.length) (hk : k < (l.getD i default).waits.length) (hm : (o.length : Int) < most) (hm2 : most ≤ 100) (x : Ord) :
    U.getD i default = k ∧ TkQ most l k (i + 1) (o ++ [x]) (U.set i (k + 1)) := by
  obtain ⟨h1, h2, h3, h4⟩ := h
  have e := h4 hm i hi
  rw [if_neg (by omega), Nat.min_eq_left (by omega)] at e
  refine ⟨e, by simp [h1], by simp; omega, fun j hj => ?_, fun hm' j hj => ?_⟩
  · rw [set_getD _ _ _ _ (by omega)]
    split
    · rename_i e'; subst e'; omega
    · exact h3 j hj
  · have := h4 hm j hj
    rw [set_getD _ _ _ _ (by omega)]
    by_cases e' : i = j
    · subst e'; rw [if_pos rfl, if_pos (by omega)]; omega
    · rw [if_neg e', this]
      by_cases e2 : j < i
      · rw [if_pos e2, if_pos (by omega)]
      · rw [if_neg e2, if_neg (by omega)]
theorem TkQ.f {most : Int} {l : List Sea} {k i : Nat} {o : List Ord} {U : List Nat} (h : TkQ most l k i o U) (hi : i < l.length) (hc : ¬ (k < (l.getD i default).waits.length ∧ (o.length : Int) < most)) : TkQ most l k (i + 1) o U ∧ ¬ (0 < ((dropS l U).getD i default).waits.length ∧ (o.length : Int) < most) := by
  obtain ⟨h1, h2, h3, h4⟩ := h
  refine ⟨⟨h1, h2, h3, fun hm j hj => ?_⟩, ?_⟩
  · rw [h4 hm j hj]
    by_cases e : j = i
    · subst e; rw [if_neg (by omega), if_pos (by omega)]; omega
    · by_cases e2 : j < i
      · rw [if_pos e2, if_pos (by omega)]
      · rw [if_neg e2, if_neg (by omega)]
  · rw [dropS_at _ _ _ hi]
    simp only [List.length_drop]
    rintro ⟨h5, h6⟩
    have := h4 h6 i hi
    rw [if_neg (by omega)] at this
    omega
theorem TkQ.next {most : Int} {l : List Sea} {k : Nat} {o : List Ord} {U : List Nat} (h : TkQ most l k l.length o U) : TkQ most l (k + 1) 0 o U := by
  obtain ⟨h1, h2, h3, h4⟩ := h
  refine ⟨h1, h2, h3, fun hm j hj => ?_⟩
  rw [h4 hm j hj, if_pos hj, if_neg (by omega)]
theorem TkQ.zero (most : Int) (l : List Sea) : TkQ most l 0 0 [] (List.replicate l.length 0) := by
  refine ⟨by simp, by simp, fun j hj => ?_, fun _ j hj => ?_⟩ <;> rw [getD_at _ _ (by simpa using hj)] <;> simp
end Go.Proofs.Ytehcnnodkhcgfaa
