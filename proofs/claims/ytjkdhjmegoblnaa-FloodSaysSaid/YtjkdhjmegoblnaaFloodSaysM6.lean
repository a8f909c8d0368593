/- FloodSays: whatever is handed in, Cost and From answer what the document says. No condition. -/
import Derived.Test.YtjkdhjmegoblnaaFloodSaysM5
import Derived.Test.YtjkdhjmegoblnaaChecked
import Derived.Test.YtjkdhjmegoblnaaRows
namespace Go.Proofs.Ytjkdhjmegoblnaa
set_option linter.all false
open Go.RowKit Go.ChangeShapes Go.WideShapes Go.ChangeAt
set_option maxRecDepth 100000
def fldP (f : Fld) : List PV := [pI f.w, pI f.h, .sl 1 (f.p.map i64P)]
theorem opInts (w : World) : OpA Try.prog 41 1 w (fun xs : List Int => [.sl 1 (xs.map i64P)]) (fun xs => (∀ x ∈ xs, In64 x) ∧ xs.length * 8 ≤ 140737488351232 ∧ xs.length ≤ 9223372036854775807) :=
  OpA.slice Try.underlying41 (by kernel_rfl) (by decide) (by kernel_rfl) (OpA.i64 Try.underlying3)
theorem opCel (w : World) : OpA Try.prog 25 2 w celP (fun c => In64 c.x ∧ In64 c.y) :=
  (OpA.struct Try.underlying25 (by kernel_rfl) (OpAF.cons rfl rfl (OpA.i64 Try.underlying3) (OpAF.cons rfl rfl (OpA.i64 Try.underlying3) OpAF.nil))).map (fun x => ⟨x.1, x.2.1⟩) (fun _ => rfl) (fun _ h => ⟨h.1, h.2.1⟩)
theorem opFld (w : World) : OpA Try.prog 43 3 w fldP (fun f => In64 f.w ∧ In64 f.h ∧ (∀ x ∈ f.p, In64 x) ∧ f.p.length * 8 ≤ 140737488351232 ∧ f.p.length ≤ 9223372036854775807) :=
  (OpA.struct Try.underlying43 (by kernel_rfl) (OpAF.cons rfl rfl (OpA.i64 Try.underlying3) (OpAF.cons rfl rfl (OpA.i64 Try.underlying3) (OpAF.cons rfl rfl (opInts w) OpAF.nil)))).map (fun x => ⟨x.1, x.2.1, x.2.2.1⟩) (fun _ => rfl) (fun _ h => ⟨h.1, h.2.1, h.2.2.1⟩)
end Go.Proofs.Ytjkdhjmegoblnaa
namespace Go.Proofs.Ytjkdhjmegoblnaa
set_option linter.all false
open Go.RowKit
set_option maxRecDepth 100000
set_option maxHeartbeats 1000000
structure Knd where
  life : Int
  blow : Int
  load : Int
  price : Int
  deriving DecidableEq, Inhabited
end Go.Proofs.Ytjkdhjmegoblnaa
namespace Go.Proofs.Ytjkdhjmegoblnaa
set_option linter.all false
open Go.RowKit Go.ChangeShapes Go.WideShapes Go.ChangeAt
set_option maxRecDepth 100000
theorem opCels (w : World) : OpA Try.prog 44 1 w (fun xs : List Cel => [.sl 2 (xs.map celP)]) (fun xs => (∀ x ∈ xs, In64 x.x ∧ In64 x.y) ∧ xs.length * 16 ≤ 140737488351232 ∧ xs.length ≤ 9223372036854775807) :=
  OpA.slice Try.underlying44 (by kernel_rfl) (by decide) (by kernel_rfl) (opCel w)
end Go.Proofs.Ytjkdhjmegoblnaa
namespace Go.Proofs.Ytjkdhjmegoblnaa
set_option linter.all false
open Go.RowKit Go.ChangeShapes Go.WideShapes Go.ChangeAt
namespace floodSays
set_option maxRecDepth 100000
set_option maxHeartbeats 400000
theorem law (f : Fld) (l : List Cel) (q : Int) (h0 : In64 f.w ∧ In64 f.h ∧ (∀ x ∈ f.p, In64 x) ∧ f.p.length * 8 ≤ 140737488351232 ∧ f.p.length ≤ 9223372036854775807) (h1 : (∀ x ∈ l, In64 x.x ∧ In64 x.y) ∧ l.length * 16 ≤ 140737488351232 ∧ l.length ≤ 9223372036854775807) (h2 : In64 q) : Spec Try.prog 4 [fldA f, .c (.sl 2 (l.map celP)), I .i64 q] [] (B true) [] := by
  obtain ⟨R, hR⟩ := flood_is f l
  have hr : R.length ≤ 9223372036854775807 := Nat.le_trans hR.2.2 h0.2.2.2.2
  have hq : within q 0 3 = true → 0 ≤ q ∧ q < 4 := fun h => by rw [within_iff] at h; omega
  refine spec_am Try.func4 rfl rfl mix 56 rfl [.tmp 6] Try.results4 (Nat.le_of_ble_eq_true rfl) ?_
  (try simp (etaStruct := .none) only [push_cast, Int.cast_ofNat_Int, Nat.reduceAdd, Nat.reduceSub, Nat.reduceMul, reduceCtorEq, reduceIte, Nat.reduceEqDiff, Nat.reduceLT, Nat.reduceLeDiff, Nat.reduceBEq, Int.reduceToNat, Int.reduceLE, Int.reduceLT]); (try simp (disch := omega) only [wrap_in, wk_self, Int.tdiv_eq_ediv_of_nonneg, Int.tmod_eq_emod_of_nonneg]); (repeat (with_reducible refine And.intro ?_ ?_; · first | omega | decide | (simp; done) | (simp; omega) | (intro hh; refine ⟨hh, ?_⟩; omega) | (simp +contextual; done)))
  refine callP (from_s f l R hR h0.2.2.2.2 h1.2.2) (WkL.refl _) ?_
  (try simp (etaStruct := .none) only [push_cast, Int.cast_ofNat_Int, Nat.reduceAdd, Nat.reduceSub, Nat.reduceMul, reduceCtorEq, reduceIte, Nat.reduceEqDiff, Nat.reduceLT, Nat.reduceLeDiff, Nat.reduceBEq, Int.reduceToNat, Int.reduceLE, Int.reduceLT]); (try simp (disch := omega) only [wrap_in, wk_self, Int.tdiv_eq_ediv_of_nonneg, Int.tmod_eq_emod_of_nonneg]); (repeat (with_reducible refine And.intro ?_ ?_; · first | omega | decide | (simp; done) | (simp; omega) | (intro hh; refine ⟨hh, ?_⟩; omega) | (simp +contextual; done)))
  refine callP (floods_s f l R hR h0.2.2.2.2 h1.2.2) (WkL.refl _) ?_
  (try simp (etaStruct := .none) only [push_cast, Int.cast_ofNat_Int, Nat.reduceAdd, Nat.reduceSub, Nat.reduceMul, reduceCtorEq, reduceIte, Nat.reduceEqDiff, Nat.reduceLT, Nat.reduceLeDiff, Nat.reduceBEq, Int.reduceToNat, Int.reduceLE, Int.reduceLT]); (try simp (disch := omega) only [wrap_in, wk_self, Int.tdiv_eq_ediv_of_nonneg, Int.tmod_eq_emod_of_nonneg]); (repeat (with_reducible refine And.intro ?_ ?_; · first | omega | decide | (simp; done) | (simp; omega) | (intro hh; refine ⟨hh, ?_⟩; omega) | (simp +contextual; done)))
  refine callP (cost_s q) (WkL.refl _) ?_
  (try simp (etaStruct := .none) only [push_cast, Int.cast_ofNat_Int, Nat.reduceAdd, Nat.reduceSub, Nat.reduceMul, reduceCtorEq, reduceIte, Nat.reduceEqDiff, Nat.reduceLT, Nat.reduceLeDiff, Nat.reduceBEq, Int.reduceToNat, Int.reduceLE, Int.reduceLT]); (try simp (disch := omega) only [wrap_in, wk_self, Int.tdiv_eq_ediv_of_nonneg, Int.tmod_eq_emod_of_nonneg]); (repeat (with_reducible refine And.intro ?_ ?_; · first | omega | decide | (simp; done) | (simp; omega) | (intro hh; refine ⟨hh, ?_⟩; omega) | (simp +contextual; done)))
  refine callP (between_s q 0 3) (WkL.refl _) ?_
  (try simp (etaStruct := .none) only [push_cast, Int.cast_ofNat_Int, Nat.reduceAdd, Nat.reduceSub, Nat.reduceMul, reduceCtorEq, reduceIte, Nat.reduceEqDiff, Nat.reduceLT, Nat.reduceLeDiff, Nat.reduceBEq, Int.reduceToNat, Int.reduceLE, Int.reduceLT]); (try simp (disch := omega) only [wrap_in, wk_self, Int.tdiv_eq_ediv_of_nonneg, Int.tmod_eq_emod_of_nonneg]); (repeat (with_reducible refine And.intro ?_ ?_; · first | omega | decide | (simp; done) | (simp; omega) | (intro hh; refine ⟨hh, ?_⟩; omega) | (simp +contextual; done)))
  refine cond_i (fun h1 => ?_) (fun h1 => ?_)
  · (try simp only [decide_eq_true_eq, decide_eq_false_iff_not, Bool.not_eq_true', Bool.not_eq_false', Bool.or_eq_true, Bool.and_eq_true, Bool.or_eq_false_iff, Bool.and_eq_false_iff, Int.not_lt, Int.not_le, Bool.not_true, Bool.not_false, not_and, not_or] at h1)
    have hq1 := hq h1
    have hcv := costV_ok hq1
    have hkv := kV_b q
    (try simp (etaStruct := .none) only [push_cast, Int.cast_ofNat_Int, Nat.reduceAdd, Nat.reduceSub, Nat.reduceMul, reduceCtorEq, reduceIte, Nat.reduceEqDiff, Nat.reduceLT, Nat.reduceLeDiff, Nat.reduceBEq, Int.reduceToNat, Int.reduceLE, Int.reduceLT]); (try simp (disch := omega) only [wrap_in, wk_self, Int.tdiv_eq_ediv_of_nonneg, Int.tmod_eq_emod_of_nonneg]); (repeat (with_reducible refine And.intro ?_ ?_; · first | omega | decide | (simp; done) | (simp; omega) | (intro hh; refine ⟨hh, ?_⟩; omega) | (simp +contextual; done)))
    refine callP (costOf_s q hq1) (WkL.refl _) ?_
    (try simp (etaStruct := .none) only [push_cast, Int.cast_ofNat_Int, Nat.reduceAdd, Nat.reduceSub, Nat.reduceMul, reduceCtorEq, reduceIte, Nat.reduceEqDiff, Nat.reduceLT, Nat.reduceLeDiff, Nat.reduceBEq, Int.reduceToNat, Int.reduceLE, Int.reduceLT]); (try simp (disch := omega) only [wrap_in, wk_self, Int.tdiv_eq_ediv_of_nonneg, Int.tmod_eq_emod_of_nonneg]); (repeat (with_reducible refine And.intro ?_ ?_; · first | omega | decide | (simp; done) | (simp; omega) | (intro hh; refine ⟨hh, ?_⟩; omega) | (simp +contextual; done)))
    refine cond_i (fun h2 => ?_) (fun h2 => ?_)
    · (try simp only [decide_eq_true_eq, decide_eq_false_iff_not, Bool.not_eq_true', Bool.not_eq_false', Bool.or_eq_true, Bool.and_eq_true, Bool.or_eq_false_iff, Bool.and_eq_false_iff, Int.not_lt, Int.not_le, Bool.not_true, Bool.not_false, not_and, not_or] at h2)
      have hcv2 : costV q = (0, 9) := by
        rcases hcv with h | h
        · exact h.2
        · rw [if_neg h.1] at h2; omega
      (try simp (etaStruct := .none) only [push_cast, Int.cast_ofNat_Int, Nat.reduceAdd, Nat.reduceSub, Nat.reduceMul, reduceCtorEq, reduceIte, Nat.reduceEqDiff, Nat.reduceLT, Nat.reduceLeDiff, Nat.reduceBEq, Int.reduceToNat, Int.reduceLE, Int.reduceLT]); (try simp (disch := omega) only [wrap_in, wk_self, Int.tdiv_eq_ediv_of_nonneg, Int.tmod_eq_emod_of_nonneg]); (repeat (with_reducible refine And.intro ?_ ?_; · first | omega | decide | (simp; done) | (simp; omega) | (intro hh; refine ⟨hh, ?_⟩; omega) | (simp +contextual; done)))
      refine callP (int_eq R R hr hr) (WkL.refl _) ?_
      (try simp (etaStruct := .none) only [push_cast, Int.cast_ofNat_Int, Nat.reduceAdd, Nat.reduceSub, Nat.reduceMul, reduceCtorEq, reduceIte, Nat.reduceEqDiff, Nat.reduceLT, Nat.reduceLeDiff, Nat.reduceBEq, Int.reduceToNat, Int.reduceLE, Int.reduceLT]); (try simp (disch := omega) only [wrap_in, wk_self, Int.tdiv_eq_ediv_of_nonneg, Int.tmod_eq_emod_of_nonneg]); (repeat (with_reducible refine And.intro ?_ ?_; · first | omega | decide | (simp; done) | (simp; omega) | (intro hh; refine ⟨hh, ?_⟩; omega) | (simp +contextual; done)))
      (first | (refine ret0 rfl (by repeat' (first | exact trivial | exact rfl | refine ⟨?_, ?_⟩)) (Wk.of ?_); (try simp (etaStruct := .none) only [push_cast, Int.cast_ofNat_Int, Nat.reduceAdd, Nat.reduceSub, Nat.reduceMul, reduceCtorEq, reduceIte, Nat.reduceEqDiff, Nat.reduceLT, Nat.reduceLeDiff, Nat.reduceBEq, Int.reduceToNat, Int.reduceLE, Int.reduceLT]); first | done | (simp [*]; done) | (simp_all []; done)) | (refine ret0 rfl (by repeat' (first | exact trivial | exact rfl | refine ⟨?_, ?_⟩)) ?_; (try simp (etaStruct := .none) only [push_cast, Int.cast_ofNat_Int, Nat.reduceAdd, Nat.reduceSub, Nat.reduceMul, reduceCtorEq, reduceIte, Nat.reduceEqDiff, Nat.reduceLT, Nat.reduceLeDiff, Nat.reduceBEq, Int.reduceToNat, Int.reduceLE, Int.reduceLT]); (try simp [*]); (try (first | exact Wk.refl _ | exact Wk.nil _ | (refine Wk.tup ?_; repeat' (first | exact trivial | exact Wk.refl _ | exact Wk.nil _ | refine ⟨?_, ?_⟩ | (refine Wk.agg ?_)))))))
    · (try simp only [decide_eq_true_eq, decide_eq_false_iff_not, Bool.not_eq_true', Bool.not_eq_false', Bool.or_eq_true, Bool.and_eq_true, Bool.or_eq_false_iff, Bool.and_eq_false_iff, Int.not_lt, Int.not_le, Bool.not_true, Bool.not_false, not_and, not_or] at h2)
      have hcv2 : costV q = (kV q, 0) ∧ q ≠ 1 := by
        rcases hcv with h | h
        · rw [if_pos h.1] at h2; omega
        · exact ⟨h.2, h.1⟩
      rw [if_neg hcv2.2]
      have hcv3 := hcv2.1
      (try simp (etaStruct := .none) only [push_cast, Int.cast_ofNat_Int, Nat.reduceAdd, Nat.reduceSub, Nat.reduceMul, reduceCtorEq, reduceIte, Nat.reduceEqDiff, Nat.reduceLT, Nat.reduceLeDiff, Nat.reduceBEq, Int.reduceToNat, Int.reduceLE, Int.reduceLT]); (try simp (disch := omega) only [wrap_in, wk_self, Int.tdiv_eq_ediv_of_nonneg, Int.tmod_eq_emod_of_nonneg]); (repeat (with_reducible refine And.intro ?_ ?_; · first | omega | decide | (simp; done) | (simp; omega) | (intro hh; refine ⟨hh, ?_⟩; omega) | (simp +contextual; done)))
      refine callP (int_eq R R hr hr) (WkL.refl _) ?_
      (try simp (etaStruct := .none) only [push_cast, Int.cast_ofNat_Int, Nat.reduceAdd, Nat.reduceSub, Nat.reduceMul, reduceCtorEq, reduceIte, Nat.reduceEqDiff, Nat.reduceLT, Nat.reduceLeDiff, Nat.reduceBEq, Int.reduceToNat, Int.reduceLE, Int.reduceLT]); (try simp (disch := omega) only [wrap_in, wk_self, Int.tdiv_eq_ediv_of_nonneg, Int.tmod_eq_emod_of_nonneg]); (repeat (with_reducible refine And.intro ?_ ?_; · first | omega | decide | (simp; done) | (simp; omega) | (intro hh; refine ⟨hh, ?_⟩; omega) | (simp +contextual; done)))
      (first | (refine ret0 rfl (by repeat' (first | exact trivial | exact rfl | refine ⟨?_, ?_⟩)) (Wk.of ?_); (try simp (etaStruct := .none) only [push_cast, Int.cast_ofNat_Int, Nat.reduceAdd, Nat.reduceSub, Nat.reduceMul, reduceCtorEq, reduceIte, Nat.reduceEqDiff, Nat.reduceLT, Nat.reduceLeDiff, Nat.reduceBEq, Int.reduceToNat, Int.reduceLE, Int.reduceLT]); first | done | (simp [*]; done) | (simp_all []; done)) | (refine ret0 rfl (by repeat' (first | exact trivial | exact rfl | refine ⟨?_, ?_⟩)) ?_; (try simp (etaStruct := .none) only [push_cast, Int.cast_ofNat_Int, Nat.reduceAdd, Nat.reduceSub, Nat.reduceMul, reduceCtorEq, reduceIte, Nat.reduceEqDiff, Nat.reduceLT, Nat.reduceLeDiff, Nat.reduceBEq, Int.reduceToNat, Int.reduceLE, Int.reduceLT]); (try simp [*]); (try (first | exact Wk.refl _ | exact Wk.nil _ | (refine Wk.tup ?_; repeat' (first | exact trivial | exact Wk.refl _ | exact Wk.nil _ | refine ⟨?_, ?_⟩ | (refine Wk.agg ?_)))))))
  · (try simp only [decide_eq_true_eq, decide_eq_false_iff_not, Bool.not_eq_true', Bool.not_eq_false', Bool.or_eq_true, Bool.and_eq_true, Bool.or_eq_false_iff, Bool.and_eq_false_iff, Int.not_lt, Int.not_le, Bool.not_true, Bool.not_false, not_and, not_or] at h1)
    have hcv2 : costV q = (0, 1) := by
      have : ¬ (0 ≤ q ∧ q ≤ 3) := by rw [← within_f]; exact h1
      unfold costV
      rw [if_neg (by omega), if_neg (by omega), if_neg (by omega)]
    (try simp (etaStruct := .none) only [push_cast, Int.cast_ofNat_Int, Nat.reduceAdd, Nat.reduceSub, Nat.reduceMul, reduceCtorEq, reduceIte, Nat.reduceEqDiff, Nat.reduceLT, Nat.reduceLeDiff, Nat.reduceBEq, Int.reduceToNat, Int.reduceLE, Int.reduceLT]); (try simp (disch := omega) only [wrap_in, wk_self, Int.tdiv_eq_ediv_of_nonneg, Int.tmod_eq_emod_of_nonneg]); (repeat (with_reducible refine And.intro ?_ ?_; · first | omega | decide | (simp; done) | (simp; omega) | (intro hh; refine ⟨hh, ?_⟩; omega) | (simp +contextual; done)))
    refine callP (int_eq R R hr hr) (WkL.refl _) ?_
    (try simp (etaStruct := .none) only [push_cast, Int.cast_ofNat_Int, Nat.reduceAdd, Nat.reduceSub, Nat.reduceMul, reduceCtorEq, reduceIte, Nat.reduceEqDiff, Nat.reduceLT, Nat.reduceLeDiff, Nat.reduceBEq, Int.reduceToNat, Int.reduceLE, Int.reduceLT]); (try simp (disch := omega) only [wrap_in, wk_self, Int.tdiv_eq_ediv_of_nonneg, Int.tmod_eq_emod_of_nonneg]); (repeat (with_reducible refine And.intro ?_ ?_; · first | omega | decide | (simp; done) | (simp; omega) | (intro hh; refine ⟨hh, ?_⟩; omega) | (simp +contextual; done)))
    (first | (refine ret0 rfl (by repeat' (first | exact trivial | exact rfl | refine ⟨?_, ?_⟩)) (Wk.of ?_); (try simp (etaStruct := .none) only [push_cast, Int.cast_ofNat_Int, Nat.reduceAdd, Nat.reduceSub, Nat.reduceMul, reduceCtorEq, reduceIte, Nat.reduceEqDiff, Nat.reduceLT, Nat.reduceLeDiff, Nat.reduceBEq, Int.reduceToNat, Int.reduceLE, Int.reduceLT]); first | done | (simp [*]; done) | (simp_all []; done)) | (refine ret0 rfl (by repeat' (first | exact trivial | exact rfl | refine ⟨?_, ?_⟩)) ?_; (try simp (etaStruct := .none) only [push_cast, Int.cast_ofNat_Int, Nat.reduceAdd, Nat.reduceSub, Nat.reduceMul, reduceCtorEq, reduceIte, Nat.reduceEqDiff, Nat.reduceLT, Nat.reduceLeDiff, Nat.reduceBEq, Int.reduceToNat, Int.reduceLE, Int.reduceLT]); (try simp [*]); (try (first | exact Wk.refl _ | exact Wk.nil _ | (refine Wk.tup ?_; repeat' (first | exact trivial | exact Wk.refl _ | exact Wk.nil _ | refine ⟨?_, ?_⟩ | (refine Wk.agg ?_)))))))
theorem own : ownKnob Try.prog.godebug = none := by kernel_rfl
theorem laidOut : laidOutB Try.prog = true := by kernel_rfl
set_option maxRecDepth 100000 in
theorem lifted (os : Os) (started : os.Started) (H : Type) (enc : TypeId × Value → H) :
    ReturnsInHanded {} Try.checked os 4 .any (Rows.floodSaysSpec.pre6 enc Try.prog Try.f4 Rows.floodSaysRow.domain false) (Rows.floodSaysSpec.post enc Try.prog Try.f4 false true false false) := by
  refine returnsInHanded_of_change_sized (C := Try.checked) own started (by kernel_rfl) Try.func4
    (ChangeSpec.witness6 (enc := enc) (C := Try.checked) false ⟨#[], #[.agg #[.int .i64 0, .int .i64 0, .slice none 0 0], .slice none 0 0, .int .i64 0], []⟩ 8 (by kernel_rfl) (by kernel_rfl) (by kernel_rfl) (by kernel_rfl)) ?_
  intro W base args ds gs before hval0 hW hcnd hsz0 _
  have hval : ∀ (j : Nat) t v, Try.f4.params[j]? = some t → args[j]? = some v → Value.okWide Try.prog W .any base t v := hval0
  have hW' := hW
  obtain ⟨p, q, hA0, hV, rfl, hfz, hnd⟩ := hW
  have hA : DataW.TrodAll enc Try.prog W 0 (fun _ => true) true Try.f4.params.toList args.toList ds p := hA0
  rw [Try.params4] at hA hval hsz0
  obtain ⟨v0, vs0, d0, ds0, p0, q0, hargs, rfl, rfl, h0, r0⟩ := trodAll_cons hA
  obtain ⟨v1, vs1, d1, ds1, p1, q1, rfl, rfl, rfl, h1, r1⟩ := trodAll_cons r0
  obtain ⟨v2, vs2, d2, ds2, p2, q2, rfl, rfl, rfl, h2, r2⟩ := trodAll_cons r1
  obtain ⟨rfl, rfl, rfl⟩ := trodAll_nil r2
  obtain rfl : args = #[v0, v1, v2] := by cases args; simp_all
  obtain ⟨rfl, rfl⟩ := trodVars_none hV
  have lt0 : ∀ x ∈ p0, x.block < W.heap.size := by obtain ⟨m, hm⟩ := h0; exact DataW.trod_lt m _ _ _ hm
  obtain ⟨x0, ok0, l0, q0r⟩ := OpA.arg (opFld W) h0 hsz0 0 rfl rfl
  have R0 := rel_agg (arg_struct (hval 0 43 v0 rfl rfl) Try.underlying43 rfl) l0 q0r
  have lt1 : ∀ x ∈ p1, x.block < W.heap.size := by obtain ⟨m, hm⟩ := h1; exact DataW.trod_lt m _ _ _ hm
  obtain ⟨x1, ok1, l1, q1r⟩ := OpA.arg (opCels W) h1 hsz0 1 rfl rfl
  have R1 := rel_one (one_slice Try.underlying44 (hval 1 44 v1 rfl rfl)) q1r
  have lt2 : ∀ x ∈ p2, x.block < W.heap.size := by obtain ⟨m, hm⟩ := h2; exact DataW.trod_lt m _ _ _ hm
  obtain ⟨x2, ok2, l2, q2r⟩ := OpA.arg (OpA.i64 Try.underlying3) h2 hsz0 2 rfl rfl
  have R2 := rel_one (one_int Try.underlying3 (hval 2 3 v2 rfl rfl)) q2r
  clear hA0 hval0
  refine (spec_law (law x0 x1 x2 ok0 ok1 ok2) (relL_cons R0 (relL_cons R1 (relL_cons R2 relL_nil)))).mono fun e W' ⟨he, bel⟩ => ?_
  subst he
  exact ⟨_, rfl, _, _, _, [], _, [], hW', trodAll_mk1 (shut_bool Try.underlying4 _), (trodAll_cons_mk (Below.trod laidOut (by kernel_rfl) (of_decide_eq_true (by kernel_rfl)) h0 bel lt0) (trodAll_cons_mk (Below.trod laidOut (by kernel_rfl) (of_decide_eq_true (by kernel_rfl)) h1 bel lt1) (trodAll_cons_mk (Below.trod laidOut (by kernel_rfl) (of_decide_eq_true (by kernel_rfl)) h2 bel lt2) trodAll_mk0))), rfl, bel.frame _, fun h => by cases h⟩
theorem over : Rows.floodSaysRow.holds Try.pinned (OpenSpec.ofChange Rows.floodSaysSpec) :=
  OpenClaim.holds_of_wide 4 Try.f4 rfl rfl rfl rfl rfl rfl rfl ⟨rfl, rfl, rfl, rfl, rfl⟩ rfl rfl rfl rfl rfl (by kernel_rfl) Try.func4 (by kernel_rfl)
    (of_decide_eq_true (by kernel_rfl)) (by unfold Func.isWrapper; first | (rw [if_pos (by decide +kernel)]; kernel_rfl) | (rw [if_neg (by decide +kernel)]; exact ⟨rfl, rfl⟩))
    (fun os started H enc _ => lifted os started H enc)
theorem proved : Rows.FloodSaysSaid := over
#print axioms proved
end floodSays
end Go.Proofs.Ytjkdhjmegoblnaa
