/- PathSays: whatever is handed in, Far and Find answer what the document says. No condition. -/
import Derived.Test.YtehcnnodkhcgfaaPathSaysM7
import Derived.Test.YtehcnnodkhcgfaaChecked
import Derived.Test.YtehcnnodkhcgfaaRows
namespace Go.Proofs.Ytehcnnodkhcgfaa
set_option linter.all false
open Go.RowKit Go.ChangeShapes Go.WideShapes Go.ChangeAt
set_option maxRecDepth 100000
def fldP (f : Fld) : List PV := [pI f.w, pI f.h, .sl 1 (f.p.map i64P)]
theorem opInts (w : World) : OpA Try.prog 63 1 w (fun xs : List Int => [.sl 1 (xs.map i64P)]) (fun xs => (∀ x ∈ xs, In64 x) ∧ xs.length * 8 ≤ 140737488351232 ∧ xs.length ≤ 9223372036854775807) :=
  OpA.slice Try.underlying63 (by kernel_rfl) (by decide) (by kernel_rfl) (OpA.i64 Try.underlying3)
theorem opCel (w : World) : OpA Try.prog 25 2 w celP (fun c => In64 c.x ∧ In64 c.y) :=
  (OpA.struct Try.underlying25 (by kernel_rfl) (OpAF.cons rfl rfl (OpA.i64 Try.underlying3) (OpAF.cons rfl rfl (OpA.i64 Try.underlying3) OpAF.nil))).map (fun x => ⟨x.1, x.2.1⟩) (fun _ => rfl) (fun _ h => ⟨h.1, h.2.1⟩)
theorem opFld (w : World) : OpA Try.prog 65 3 w fldP (fun f => In64 f.w ∧ In64 f.h ∧ (∀ x ∈ f.p, In64 x) ∧ f.p.length * 8 ≤ 140737488351232 ∧ f.p.length ≤ 9223372036854775807) :=
  (OpA.struct Try.underlying65 (by kernel_rfl) (OpAF.cons rfl rfl (OpA.i64 Try.underlying3) (OpAF.cons rfl rfl (OpA.i64 Try.underlying3) (OpAF.cons rfl rfl (opInts w) OpAF.nil)))).map (fun x => ⟨x.1, x.2.1, x.2.2.1⟩) (fun _ => rfl) (fun _ h => ⟨h.1, h.2.1, h.2.2.1⟩)
end Go.Proofs.Ytehcnnodkhcgfaa
namespace Go.Proofs.Ytehcnnodkhcgfaa
set_option linter.all false
open Go.RowKit Go.ChangeShapes Go.WideShapes Go.ChangeAt
theorem wayL_len (R : List Int) (f : Fld) (a : Cel) : ∀ (N : Nat) (c : Cel), (wayL R f a N c).length ≤ N
  | 0, _ => Nat.le_refl _
  | N + 1, c => by
    rw [wayL]
    split
    · simp
    · rw [List.length_cons]; have := wayL_len R f a N (nxtC R f c); omega
namespace pathSays
set_option maxRecDepth 100000
set_option maxHeartbeats 1000000
theorem law (f : Fld) (a b : Cel) (h0 : In64 f.w ∧ In64 f.h ∧ (∀ x ∈ f.p, In64 x) ∧ f.p.length * 8 ≤ 140737488351232 ∧ f.p.length ≤ 9223372036854775807) (_ : In64 a.x ∧ In64 a.y) (_ : In64 b.x ∧ In64 b.y) :
    Spec Try.prog 7 [fldA f, celA a, celA b] [] (B true) [] := by
  obtain ⟨R, hR⟩ := flood_is f [a]
  obtain ⟨L, hL⟩ : ∃ L, L = if wayE R f a b = 0 then wayV R f a b else [] := ⟨_, rfl⟩
  have hLl : L.length ≤ 9223372036854775807 := by
    rcases wayE_cases R f a b with ⟨hE, _⟩ | ⟨hf, ha, hb, hpa, hpb, ⟨hE, _⟩ | ⟨hE, h0⟩⟩
    · rw [hL, if_neg hE]; simp
    · rw [hL, if_neg (by rw [hE]; decide)]; simp
    · rw [hL, if_pos hE]
      have h1 := wayL_len R f a (R.getD (idxN f b) default).toNat b
      have h2 := (R_bound hf ha hpa hR hb).2
      unfold wayV
      rw [List.length_reverse, List.length_cons]; omega
  refine spec_am Try.func7 rfl rfl mix 61 rfl [.tmp 6] Try.results7 (Nat.le_of_ble_eq_true rfl) ?_
  (try simp (etaStruct := .none) only [push_cast, DrawG, Int.cast_ofNat_Int, Nat.reduceAdd, Nat.reduceSub, Nat.reduceMul, reduceCtorEq, reduceIte, Nat.reduceEqDiff, Nat.reduceLT, Nat.reduceLeDiff, Nat.reduceBEq, Int.reduceToNat, Int.reduceLE, Int.reduceLT]); (try simp (disch := omega) only [wrap_in, wk_self, Int.tdiv_eq_ediv_of_nonneg, Int.tmod_eq_emod_of_nonneg]); (repeat (with_reducible refine And.intro ?_ ?_; · first | omega | decide | (simp; done) | (simp; omega) | (intro hh; refine ⟨hh, ?_⟩; omega) | (simp +contextual; done)))
  refine callP (pfind_s f a b h0.2.2.2.2 R hR) (WkL.refl _) ?_
  rw [← hL]
  (try simp (etaStruct := .none) only [push_cast, DrawG, Int.cast_ofNat_Int, Nat.reduceAdd, Nat.reduceSub, Nat.reduceMul, reduceCtorEq, reduceIte, Nat.reduceEqDiff, Nat.reduceLT, Nat.reduceLeDiff, Nat.reduceBEq, Int.reduceToNat, Int.reduceLE, Int.reduceLT]); (try simp (disch := omega) only [wrap_in, wk_self, Int.tdiv_eq_ediv_of_nonneg, Int.tmod_eq_emod_of_nonneg]); (repeat (with_reducible refine And.intro ?_ ?_; · first | omega | decide | (simp; done) | (simp; omega) | (intro hh; refine ⟨hh, ?_⟩; omega) | (simp +contextual; done)))
  refine callP (wayOf_s f a b h0.2.2.2.2 R hR) (WkL.refl _) ?_
  rw [← hL]
  (try simp (etaStruct := .none) only [push_cast, DrawG, Int.cast_ofNat_Int, Nat.reduceAdd, Nat.reduceSub, Nat.reduceMul, reduceCtorEq, reduceIte, Nat.reduceEqDiff, Nat.reduceLT, Nat.reduceLeDiff, Nat.reduceBEq, Int.reduceToNat, Int.reduceLE, Int.reduceLT]); (try simp (disch := omega) only [wrap_in, wk_self, Int.tdiv_eq_ediv_of_nonneg, Int.tmod_eq_emod_of_nonneg]); (repeat (with_reducible refine And.intro ?_ ?_; · first | omega | decide | (simp; done) | (simp; omega) | (intro hh; refine ⟨hh, ?_⟩; omega) | (simp +contextual; done)))
  refine callP (pfar_s f a b h0.2.2.2.2 R hR) (WkL.refl _) ?_
  (try simp (etaStruct := .none) only [push_cast, DrawG, Int.cast_ofNat_Int, Nat.reduceAdd, Nat.reduceSub, Nat.reduceMul, reduceCtorEq, reduceIte, Nat.reduceEqDiff, Nat.reduceLT, Nat.reduceLeDiff, Nat.reduceBEq, Int.reduceToNat, Int.reduceLE, Int.reduceLT]); (try simp (disch := omega) only [wrap_in, wk_self, Int.tdiv_eq_ediv_of_nonneg, Int.tmod_eq_emod_of_nonneg]); (repeat (with_reducible refine And.intro ?_ ?_; · first | omega | decide | (simp; done) | (simp; omega) | (intro hh; refine ⟨hh, ?_⟩; omega) | (simp +contextual; done)))
  refine callP (cel_eq L L hLl hLl) (WkL.refl _) ?_
  (try simp (etaStruct := .none) only [push_cast, DrawG, Int.cast_ofNat_Int, Nat.reduceAdd, Nat.reduceSub, Nat.reduceMul, reduceCtorEq, reduceIte, Nat.reduceEqDiff, Nat.reduceLT, Nat.reduceLeDiff, Nat.reduceBEq, Int.reduceToNat, Int.reduceLE, Int.reduceLT]); (try simp (disch := omega) only [wrap_in, wk_self, Int.tdiv_eq_ediv_of_nonneg, Int.tmod_eq_emod_of_nonneg]); (repeat (with_reducible refine And.intro ?_ ?_; · first | omega | decide | (simp; done) | (simp; omega) | (intro hh; refine ⟨hh, ?_⟩; omega) | (simp +contextual; done)))
  (first | (refine ret0 rfl (by repeat' (first | exact trivial | exact rfl | refine ⟨?_, ?_⟩)) (Wk.of ?_); (try simp (etaStruct := .none) only [push_cast, DrawG, Int.cast_ofNat_Int, Nat.reduceAdd, Nat.reduceSub, Nat.reduceMul, reduceCtorEq, reduceIte, Nat.reduceEqDiff, Nat.reduceLT, Nat.reduceLeDiff, Nat.reduceBEq, Int.reduceToNat, Int.reduceLE, Int.reduceLT]); first | done | (simp [*]; done) | (simp_all []; done)) | (refine ret0 rfl (by repeat' (first | exact trivial | exact rfl | refine ⟨?_, ?_⟩)) ?_; (try simp (etaStruct := .none) only [push_cast, DrawG, Int.cast_ofNat_Int, Nat.reduceAdd, Nat.reduceSub, Nat.reduceMul, reduceCtorEq, reduceIte, Nat.reduceEqDiff, Nat.reduceLT, Nat.reduceLeDiff, Nat.reduceBEq, Int.reduceToNat, Int.reduceLE, Int.reduceLT]); (try simp [*]); (try (first | exact Wk.refl _ | exact Wk.nil _ | (refine Wk.tup ?_; repeat' (first | exact trivial | exact Wk.refl _ | exact Wk.nil _ | refine ⟨?_, ?_⟩ | (refine Wk.agg ?_)))))))
theorem own : ownKnob Try.prog.godebug = none := by kernel_rfl
theorem laidOut : laidOutB Try.prog = true := by kernel_rfl
set_option maxRecDepth 100000 in
theorem lifted (os : Os) (started : os.Started) (H : Type) (enc : TypeId × Value → H) :
    ReturnsInHanded {} Try.checked os 7 .any (Rows.pathSaysSpec.pre6 enc Try.prog Try.f7 Rows.pathSaysRow.domain false) (Rows.pathSaysSpec.post enc Try.prog Try.f7 false true false false) := by
  refine returnsInHanded_of_change_sized (C := Try.checked) own started (by kernel_rfl) Try.func7
    (ChangeSpec.witness6 (enc := enc) (C := Try.checked) false ⟨#[], #[.agg #[.int .i64 0, .int .i64 0, .slice none 0 0], .agg #[.int .i64 0, .int .i64 0], .agg #[.int .i64 0, .int .i64 0]], []⟩ 8 (by kernel_rfl) (by kernel_rfl) (by kernel_rfl) (by kernel_rfl)) ?_
  intro W base args ds gs before hval0 hW hcnd hsz0 _
  have hval : ∀ (j : Nat) t v, Try.f7.params[j]? = some t → args[j]? = some v → Value.okWide Try.prog W .any base t v := hval0
  have hW' := hW
  obtain ⟨p, q, hA0, hV, rfl, hfz, hnd⟩ := hW
  have hA : DataW.TrodAll enc Try.prog W 0 (fun _ => true) true Try.f7.params.toList args.toList ds p := hA0
  rw [Try.params7] at hA hval hsz0
  obtain ⟨v0, vs0, d0, ds0, p0, q0, hargs, rfl, rfl, h0, r0⟩ := trodAll_cons hA
  obtain ⟨v1, vs1, d1, ds1, p1, q1, rfl, rfl, rfl, h1, r1⟩ := trodAll_cons r0
  obtain ⟨v2, vs2, d2, ds2, p2, q2, rfl, rfl, rfl, h2, r2⟩ := trodAll_cons r1
  obtain ⟨rfl, rfl, rfl⟩ := trodAll_nil r2
  obtain rfl : args = #[v0, v1, v2] := by cases args; simp_all
  obtain ⟨rfl, rfl⟩ := trodVars_none hV
  have lt0 : ∀ x ∈ p0, x.block < W.heap.size := by obtain ⟨m, hm⟩ := h0; exact DataW.trod_lt m _ _ _ hm
  obtain ⟨x0, ok0, l0, q0r⟩ := OpA.arg (opFld W) h0 hsz0 0 rfl rfl
  have R0 := rel_agg (arg_struct (hval 0 65 v0 rfl rfl) Try.underlying65 rfl) l0 q0r
  have lt1 : ∀ x ∈ p1, x.block < W.heap.size := by obtain ⟨m, hm⟩ := h1; exact DataW.trod_lt m _ _ _ hm
  obtain ⟨x1, ok1, l1, q1r⟩ := OpA.arg (opCel W) h1 hsz0 1 rfl rfl
  have R1 := rel_agg (arg_struct (hval 1 25 v1 rfl rfl) Try.underlying25 rfl) l1 q1r
  have lt2 : ∀ x ∈ p2, x.block < W.heap.size := by obtain ⟨m, hm⟩ := h2; exact DataW.trod_lt m _ _ _ hm
  obtain ⟨x2, ok2, l2, q2r⟩ := OpA.arg (opCel W) h2 hsz0 2 rfl rfl
  have R2 := rel_agg (arg_struct (hval 2 25 v2 rfl rfl) Try.underlying25 rfl) l2 q2r
  clear hA0 hval0
  refine (spec_law (law x0 x1 x2 ok0 ok1 ok2) (relL_cons R0 (relL_cons R1 (relL_cons R2 relL_nil)))).mono fun e W' ⟨he, bel⟩ => ?_
  subst he
  exact ⟨_, rfl, _, _, _, [], _, [], hW', trodAll_mk1 (shut_bool Try.underlying4 _), (trodAll_cons_mk (Below.trod laidOut (by kernel_rfl) (of_decide_eq_true (by kernel_rfl)) h0 bel lt0) (trodAll_cons_mk (Below.trod laidOut (by kernel_rfl) (of_decide_eq_true (by kernel_rfl)) h1 bel lt1) (trodAll_cons_mk (Below.trod laidOut (by kernel_rfl) (of_decide_eq_true (by kernel_rfl)) h2 bel lt2) trodAll_mk0))), rfl, bel.frame _, fun h => by cases h⟩
theorem over : Rows.pathSaysRow.holds Try.pinned (OpenSpec.ofChange Rows.pathSaysSpec) :=
  OpenClaim.holds_of_wide 7 Try.f7 rfl rfl rfl rfl rfl rfl rfl ⟨rfl, rfl, rfl, rfl, rfl⟩ rfl rfl rfl rfl rfl (by kernel_rfl) Try.func7 (by kernel_rfl)
    (of_decide_eq_true (by kernel_rfl)) (by unfold Func.isWrapper; first | (rw [if_pos (by decide +kernel)]; kernel_rfl) | (rw [if_neg (by decide +kernel)]; exact ⟨rfl, rfl⟩))
    (fun os started H enc _ => lifted os started H enc)
theorem proved : Rows.PathSaysSaid := over
#print axioms proved
end pathSays
end Go.Proofs.Ytehcnnodkhcgfaa
