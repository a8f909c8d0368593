/- LinkDoes: whatever link, event and window are handed in, New, Check and Do answer what the document says. No condition. -/
import Derived.Test.YtdkmndimmpilaaaDoesM5
import Derived.Test.YtdkmndimmpilaaaRows
namespace Go.Proofs.Ytdkmndimmpilaaa
set_option linter.all false
open Go.RowKit Go.ChangeShapes Go.WideShapes Go.ChangeAt
namespace linkDoes
set_option maxRecDepth 100000
set_option maxHeartbeats 1000000
theorem opStrs (w : World) : OpA Try.prog 54 1 w (fun xs : List ByteArray => [.sl 1 (xs.map strP)]) (fun xs => (∀ x ∈ xs, x.size ≤ 140737488351232) ∧ xs.length * 16 ≤ 140737488351232 ∧ xs.length ≤ 9223372036854775807) :=
 OpA.slice Try.underlying54 (by kernel_rfl) (by decide) (by kernel_rfl) (OpA.str Try.underlying9)
theorem opInts (w : World) : OpA Try.prog 55 1 w (fun xs : List Int => [.sl 1 (xs.map i64P)]) (fun xs => (∀ x ∈ xs, In64 x) ∧ xs.length * 8 ≤ 140737488351232 ∧ xs.length ≤ 9223372036854775807) :=
 OpA.slice Try.underlying55 (by kernel_rfl) (by decide) (by kernel_rfl) (OpA.i64 Try.underlying3)
theorem opLnk (w : World) : OpA Try.prog 57 8 w lnkP LnkL :=
 (OpA.struct Try.underlying57 (by kernel_rfl) (OpAF.cons rfl rfl (OpA.i64 Try.underlying3) (OpAF.cons rfl rfl (opStrs w) (OpAF.cons rfl rfl (OpA.i64 Try.underlying3) (OpAF.cons rfl rfl (OpA.i64 Try.underlying3) (OpAF.cons rfl rfl (opInts w) (OpAF.cons rfl rfl (opInts w) (OpAF.cons rfl rfl (opStrs w) (OpAF.cons rfl rfl (opInts w) OpAF.nil))))))))).map
  (fun x => ⟨x.1, x.2.1, x.2.2.1, x.2.2.2.1, x.2.2.2.2.1, x.2.2.2.2.2.1, x.2.2.2.2.2.2.1, x.2.2.2.2.2.2.2.1⟩) (fun _ => rfl)
  (fun x h => by
   obtain ⟨-, ⟨-, h1, -⟩, -, -, ⟨-, h2, -⟩, ⟨-, h3, -⟩, ⟨-, h4, -⟩, ⟨-, h5, -⟩, -⟩ := h
   exact ⟨by simp only; omega, by simp only; omega, by simp only; omega, by simp only; omega, by simp only; omega⟩)
theorem opEvt (w : World) : OpA Try.prog 59 4 w evtP (fun _ => True) :=
 (OpA.struct Try.underlying59 (by kernel_rfl) (OpAF.cons rfl rfl (OpA.i64 Try.underlying3) (OpAF.cons rfl rfl (OpA.i64 Try.underlying3) (OpAF.cons rfl rfl (OpA.bool Try.underlying4) (OpAF.cons rfl rfl (OpA.str Try.underlying9) OpAF.nil))))).map
  (fun x => ⟨x.1, x.2.1, x.2.2.1, x.2.2.2.1⟩) (fun _ => rfl) (fun _ _ => trivial)
theorem law (l : Lnk) (x : Evt) (n : Int) (h0 : LnkL l) (_ : True) (_ : In64 n) : Spec Try.prog 6 [lnkA l, evtA x, I .i64 n] [] (B true) [] := doesLaw l x n h0
theorem own : ownKnob Try.prog.godebug = none := by kernel_rfl
theorem laidOut : laidOutB Try.prog = true := by kernel_rfl
set_option maxRecDepth 100000 in
theorem lifted (os : Os) (started : os.Started) (H : Type) (enc : TypeId × Value → H) :
 ReturnsInHanded {} Try.checked os 6 .any (Rows.linkDoesSpec.pre6 enc Try.prog Try.f6 Rows.linkDoesRow.domain false) (Rows.linkDoesSpec.post enc Try.prog Try.f6 false true false false) := by
 refine returnsInHanded_of_change_sized (C := Try.checked) own started (by kernel_rfl) Try.func6
  (ChangeSpec.witness6 (enc := enc) (C := Try.checked) false ⟨#[], #[.agg #[.int .i64 0, .slice none 0 0, .int .i64 0, .int .i64 0, .slice none 0 0, .slice none 0 0, .slice none 0 0, .slice none 0 0], .agg #[.int .i64 0, .int .i64 0, .bool false, .string ByteArray.empty], .int .i64 0], []⟩ 8 (by kernel_rfl) (by kernel_rfl) (by kernel_rfl) (by kernel_rfl)) ?_
 intro W base args ds gs before hval0 hW hcnd hsz0 _
 have hval : ∀ (j : Nat) t v, Try.f6.params[j]? = some t → args[j]? = some v → Value.okWide Try.prog W .any base t v := hval0
 have hW' := hW
 obtain ⟨p, q, hA0, hV, rfl, hfz, hnd⟩ := hW
 have hA : DataW.TrodAll enc Try.prog W 0 (fun _ => true) true Try.f6.params.toList args.toList ds p := hA0
 rw [Try.params6] at hA hval hsz0
 obtain ⟨v0, vs0, d0, ds0, p0, q0, hargs, rfl, rfl, h0, r0⟩ := trodAll_cons hA
 obtain ⟨v1, vs1, d1, ds1, p1, q1, rfl, rfl, rfl, h1, r1⟩ := trodAll_cons r0
 obtain ⟨v2, vs2, d2, ds2, p2, q2, rfl, rfl, rfl, h2, r2⟩ := trodAll_cons r1
 obtain ⟨rfl, rfl, rfl⟩ := trodAll_nil r2
 obtain rfl : args = #[v0, v1, v2] := by cases args; simp_all
 obtain ⟨rfl, rfl⟩ := trodVars_none hV
 have lt0 : ∀ x ∈ p0, x.block < W.heap.size := by obtain ⟨m, hm⟩ := h0; exact DataW.trod_lt m _ _ _ hm
 obtain ⟨x0, ok0, l0, q0r⟩ := OpA.arg (opLnk W) h0 hsz0 0 rfl rfl
 have R0 := rel_agg (arg_struct (hval 0 57 v0 rfl rfl) Try.underlying57 rfl) l0 q0r
 have lt1 : ∀ x ∈ p1, x.block < W.heap.size := by obtain ⟨m, hm⟩ := h1; exact DataW.trod_lt m _ _ _ hm
 obtain ⟨x1, ok1, l1, q1r⟩ := OpA.arg (opEvt W) h1 hsz0 1 rfl rfl
 have R1 := rel_agg (arg_struct (hval 1 59 v1 rfl rfl) Try.underlying59 rfl) l1 q1r
 have lt2 : ∀ x ∈ p2, x.block < W.heap.size := by obtain ⟨m, hm⟩ := h2; exact DataW.trod_lt m _ _ _ hm
 obtain ⟨x2, ok2, l2, q2r⟩ := OpA.arg (OpA.i64 Try.underlying3) h2 hsz0 2 rfl rfl
 have R2 := rel_one (one_int Try.underlying3 (hval 2 3 v2 rfl rfl)) q2r
 clear hA0 hval0
 refine (spec_law (law x0 x1 x2 ok0 ok1 ok2) (relL_cons R0 (relL_cons R1 (relL_cons R2 relL_nil)))).mono fun e W' ⟨he, bel⟩ => ?_
 subst he
 exact ⟨_, rfl, _, _, _, [], _, [], hW', trodAll_mk1 (shut_bool Try.underlying4 _), (trodAll_cons_mk (Below.trod laidOut (by kernel_rfl) (of_decide_eq_true (by kernel_rfl)) h0 bel lt0) (trodAll_cons_mk (Below.trod laidOut (by kernel_rfl) (of_decide_eq_true (by kernel_rfl)) h1 bel lt1) (trodAll_cons_mk (Below.trod laidOut (by kernel_rfl) (of_decide_eq_true (by kernel_rfl)) h2 bel lt2) trodAll_mk0))), rfl, bel.frame _, fun h => by cases h⟩
theorem over : Rows.linkDoesRow.holds Try.pinned (OpenSpec.ofChange Rows.linkDoesSpec) :=
 OpenClaim.holds_of_wide 6 Try.f6 rfl rfl rfl rfl rfl rfl rfl ⟨rfl, rfl, rfl, rfl, rfl⟩ rfl rfl rfl rfl rfl (by kernel_rfl) Try.func6 (by kernel_rfl)
  (of_decide_eq_true (by kernel_rfl)) (by unfold Func.isWrapper; first | (rw [if_pos (by decide +kernel)]; kernel_rfl) | (rw [if_neg (by decide +kernel)]; exact ⟨rfl, rfl⟩))
  (fun os started H enc _ => lifted os started H enc)
theorem proved : Rows.LinkDoesSaid := over
#print axioms proved
end linkDoes
end Go.Proofs.Ytdkmndimmpilaaa
