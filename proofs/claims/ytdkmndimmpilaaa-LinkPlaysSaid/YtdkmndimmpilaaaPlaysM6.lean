/- LinkPlays: whatever window and events are handed in, Play answers what the document says. No condition. -/
import Derived.Test.YtdkmndimmpilaaaPlaysM5
import Derived.Test.YtdkmndimmpilaaaRows
namespace Go.Proofs.Ytdkmndimmpilaaa
set_option linter.all false
open Go.RowKit Go.ChangeShapes Go.WideShapes Go.ChangeAt
namespace linkPlays
set_option maxRecDepth 100000
set_option maxHeartbeats 1000000
theorem opEvt (w : World) : OpA Try.prog 59 4 w evtP (fun _ => True) :=
 (OpA.struct Try.underlying59 (by kernel_rfl) (OpAF.cons rfl rfl (OpA.i64 Try.underlying3) (OpAF.cons rfl rfl (OpA.i64 Try.underlying3) (OpAF.cons rfl rfl (OpA.bool Try.underlying4) (OpAF.cons rfl rfl (OpA.str Try.underlying9) OpAF.nil))))).map
  (fun x => ⟨x.1, x.2.1, x.2.2.1, x.2.2.2.1⟩) (fun _ => rfl) (fun _ _ => trivial)
theorem opEvts (w : World) : OpA Try.prog 66 1 w (fun xs : List Evt => [.sl 4 (xs.map evtP)]) (fun xs => (∀ x ∈ xs, True) ∧ xs.length * 40 ≤ 140737488351232 ∧ xs.length ≤ 9223372036854775807) :=
 OpA.slice Try.underlying66 (by kernel_rfl) (by decide) (by kernel_rfl) (opEvt w)
theorem law (n : Int) (es : List Evt) (_ : In64 n) (h1 : (∀ x ∈ es, True) ∧ es.length * 40 ≤ 140737488351232 ∧ es.length ≤ 9223372036854775807) : Spec Try.prog 7 [I .i64 n, .c (.sl 4 (es.map evtP))] [] (B true) [] := by
 by_cases h : 1 ≤ n ∧ n ≤ 16
 ·by_cases h5 : 500 < es.length
  ·exact plays_large n es h1.2.2 h h5
  ·exact plays_ok n es h h5
 ·exact plays_arg n es h1.2.2 h
theorem own : ownKnob Try.prog.godebug = none := by kernel_rfl
theorem laidOut : laidOutB Try.prog = true := by kernel_rfl
set_option maxRecDepth 100000 in
theorem lifted (os : Os) (started : os.Started) (H : Type) (enc : TypeId × Value → H) :
 ReturnsInHanded {} Try.checked os 7 .any (Rows.linkPlaysSpec.pre6 enc Try.prog Try.f7 Rows.linkPlaysRow.domain false) (Rows.linkPlaysSpec.post enc Try.prog Try.f7 false true false false) := by
 refine returnsInHanded_of_change_sized (C := Try.checked) own started (by kernel_rfl) Try.func7
  (ChangeSpec.witness6 (enc := enc) (C := Try.checked) false ⟨#[], #[.int .i64 0, .slice none 0 0], []⟩ 8 (by kernel_rfl) (by kernel_rfl) (by kernel_rfl) (by kernel_rfl)) ?_
 intro W base args ds gs before hval0 hW hcnd hsz0 _
 have hval : ∀ (j : Nat) t v, Try.f7.params[j]? = some t → args[j]? = some v → Value.okWide Try.prog W .any base t v := hval0
 have hW' := hW
 obtain ⟨p, q, hA0, hV, rfl, hfz, hnd⟩ := hW
 have hA : DataW.TrodAll enc Try.prog W 0 (fun _ => true) true Try.f7.params.toList args.toList ds p := hA0
 rw [Try.params7] at hA hval hsz0
 obtain ⟨v0, vs0, d0, ds0, p0, q0, hargs, rfl, rfl, h0, r0⟩ := trodAll_cons hA
 obtain ⟨v1, vs1, d1, ds1, p1, q1, rfl, rfl, rfl, h1, r1⟩ := trodAll_cons r0
 obtain ⟨rfl, rfl, rfl⟩ := trodAll_nil r1
 obtain rfl : args = #[v0, v1] := by cases args; simp_all
 obtain ⟨rfl, rfl⟩ := trodVars_none hV
 have lt0 : ∀ x ∈ p0, x.block < W.heap.size := by obtain ⟨m, hm⟩ := h0; exact DataW.trod_lt m _ _ _ hm
 obtain ⟨x0, ok0, l0, q0r⟩ := OpA.arg (OpA.i64 Try.underlying3) h0 hsz0 0 rfl rfl
 have R0 := rel_one (one_int Try.underlying3 (hval 0 3 v0 rfl rfl)) q0r
 have lt1 : ∀ x ∈ p1, x.block < W.heap.size := by obtain ⟨m, hm⟩ := h1; exact DataW.trod_lt m _ _ _ hm
 obtain ⟨x1, ok1, l1, q1r⟩ := OpA.arg (opEvts W) h1 hsz0 1 rfl rfl
 have R1 := rel_one (one_slice Try.underlying66 (hval 1 66 v1 rfl rfl)) q1r
 clear hA0 hval0
 refine (spec_law (law x0 x1 ok0 ok1) (relL_cons R0 (relL_cons R1 relL_nil))).mono fun e W' ⟨he, bel⟩ => ?_
 subst he
 exact ⟨_, rfl, _, _, _, [], _, [], hW', trodAll_mk1 (shut_bool Try.underlying4 _), (trodAll_cons_mk (Below.trod laidOut (by kernel_rfl) (of_decide_eq_true (by kernel_rfl)) h0 bel lt0) (trodAll_cons_mk (Below.trod laidOut (by kernel_rfl) (of_decide_eq_true (by kernel_rfl)) h1 bel lt1) trodAll_mk0)), rfl, bel.frame _, fun h => by cases h⟩
theorem over : Rows.linkPlaysRow.holds Try.pinned (OpenSpec.ofChange Rows.linkPlaysSpec) :=
 OpenClaim.holds_of_wide 7 Try.f7 rfl rfl rfl rfl rfl rfl rfl ⟨rfl, rfl, rfl, rfl, rfl⟩ rfl rfl rfl rfl rfl (by kernel_rfl) Try.func7 (by kernel_rfl)
  (of_decide_eq_true (by kernel_rfl)) (by unfold Func.isWrapper; first | (rw [if_pos (by decide +kernel)]; kernel_rfl) | (rw [if_neg (by decide +kernel)]; exact ⟨rfl, rfl⟩))
  (fun os started H enc _ => lifted os started H enc)
theorem proved : Rows.LinkPlaysSaid := over
#print axioms proved
end linkPlays
end Go.Proofs.Ytdkmndimmpilaaa
