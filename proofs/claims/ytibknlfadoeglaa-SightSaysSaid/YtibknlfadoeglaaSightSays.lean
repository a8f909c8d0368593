/- SightSays: whatever field, cells and reach are handed in, Sees and Seen answer what the document says. No condition. -/
import Derived.Test.YtibknlfadoeglaaSightL
import Derived.Test.YtibknlfadoeglaaOpD
import Derived.Test.YtibknlfadoeglaaRows
namespace Go.Proofs.Ytibknlfadoeglaa
set_option linter.all false
open Go.RowKit Go.ChangeShapes Go.WideShapes Go.ChangeAt
namespace sightSays
theorem law (f : Fld) (a b : Cel) (r : Int) (h0 : In64 f.w ∧ In64 f.h ∧ (∀ x ∈ f.p, In64 x) ∧ f.p.length * 8 ≤ 140737488351232 ∧ f.p.length ≤ 9223372036854775807) (_ : In64 a.x ∧ In64 a.y) (_ : In64 b.x ∧ In64 b.y) (_ : In64 r) :
    Spec Try.prog 4 [fldA f, celA a, celA b, I .i64 r] [] (B true) [] := sightLaw f a b r h0.2.2.2.2
theorem own : ownKnob Try.prog.godebug = none := by kernel_rfl
theorem laidOut : laidOutB Try.prog = true := by kernel_rfl
set_option maxRecDepth 100000 in
theorem lifted (os : Os) (started : os.Started) (H : Type) (enc : TypeId × Value → H) :
    ReturnsInHanded {} Try.checked os 4 .any (Rows.sightSaysSpec.pre6 enc Try.prog Try.f4 Rows.sightSaysRow.domain false) (Rows.sightSaysSpec.post enc Try.prog Try.f4 false true false false) := by
  refine returnsInHanded_of_change_sized (C := Try.checked) own started (by kernel_rfl) Try.func4
    (ChangeSpec.witness6 (enc := enc) (C := Try.checked) false ⟨#[], #[.agg #[.int .i64 0, .int .i64 0, .slice none 0 0], .agg #[.int .i64 0, .int .i64 0], .agg #[.int .i64 0, .int .i64 0], .int .i64 0], []⟩ 8 (by kernel_rfl) (by kernel_rfl) (by kernel_rfl) (by kernel_rfl)) ?_
  intro W base args ds gs before hval0 hW hcnd hsz0 _
  have hval : ∀ (j : Nat) t v, Try.f4.params[j]? = some t → args[j]? = some v → Value.okWide Try.prog W .any base t v := hval0
  have hW' := hW
  obtain ⟨p, q, hA0, hV, rfl, hfz, hnd⟩ := hW
  have hA : DataW.TrodAll enc Try.prog W 0 (fun _ => true) true Try.f4.params.toList args.toList ds p := hA0
  rw [Try.params4] at hA hval hsz0
  obtain ⟨v0, vs0, d0, ds0, p0, q0, hargs, rfl, rfl, h0, r0⟩ := trodAll_cons hA
  obtain ⟨v1, vs1, d1, ds1, p1, q1, rfl, rfl, rfl, h1, r1⟩ := trodAll_cons r0
  obtain ⟨v2, vs2, d2, ds2, p2, q2, rfl, rfl, rfl, h2, r2⟩ := trodAll_cons r1
  obtain ⟨v3, vs3, d3, ds3, p3, q3, rfl, rfl, rfl, h3, r3⟩ := trodAll_cons r2
  obtain ⟨rfl, rfl, rfl⟩ := trodAll_nil r3
  obtain rfl : args = #[v0, v1, v2, v3] := by cases args; simp_all
  obtain ⟨rfl, rfl⟩ := trodVars_none hV
  have lt0 : ∀ x ∈ p0, x.block < W.heap.size := by obtain ⟨m, hm⟩ := h0; exact DataW.trod_lt m _ _ _ hm
  obtain ⟨x0, ok0, l0, q0r⟩ := OpA.arg (opFld W) h0 hsz0 0 rfl rfl
  have R0 := rel_agg (arg_struct (hval 0 40 v0 rfl rfl) Try.underlying40 rfl) l0 q0r
  have lt1 : ∀ x ∈ p1, x.block < W.heap.size := by obtain ⟨m, hm⟩ := h1; exact DataW.trod_lt m _ _ _ hm
  obtain ⟨x1, ok1, l1, q1r⟩ := OpA.arg (opCel W) h1 hsz0 1 rfl rfl
  have R1 := rel_agg (arg_struct (hval 1 42 v1 rfl rfl) Try.underlying42 rfl) l1 q1r
  have lt2 : ∀ x ∈ p2, x.block < W.heap.size := by obtain ⟨m, hm⟩ := h2; exact DataW.trod_lt m _ _ _ hm
  obtain ⟨x2, ok2, l2, q2r⟩ := OpA.arg (opCel W) h2 hsz0 2 rfl rfl
  have R2 := rel_agg (arg_struct (hval 2 42 v2 rfl rfl) Try.underlying42 rfl) l2 q2r
  have lt3 : ∀ x ∈ p3, x.block < W.heap.size := by obtain ⟨m, hm⟩ := h3; exact DataW.trod_lt m _ _ _ hm
  obtain ⟨x3, ok3, l3, q3r⟩ := OpA.arg (OpA.i64 Try.underlying3) h3 hsz0 3 rfl rfl
  have R3 := rel_one (one_int Try.underlying3 (hval 3 3 v3 rfl rfl)) q3r
  clear hA0 hval0
  refine (spec_law (law x0 x1 x2 x3 ok0 ok1 ok2 ok3) (relL_cons R0 (relL_cons R1 (relL_cons R2 (relL_cons R3 relL_nil))))).mono fun e W' ⟨he, bel⟩ => ?_
  subst he
  exact ⟨_, rfl, _, _, _, [], _, [], hW', trodAll_mk1 (shut_bool Try.underlying4 _), (trodAll_cons_mk (Below.trod laidOut (by kernel_rfl) (of_decide_eq_true (by kernel_rfl)) h0 bel lt0) (trodAll_cons_mk (Below.trod laidOut (by kernel_rfl) (of_decide_eq_true (by kernel_rfl)) h1 bel lt1) (trodAll_cons_mk (Below.trod laidOut (by kernel_rfl) (of_decide_eq_true (by kernel_rfl)) h2 bel lt2) (trodAll_cons_mk (Below.trod laidOut (by kernel_rfl) (of_decide_eq_true (by kernel_rfl)) h3 bel lt3) trodAll_mk0)))), rfl, bel.frame _, fun h => by cases h⟩
theorem over : Rows.sightSaysRow.holds Try.pinned (OpenSpec.ofChange Rows.sightSaysSpec) :=
  OpenClaim.holds_of_wide 4 Try.f4 rfl rfl rfl rfl rfl rfl rfl ⟨rfl, rfl, rfl, rfl, rfl⟩ rfl rfl rfl rfl rfl (by kernel_rfl) Try.func4 (by kernel_rfl)
    (of_decide_eq_true (by kernel_rfl)) (by unfold Func.isWrapper; first | (rw [if_pos (by decide +kernel)]; kernel_rfl) | (rw [if_neg (by decide +kernel)]; exact ⟨rfl, rfl⟩))
    (fun os started H enc _ => lifted os started H enc)
theorem proved : Rows.SightSaysSaid := over
#print axioms proved
end sightSays
end Go.Proofs.Ytibknlfadoeglaa
