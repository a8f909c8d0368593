/- MatchTables: whatever number of players and list of games are handed in, Points and Table answer what the document says. No condition. -/
import Derived.Test.YtddbnknkjaffbaaMatT3
import Derived.Test.YtddbnknkjaffbaaRows
namespace Go.Proofs.Ytddbnknkjaffbaa
set_option linter.all false
open Go.RowKit Go.ChangeShapes Go.WideShapes Go.ChangeAt
namespace matchTables
set_option maxRecDepth 100000
set_option maxHeartbeats 1000000
theorem opGam (w : World) : OpA Try.prog 44 3 w gamP (fun _ => True) :=
 (OpA.struct Try.underlying44 (by kernel_rfl) (OpAF.cons rfl rfl (OpA.i64 Try.underlying3) (OpAF.cons rfl rfl (OpA.i64 Try.underlying3) (OpAF.cons rfl rfl (OpA.i64 Try.underlying3) OpAF.nil)))).map
  (fun x => ⟨x.1, x.2.1, x.2.2.1⟩) (fun _ => rfl) (fun _ _ => trivial)
theorem opGams (w : World) : OpA Try.prog 22 1 w (fun xs : List Gam => [.sl 3 (xs.map gamP)]) (fun xs => (∀ x ∈ xs, True) ∧ xs.length * 24 ≤ 140737488351232 ∧ xs.length ≤ 9223372036854775807) :=
 OpA.slice Try.underlying22 (by kernel_rfl) (by decide) (by kernel_rfl) (opGam w)
theorem law (n : Int) (l : List Gam) (_ : In64 n) (h1 : (∀ x ∈ l, True) ∧ l.length * 24 ≤ 140737488351232 ∧ l.length ≤ 9223372036854775807) : Spec Try.prog 3 [I .i64 n, .c (.sl 3 (l.map gamP))] [] (B true) [] := by
 by_cases hE : gamsE n l = 0
 ·obtain ⟨a, b, c⟩ := gamsE_ok hE
  obtain ⟨m, rfl⟩ : ∃ m : Nat, n = m := ⟨n.toNat, by omega⟩
  exact matchT_ok m l h1.2.2 hE (by omega) b c
 ·exact matchT_bad n l h1.2.2 hE
theorem own : ownKnob Try.prog.godebug = none := by kernel_rfl
theorem laidOut : laidOutB Try.prog = true := by kernel_rfl
set_option maxRecDepth 100000 in
theorem lifted (os : Os) (started : os.Started) (H : Type) (enc : TypeId × Value → H) :
 ReturnsInHanded {} Try.checked os 3 .any (Rows.matchTablesSpec.pre6 enc Try.prog Try.f3 Rows.matchTablesRow.domain false) (Rows.matchTablesSpec.post enc Try.prog Try.f3 false true false false) := by
 refine returnsInHanded_of_change_sized (C := Try.checked) own started (by kernel_rfl) Try.func3
  (ChangeSpec.witness6 (enc := enc) (C := Try.checked) false ⟨#[], #[.int .i64 0, .slice none 0 0], []⟩ 8 (by kernel_rfl) (by kernel_rfl) (by kernel_rfl) (by kernel_rfl)) ?_
 intro W base args ds gs before hval0 hW hcnd hsz0 _
 have hval : ∀ (j : Nat) t v, Try.f3.params[j]? = some t → args[j]? = some v → Value.okWide Try.prog W .any base t v := hval0
 have hW' := hW
 obtain ⟨p, q, hA0, hV, rfl, hfz, hnd⟩ := hW
 have hA : DataW.TrodAll enc Try.prog W 0 (fun _ => true) true Try.f3.params.toList args.toList ds p := hA0
 rw [Try.params3] at hA hval hsz0
 obtain ⟨v0, vs0, d0, ds0, p0, q0, hargs, rfl, rfl, h0, r0⟩ := trodAll_cons hA
 obtain ⟨v1, vs1, d1, ds1, p1, q1, rfl, rfl, rfl, h1, r1⟩ := trodAll_cons r0
 obtain ⟨rfl, rfl, rfl⟩ := trodAll_nil r1
 obtain rfl : args = #[v0, v1] := by cases args; simp_all
 obtain ⟨rfl, rfl⟩ := trodVars_none hV
 have lt0 : ∀ x ∈ p0, x.block < W.heap.size := by obtain ⟨m, hm⟩ := h0; exact DataW.trod_lt m _ _ _ hm
 obtain ⟨x0, ok0, l0, q0r⟩ := OpA.arg (OpA.i64 Try.underlying3) h0 hsz0 0 rfl rfl
 have R0 := rel_one (one_int Try.underlying3 (hval 0 3 v0 rfl rfl)) q0r
 have lt1 : ∀ x ∈ p1, x.block < W.heap.size := by obtain ⟨m, hm⟩ := h1; exact DataW.trod_lt m _ _ _ hm
 obtain ⟨x1, ok1, l1, q1r⟩ := OpA.arg (opGams W) h1 hsz0 1 rfl rfl
 have R1 := rel_one (one_slice Try.underlying22 (hval 1 22 v1 rfl rfl)) q1r
 clear hA0 hval0
 refine (spec_law (law x0 x1 ok0 ok1) (relL_cons R0 (relL_cons R1 relL_nil))).mono fun e W' ⟨he, bel⟩ => ?_
 subst he
 exact ⟨_, rfl, _, _, _, [], _, [], hW', trodAll_mk1 (shut_bool Try.underlying4 _), (trodAll_cons_mk (Below.trod laidOut (by kernel_rfl) (of_decide_eq_true (by kernel_rfl)) h0 bel lt0) (trodAll_cons_mk (Below.trod laidOut (by kernel_rfl) (of_decide_eq_true (by kernel_rfl)) h1 bel lt1) trodAll_mk0)), rfl, bel.frame _, fun h => by cases h⟩
theorem over : Rows.matchTablesRow.holds Try.pinned (OpenSpec.ofChange Rows.matchTablesSpec) :=
 OpenClaim.holds_of_wide 3 Try.f3 rfl rfl rfl rfl rfl rfl rfl ⟨rfl, rfl, rfl, rfl, rfl⟩ rfl rfl rfl rfl rfl (by kernel_rfl) Try.func3 (by kernel_rfl)
  (of_decide_eq_true (by kernel_rfl)) (by unfold Func.isWrapper; first | (rw [if_pos (by decide +kernel)]; kernel_rfl) | (rw [if_neg (by decide +kernel)]; exact ⟨rfl, rfl⟩))
  (fun os started H enc _ => lifted os started H enc)
theorem proved : Rows.MatchTablesSaid := over
#print axioms proved
end matchTables
end Go.Proofs.Ytddbnknkjaffbaa
