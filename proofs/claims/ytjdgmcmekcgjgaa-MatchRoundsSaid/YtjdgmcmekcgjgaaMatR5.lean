/- MatchRounds: whatever number of players is handed in, Rounds answers what the document says. No condition. -/
import Derived.Test.YtjdgmcmekcgjgaaMatR4
import Derived.Test.YtjdgmcmekcgjgaaRows
namespace Go.Proofs.Ytjdgmcmekcgjgaa
set_option linter.all false
open Go.RowKit Go.ChangeShapes Go.WideShapes Go.ChangeAt
namespace matchRounds
set_option maxRecDepth 100000
set_option maxHeartbeats 1000000
theorem law (n : Int) (_ : In64 n) : Spec Try.prog 3 [I .i64 n] [] (B true) [] := by
 by_cases h : 2 ≤ n ∧ n ≤ 64
 ·obtain ⟨k, rfl⟩ : ∃ k : Nat, n = k := ⟨n.toNat, by omega⟩
  rcases Nat.mod_two_eq_zero_or_one k with hk | hk
  ·exact matchR_ok (q := k / 2 - 1) (M := k - 1) (m := k) ⟨by omega, by omega, by omega⟩ k (by omega) (by omega) (by omega) (by omega)
  ·exact matchR_ok (q := k / 2) (M := k) (m := k + 1) ⟨by omega, by omega, by omega⟩ k (by omega) (by omega) (by omega) (by omega)
 ·exact matchR_bad n h
theorem own : ownKnob Try.prog.godebug = none := by kernel_rfl
theorem laidOut : laidOutB Try.prog = true := by kernel_rfl
set_option maxRecDepth 100000 in
theorem lifted (os : Os) (started : os.Started) (H : Type) (enc : TypeId × Value → H) :
 ReturnsInHanded {} Try.checked os 3 .any (Rows.matchRoundsSpec.pre6 enc Try.prog Try.f3 Rows.matchRoundsRow.domain false) (Rows.matchRoundsSpec.post enc Try.prog Try.f3 false true false false) := by
 refine returnsInHanded_of_change_sized (C := Try.checked) own started (by kernel_rfl) Try.func3
  (ChangeSpec.witness6 (enc := enc) (C := Try.checked) false ⟨#[], #[.int .i64 0], []⟩ 8 (by kernel_rfl) (by kernel_rfl) (by kernel_rfl) (by kernel_rfl)) ?_
 intro W base args ds gs before hval0 hW hcnd hsz0 _
 have hval : ∀ (j : Nat) t v, Try.f3.params[j]? = some t → args[j]? = some v → Value.okWide Try.prog W .any base t v := hval0
 have hW' := hW
 obtain ⟨p, q, hA0, hV, rfl, hfz, hnd⟩ := hW
 have hA : DataW.TrodAll enc Try.prog W 0 (fun _ => true) true Try.f3.params.toList args.toList ds p := hA0
 rw [Try.params3] at hA hval hsz0
 obtain ⟨v0, vs0, d0, ds0, p0, q0, hargs, rfl, rfl, h0, r0⟩ := trodAll_cons hA
 obtain ⟨rfl, rfl, rfl⟩ := trodAll_nil r0
 obtain rfl : args = #[v0] := by cases args; simp_all
 obtain ⟨rfl, rfl⟩ := trodVars_none hV
 have lt0 : ∀ x ∈ p0, x.block < W.heap.size := by obtain ⟨m, hm⟩ := h0; exact DataW.trod_lt m _ _ _ hm
 obtain ⟨x0, ok0, l0, q0r⟩ := OpA.arg (OpA.i64 Try.underlying3) h0 hsz0 0 rfl rfl
 have R0 := rel_one (one_int Try.underlying3 (hval 0 3 v0 rfl rfl)) q0r
 clear hA0 hval0
 refine (spec_law (law x0 ok0) (relL_cons R0 relL_nil)).mono fun e W' ⟨he, bel⟩ => ?_
 subst he
 exact ⟨_, rfl, _, _, _, [], _, [], hW', trodAll_mk1 (shut_bool Try.underlying4 _), (trodAll_cons_mk (Below.trod laidOut (by kernel_rfl) (of_decide_eq_true (by kernel_rfl)) h0 bel lt0) trodAll_mk0), rfl, bel.frame _, fun h => by cases h⟩
theorem over : Rows.matchRoundsRow.holds Try.pinned (OpenSpec.ofChange Rows.matchRoundsSpec) :=
 OpenClaim.holds_of_wide 3 Try.f3 rfl rfl rfl rfl rfl rfl rfl ⟨rfl, rfl, rfl, rfl, rfl⟩ rfl rfl rfl rfl rfl (by kernel_rfl) Try.func3 (by kernel_rfl)
  (of_decide_eq_true (by kernel_rfl)) (by unfold Func.isWrapper; first | (rw [if_pos (by decide +kernel)]; kernel_rfl) | (rw [if_neg (by decide +kernel)]; exact ⟨rfl, rfl⟩))
  (fun os started H enc _ => lifted os started H enc)
theorem proved : Rows.MatchRoundsSaid := over
#print axioms proved
end matchRounds
end Go.Proofs.Ytjdgmcmekcgjgaa
