/- OrderSays: whatever order, orders and text are handed in, Check, Write and Read answer what the document says. No condition. -/
import Derived.Test.YtdkmndimmpilaaaOrderM4
import Derived.Test.YtdkmndimmpilaaaChecked
import Derived.Test.YtdkmndimmpilaaaRows
namespace Go.Proofs.Ytdkmndimmpilaaa
set_option linter.all false
open Go.RowKit Go.ChangeShapes Go.WideShapes Go.ChangeAt
set_option maxRecDepth 100000
theorem opCel (w : World) : OpA Try.prog 25 2 w celP (fun c => In64 c.x ∧ In64 c.y) :=
 (OpA.struct Try.underlying25 (by kernel_rfl) (OpAF.cons rfl rfl (OpA.i64 Try.underlying3) (OpAF.cons rfl rfl (OpA.i64 Try.underlying3) OpAF.nil))).map (fun x => ⟨x.1, x.2.1⟩) (fun _ => rfl) (fun _ h => ⟨h.1, h.2.1⟩)
end Go.Proofs.Ytdkmndimmpilaaa
namespace Go.Proofs.Ytdkmndimmpilaaa
set_option linter.all false
open Go.RowKit Go.ChangeShapes Go.WideShapes Go.ChangeAt
namespace orderSays
set_option maxRecDepth 100000
set_option maxHeartbeats 1000000
theorem opOrd (w : World) : OpA Try.prog 27 6 w ordP (fun _ => True) :=
 (OpA.struct Try.underlying27 (by kernel_rfl) (OpAF.cons rfl rfl (OpA.i64 Try.underlying3) (OpAF.cons rfl rfl (OpA.i64 Try.underlying3) (OpAF.cons rfl rfl (OpA.i64 Try.underlying3) (OpAF.cons rfl rfl (opCel w) (OpAF.cons rfl rfl (OpA.i64 Try.underlying3) OpAF.nil)))))).map (fun x => ⟨x.1, x.2.1, x.2.2.1, x.2.2.2.1, x.2.2.2.2.1⟩) (fun _ => rfl) (fun _ _ => trivial)
theorem opOrds (w : World) : OpA Try.prog 36 1 w (fun xs : List Ord => [.sl 6 (xs.map ordP)]) (fun xs => (∀ x ∈ xs, True) ∧ xs.length * 48 ≤ 140737488351232 ∧ xs.length ≤ 9223372036854775807) :=
 OpA.slice Try.underlying36 (by kernel_rfl) (by decide) (by kernel_rfl) (opOrd w)
theorem law (o : Ord) (l : List Ord) (s : ByteArray) (_ : True) (h1 : (∀ x ∈ l, True) ∧ l.length * 48 ≤ 140737488351232 ∧ l.length ≤ 9223372036854775807) (h2 : s.size ≤ 140737488351232) : Spec Try.prog 4 [ordA o, .c (.sl 6 (l.map ordP)), S s] [] (B true) [] := by
 have hrl := readV_len s
 refine spec_am Try.func4 rfl rfl mix 60 rfl [.tmp 6] Try.results4 (Nat.le_of_ble_eq_true rfl) ?_
 (try (refine xst ?_; try exact xtI))
 refine caP (owrite_s l h1.2.2) ?_
 (try (refine xst ?_; try exact xtI))
 refine caP (rwrite_s l h1.2.2) ?_
 (try (refine xst ?_; try exact xtI))
 refine caP (read_s s h2) ?_
 (try (refine xst ?_; try exact xtI))
 refine caP (rtext_s s h2) ?_
 (try (refine xst ?_; try exact xtI))
 refine caP (ocheck_s o) ?_
 (try (refine xst ?_; try exact xtI))
 refine caP (oright_s o) ?_
 (try (refine xst ?_; try exact xtI))
 refine gcP (fun hcc => ord_eq (readV s).1 (readV s).1 (by omega) (by omega)) ?_
 (try (refine xst ?_; try exact xtI))
 (try (refine ⟨by kernel_rfl, ?_⟩))
 (try (refine xst ?_; try exact xtI))
 exact xrz rfl
theorem own : ownKnob Try.prog.godebug = none := by kernel_rfl
theorem laidOut : laidOutB Try.prog = true := by kernel_rfl
set_option maxRecDepth 100000 in
theorem lifted (os : Os) (started : os.Started) (H : Type) (enc : TypeId × Value → H) :
 ReturnsInHanded {} Try.checked os 4 .any (Rows.orderSaysSpec.pre6 enc Try.prog Try.f4 Rows.orderSaysRow.domain false) (Rows.orderSaysSpec.post enc Try.prog Try.f4 false true false false) := by
 refine returnsInHanded_of_change_sized (C := Try.checked) own started (by kernel_rfl) Try.func4
  (ChangeSpec.witness6 (enc := enc) (C := Try.checked) false ⟨#[], #[.agg #[.int .i64 0, .int .i64 0, .int .i64 0, .int .i64 0, .int .i64 0, .int .i64 0], .slice none 0 0, .string ByteArray.empty], []⟩ 8 (by kernel_rfl) (by kernel_rfl) (by kernel_rfl) (by kernel_rfl)) ?_
 intro W base args ds gs before hval0 hW hcnd hsz0 _
 have hval : ∀ (j : Nat) t v, Try.f4.params[j]? = some t → args[j]? = some v → Value.okWide Try.prog W .any base t v := hval0
 have hW' := hW
 obtain ⟨p, q, hA0, hV, rfl, hfz, hnd⟩ := hW
 have hA : DataW.TrodAll enc Try.prog W 0 (fun _ => true) true Try.f4.params.toList args.toList ds p := hA0
 rw [Try.params4] at hA hval hsz0
 obtain ⟨v0, vs0, d0, ds0, p0, q0, hargs, rfl, rfl, h0, r0⟩ := trodAll_cons hA
 obtain ⟨v1, vs1, d1, ds1, p1, q1, rfl, rfl, rfl, h1, r1⟩ := trodAll_cons r0
 obtain ⟨v2, vs2, d2, ds2, p2, q2, rfl, rfl, rfl, h2, r2⟩ := trodAll_cons r1
 obtain ⟨rfl, rfl, rfl⟩ := trodAll_nil r2
 obtain rfl : args = #[v0, v1, v2] := by cases args; simp_all
 obtain ⟨rfl, rfl⟩ := trodVars_none hV
 have lt0 : ∀ x ∈ p0, x.block < W.heap.size := by obtain ⟨m, hm⟩ := h0; exact DataW.trod_lt m _ _ _ hm
 obtain ⟨x0, ok0, l0, q0r⟩ := OpA.arg (opOrd W) h0 hsz0 0 rfl rfl
 have R0 := rel_agg (arg_struct (hval 0 27 v0 rfl rfl) Try.underlying27 rfl) l0 q0r
 have lt1 : ∀ x ∈ p1, x.block < W.heap.size := by obtain ⟨m, hm⟩ := h1; exact DataW.trod_lt m _ _ _ hm
 obtain ⟨x1, ok1, l1, q1r⟩ := OpA.arg (opOrds W) h1 hsz0 1 rfl rfl
 have R1 := rel_one (one_slice Try.underlying36 (hval 1 36 v1 rfl rfl)) q1r
 have lt2 : ∀ x ∈ p2, x.block < W.heap.size := by obtain ⟨m, hm⟩ := h2; exact DataW.trod_lt m _ _ _ hm
 obtain ⟨x2, ok2, l2, q2r⟩ := OpA.arg (OpA.str Try.underlying9) h2 hsz0 2 rfl rfl
 have R2 := rel_one (one_str Try.underlying9 (hval 2 9 v2 rfl rfl)) q2r
 clear hA0 hval0
 refine (spec_law (law x0 x1 x2 ok0 ok1 ok2) (relL_cons R0 (relL_cons R1 (relL_cons R2 relL_nil)))).mono fun e W' ⟨he, bel⟩ => ?_
 subst he
 exact ⟨_, rfl, _, _, _, [], _, [], hW', trodAll_mk1 (shut_bool Try.underlying4 _), (trodAll_cons_mk (Below.trod laidOut (by kernel_rfl) (of_decide_eq_true (by kernel_rfl)) h0 bel lt0) (trodAll_cons_mk (Below.trod laidOut (by kernel_rfl) (of_decide_eq_true (by kernel_rfl)) h1 bel lt1) (trodAll_cons_mk (Below.trod laidOut (by kernel_rfl) (of_decide_eq_true (by kernel_rfl)) h2 bel lt2) trodAll_mk0))), rfl, bel.frame _, fun h => by cases h⟩
theorem over : Rows.orderSaysRow.holds Try.pinned (OpenSpec.ofChange Rows.orderSaysSpec) :=
 OpenClaim.holds_of_wide 4 Try.f4 rfl rfl rfl rfl rfl rfl rfl ⟨rfl, rfl, rfl, rfl, rfl⟩ rfl rfl rfl rfl rfl (by kernel_rfl) Try.func4 (by kernel_rfl)
  (of_decide_eq_true (by kernel_rfl)) (by unfold Func.isWrapper; first | (rw [if_pos (by decide +kernel)]; kernel_rfl) | (rw [if_neg (by decide +kernel)]; exact ⟨rfl, rfl⟩))
  (fun os started H enc _ => lifted os started H enc)
theorem proved : Rows.OrderSaysSaid := over
#print axioms proved
end orderSays
end Go.Proofs.Ytdkmndimmpilaaa
