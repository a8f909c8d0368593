/-
  THE LAW MarkSays: whatever is handed in (lists of more than 500 numbers answer true at once), Mix, Turn, Of and Change answer what the reference says. No condition.
-/
import Derived.Test.YtemogefcbemjfaaRows
import Derived.Test.YtemogefcbemjfaaMarkO
import Derived.Test.YtemogefcbemjfaaOpen
namespace Go.Proofs.Ytemogefcbemjfaa.markSays
open Go.ChangeShapes Go.WideShapes Go.ChangeAt Go.RowKit
set_option linter.unusedVariables false

set_option maxHeartbeats 1000000 in
set_option maxRecDepth 100000 in
theorem walk (m n : Nat) (u v : SL Nat) (w : World) (hm : m < 18446744073709551616) (hn : n < 18446744073709551616) (hu : SLok w w.heap.size 1 e64 (fun n => n < 18446744073709551616) u) (hv : SLok w w.heap.size 1 e64 (fun n => n < 18446744073709551616) v) :
    Calls Try.prog 4 #[.int .u64 m, .int .u64 n, u.val, v.val] w fun e w' => e = .returned (.bool true) ∧ Below w.heap.size w w' := by
  obtain ⟨ua, uc, xs⟩ := u
  obtain ⟨va, vc, ys⟩ := v
  have HU := Lib.hid hu
  have HV := Lib.hid hv
  have hxl : xs.length ≤ 9223372036854775807 := Nat.le_trans hu.cap hu.max
  have hyl : ys.length ≤ 9223372036854775807 := Nat.le_trans hv.cap hv.max
  clear hu hv
  simp only [SL.val]
  by_cases h1 : 500 < xs.length
  · go_enter Try.func4, Try.ntmps4
    go_wp2_with fail
    go_ret
    exact ⟨rfl, Below.refl _ _⟩
  by_cases h2 : 500 < ys.length
  · go_enter Try.func4, Try.ntmps4
    go_wp2_with fail
    go_ret
    exact ⟨rfl, Below.refl _ _⟩
  have hxo := xorN m (mx n) hm (mx_lt n)
  have hxo2 := xorN m (mk 0 (xs ++ ys)) hm (mk_lt _ _ (by decide))
  have hcl := fun w hx hB => clone_u64 ua uc w.heap.size xs w (by omega) hx hB HU.out.nil
  have HC := Lib.hid hcl; clear hcl
  have HM := Lib.hid hm; clear hm hn
  go_enter Try.func4, Try.ntmps4
  go_wp2_with fail
  refine (HC.out _ HU.out.els (Nat.le_refl _)).mono ?_
  rintro e w1 ⟨⟨cv, rfl, hown⟩, hb1⟩
  have HB1 := Lib.hid hb1
  have HO := Lib.hid hown
  clear hown
  go_wp2_with (at_builtin; refine wpApp _ rfl _ _ _ rfl w.heap.size _ _ _ elT_u64 _ _ _ rfl HO.out va ys.length vc (ys.flatMap e64) rfl ?_ ?_ ?_ ?_ ?_ ?_ ?_ ?_)
  · rw [flatMap_len e64 1 ys (one_u64 ys)]
  · exact fun h => HV.out.nil h
  · exact (HV.out.els.below HB1.out (Nat.le_refl _)).news (one_u64 ys)
  · exact cell_u64 ys
  · simp only [maxLen]; omega
  · omega
  · exact hb1.size
  · intro v2 w2 hown2 hg _
    rw [← List.flatMap_append, ← List.length_append] at hown2
    have hb2 : Below w.heap.size w w2 := HB1.out.grown hg hb1.size (fun k hk => (HO.out.lt k hk).1)
    obtain ⟨a2, c2, rfl, _, hels, hc2, hm2⟩ := Els.ofOwn hown2 (one_u64 _) (by decide)
    have HE := Lib.hid hels
    have HB2 := Lib.hid hb2
    have hs2 := hb2.size
    clear hown2 hels hb2 hg hb1
    have hxl2 : (xs ++ ys).length ≤ 1000 := by simp; omega
    generalize hZ : xs ++ ys = zs at *
    have HZ := Lib.hid hZ; clear hZ
    go_wp2_with (first | (go_at_call 15; refine (mix_any _ _).mono ?_; rintro e w' ⟨rfl, rfl⟩) | (go_at_call 16; refine (mixed_any _ _).mono ?_; rintro e w' ⟨rfl, rfl⟩) | (go_at_call 17; refine (turn_any _ _ HM.out _).mono ?_; rintro e w' ⟨rfl, rfl⟩))
    refine (of_any ua uc w.heap.size xs _ (by omega) (HU.out.els.below HB2.out (Nat.le_refl _)) hs2).mono ?_
    rintro e w3 ⟨rfl, hb3⟩
    have HB3 := Lib.hid hb3
    have hs3 := hb3.size
    clear hb3
    go_wp2_with fail
    have HB23 : Hid (Below w.heap.size w w3) := HB2.out.trans (HB3.out.mono hs2)
    refine (markOf_any ua uc w.heap.size xs _ (by omega) (HU.out.els.below HB23.out (Nat.le_refl _))).mono ?_
    rintro e w4 ⟨rfl, rfl⟩
    go_wp2_with fail
    refine (change_any ua va uc vc w.heap.size m xs ys _ HM.out (by omega) (by omega) (HU.out.els.below HB23.out (Nat.le_refl _)) (HV.out.els.below HB23.out (Nat.le_refl _)) (by omega)).mono ?_
    rintro e w5 ⟨rfl, hb5⟩
    rw [HZ.out]
    have HB5 := Lib.hid hb5
    clear hb5
    go_wp2_with fail
    have HB35 : Hid (Below w2.heap.size w2 w5) := HB3.out.trans (HB5.out.mono hs3)
    refine (markOf_any a2 c2 w2.heap.size zs _ (by omega) (HE.out.below HB35.out (Nat.le_refl _))).mono ?_
    rintro e w6 ⟨rfl, rfl⟩
    go_wp2_with fail
    go_ret
    exact ⟨rfl, HB23.out.trans (HB5.out.mono (by omega))⟩
theorem own : ownKnob Try.prog.godebug = none := by kernel_rfl
theorem laidOut : laidOutB Try.prog = true := by kernel_rfl
set_option maxRecDepth 100000 in
theorem lifted (os : Os) (started : os.Started) (H : Type) (enc : TypeId × Value → H) :
    ReturnsInHanded {} Try.checked os 4 .any (Rows.markSaysSpec.pre6 enc Try.prog Try.f4 Rows.markSaysRow.domain false) (Rows.markSaysSpec.post enc Try.prog Try.f4 false true false false) := by
  refine returnsInHanded_of_change (C := Try.checked) own started (by kernel_rfl) Try.func4
    (ChangeSpec.witness6 (enc := enc) (C := Try.checked) false ⟨#[], #[.int .u64 0, .int .u64 0, .slice none 0 0, .slice none 0 0], []⟩ 8 (by kernel_rfl) (by kernel_rfl) (by kernel_rfl) (by kernel_rfl)) ?_
  intro W base args ds gs before hval0 hW hcnd _
  have hval : ∀ (j : Nat) t v, Try.f4.params[j]? = some t → args[j]? = some v → Value.okWide Try.prog W .any base t v := hval0
  have hW' := hW
  obtain ⟨p, q, hA0, hV, rfl, hfz, hnd⟩ := hW
  have hA : DataW.TrodAll enc Try.prog W 0 (fun _ => true) true Try.f4.params.toList args.toList ds p := hA0
  rw [Try.params4] at hA hval
  obtain ⟨v0, vs0, d0, ds0, p0, q0, hargs, rfl, rfl, h0, r0⟩ := trodAll_cons hA
  obtain ⟨v1, vs1, d1, ds1, p1, q1, rfl, rfl, rfl, h1, r1⟩ := trodAll_cons r0
  obtain ⟨v2, vs2, d2, ds2, p2, q2, rfl, rfl, rfl, h2, r2⟩ := trodAll_cons r1
  obtain ⟨v3, vs3, d3, ds3, p3, q3, rfl, rfl, rfl, h3, r3⟩ := trodAll_cons r2
  obtain ⟨rfl, rfl, rfl⟩ := trodAll_nil r3
  obtain rfl : args = #[v0, v1, v2, v3] := by cases args; simp_all
  obtain ⟨rfl, rfl⟩ := trodVars_none hV
  have lt0 : ∀ x ∈ p0, x.block < W.heap.size := by obtain ⟨m, hm⟩ := h0; exact DataW.trod_lt m _ _ _ hm
  obtain ⟨x0, c0, ok0⟩ := Opens.arg (Opens.u64 Try.underlying28) h0
  obtain rfl := arg_int Try.underlying28 (hval 0 28 v0 rfl rfl) c0
  have lt1 : ∀ x ∈ p1, x.block < W.heap.size := by obtain ⟨m, hm⟩ := h1; exact DataW.trod_lt m _ _ _ hm
  obtain ⟨x1, c1, ok1⟩ := Opens.arg (Opens.u64 Try.underlying28) h1
  obtain rfl := arg_int Try.underlying28 (hval 1 28 v1 rfl rfl) c1
  have lt2 : ∀ x ∈ p2, x.block < W.heap.size := by obtain ⟨m, hm⟩ := h2; exact DataW.trod_lt m _ _ _ hm
  obtain ⟨x2, c2, ok2⟩ := Opens.arg (Opens.slice Try.underlying29 (by kernel_rfl) (by decide) (Opens.u64 Try.underlying28)) h2
  obtain rfl := arg_slice Try.underlying29 (hval 2 29 v2 rfl rfl) c2
  have lt3 : ∀ x ∈ p3, x.block < W.heap.size := by obtain ⟨m, hm⟩ := h3; exact DataW.trod_lt m _ _ _ hm
  obtain ⟨x3, c3, ok3⟩ := Opens.arg (Opens.slice Try.underlying29 (by kernel_rfl) (by decide) (Opens.u64 Try.underlying28)) h3
  obtain rfl := arg_slice Try.underlying29 (hval 3 29 v3 rfl rfl) c3
  clear hA0 hval0
  refine (walk x0 x1 x2 x3 W ok0 ok1 ok2 ok3).mono fun e W' ⟨he, bel⟩ => ?_
  subst he
  exact ⟨_, rfl, _, _, _, [], _, [], hW', trodAll_mk1 (shut_bool Try.underlying4 _), (trodAll_cons_mk (Below.trod laidOut (by kernel_rfl) (of_decide_eq_true (by kernel_rfl)) h0 bel lt0) (trodAll_cons_mk (Below.trod laidOut (by kernel_rfl) (of_decide_eq_true (by kernel_rfl)) h1 bel lt1) (trodAll_cons_mk (Below.trod laidOut (by kernel_rfl) (of_decide_eq_true (by kernel_rfl)) h2 bel lt2) (trodAll_cons_mk (Below.trod laidOut (by kernel_rfl) (of_decide_eq_true (by kernel_rfl)) h3 bel lt3) trodAll_mk0)))), rfl, bel.frame _, fun h => by cases h⟩
theorem over : Rows.markSaysRow.holds Try.pinned (OpenSpec.ofChange Rows.markSaysSpec) :=
  OpenClaim.holds_of_wide 4 Try.f4 rfl rfl rfl rfl rfl rfl rfl ⟨rfl, rfl, rfl, rfl, rfl⟩ rfl rfl rfl rfl rfl (by kernel_rfl) Try.func4 (by kernel_rfl)
    (of_decide_eq_true (by kernel_rfl)) (by unfold Func.isWrapper; first | (rw [if_pos (by decide +kernel)]; kernel_rfl) | (rw [if_neg (by decide +kernel)]; exact ⟨rfl, rfl⟩))
    (fun os started H enc _ => lifted os started H enc)
theorem proved : Rows.MarkSaysSaid := over
#print axioms proved
end Go.Proofs.Ytemogefcbemjfaa.markSays
