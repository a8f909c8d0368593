/-
  THE LAW FixSays: for all integers a and b, Keep, Add, Mul, Div and Root answer what the reference says. No condition.
-/
import Derived.Test.YtemogefcbemjfaaRows
import Derived.Test.YtemogefcbemjfaaFixR
import Derived.ProofKit
import Derived.OpenShut
namespace Go.Proofs.Ytemogefcbemjfaa.fixSays
open Go.ChangeShapes Go.WideShapes Go.ChangeAt Go.RowKit
set_option linter.unusedVariables false

theorem own : ownKnob Try.prog.godebug = none := by kernel_rfl

set_option maxHeartbeats 1000000 in
theorem walk (a0 : Int) (a1 : Int) (w : World) :
    Calls Try.prog 7 #[.int .i64 a0, .int .i64 a1] w fun e w' => e = .returned (.bool true) ∧ Grown w w' := by
  obtain ⟨m1, m2⟩ := kp_mul a0 a1
  have x0 := kp_lo a0
  have x1 := kp_hi a0
  have y0 := kp_lo a1
  have y1 := kp_hi a1
  have e1 : (kp a0 * kp a1).fdiv 65536 = kp a0 * kp a1 / 65536 := Int.fdiv_eq_ediv_of_nonneg _ (by omega)
  have E1 := Lib.hid e1; clear e1
  by_cases hx : kp a0 < 0 <;> by_cases hy : kp a1 = 0
  · have hr := fun w => root_neg a0 w hx
    have hd := fun w => div_zero a0 a1 w hy
    have HR := Lib.hid hr; clear hr
    have HD := Lib.hid hd; clear hd
    have HY := Lib.hid hy
    clear hy
    have hy' : (kp a1 == 0) = true := by have := HY.out; simp [this]
    go_enter Try.func7, Try.ntmps7
    go_wp2_with (first | (go_at_call 30; refine (kept_any _ _).mono ?_; rintro e w' ⟨rfl, rfl⟩) | (go_at_call 33; refine (keep_any _ _).mono ?_; rintro e w' ⟨rfl, rfl⟩) | (go_at_call 34; refine (add_any _ _ _).mono ?_; rintro e w' ⟨rfl, rfl⟩) | (go_at_call 35; refine (mul_any _ _ _).mono ?_; rintro e w' ⟨rfl, rfl⟩) | (go_at_call 31; refine (HD.out _).mono ?_; rintro e w' ⟨rfl, rfl⟩) | (go_at_call 36; refine (down_any _ _ _ (by omega) (by omega) (by omega) (by omega) (by omega)).mono ?_; rintro e w' ⟨rfl, rfl⟩; try rw [E1.out]) | (go_at_call 32; refine (HR.out _).mono ?_; rintro e w' ⟨rfl, rfl⟩))
    go_ret
    exact ⟨rfl, Grown.refl _⟩
  · have hr := fun w => root_neg a0 w hx
    have hd := fun w => div_some a0 a1 w hy
    have HR := Lib.hid hr; clear hr
    have HD := Lib.hid hd; clear hd
    have HY := Lib.hid hy
    have hy' : (kp a1 == 0) = false := by have := HY.out; simp [this]
    go_enter Try.func7, Try.ntmps7
    go_wp2_with (first | (go_at_call 30; refine (kept_any _ _).mono ?_; rintro e w' ⟨rfl, rfl⟩) | (go_at_call 33; refine (keep_any _ _).mono ?_; rintro e w' ⟨rfl, rfl⟩) | (go_at_call 34; refine (add_any _ _ _).mono ?_; rintro e w' ⟨rfl, rfl⟩) | (go_at_call 35; refine (mul_any _ _ _).mono ?_; rintro e w' ⟨rfl, rfl⟩) | (go_at_call 31; refine (HD.out _).mono ?_; rintro e w' ⟨rfl, rfl⟩) | (go_at_call 36; refine (down_any _ _ _ (by omega) (by omega) (by omega) (by omega) (by omega)).mono ?_; rintro e w' ⟨rfl, rfl⟩; try rw [E1.out]) | (go_at_call 32; refine (HR.out _).mono ?_; rintro e w' ⟨rfl, rfl⟩))
    go_ret
    exact ⟨rfl, Grown.refl _⟩
  · have hr := fun w => root_any a0 w (by omega)
    have hd := fun w => div_zero a0 a1 w hy
    have HR := Lib.hid hr; clear hr
    have HD := Lib.hid hd; clear hd
    have HY := Lib.hid hy
    clear hy
    have hy' : (kp a1 == 0) = true := by have := HY.out; simp [this]
    have hn : kp a0 * 65536 = ((kp a0 * 65536).toNat : Int) := by omega
    have HN := Lib.hid hn; clear hn
    go_enter Try.func7, Try.ntmps7
    go_wp2_with (first | (go_at_call 30; refine (kept_any _ _).mono ?_; rintro e w' ⟨rfl, rfl⟩) | (go_at_call 33; refine (keep_any _ _).mono ?_; rintro e w' ⟨rfl, rfl⟩) | (go_at_call 34; refine (add_any _ _ _).mono ?_; rintro e w' ⟨rfl, rfl⟩) | (go_at_call 35; refine (mul_any _ _ _).mono ?_; rintro e w' ⟨rfl, rfl⟩) | (go_at_call 31; refine (HD.out _).mono ?_; rintro e w' ⟨rfl, rfl⟩) | (go_at_call 36; refine (down_any _ _ _ (by omega) (by omega) (by omega) (by omega) (by omega)).mono ?_; rintro e w' ⟨rfl, rfl⟩; try rw [E1.out]) | (go_at_call 32; refine (HR.out _).mono ?_; rintro e w' ⟨⟨r, hr, rfl⟩, rfl⟩) | (go_at_call 37; rw [HN.out]; refine (rootOf_any _ r _ (by omega) (by assumption)).mono ?_; rintro e w' ⟨rfl, rfl⟩))
    go_ret
    exact ⟨rfl, Grown.refl _⟩
  · have hr := fun w => root_any a0 w (by omega)
    have hd := fun w => div_some a0 a1 w hy
    have HR := Lib.hid hr; clear hr
    have HD := Lib.hid hd; clear hd
    have HY := Lib.hid hy
    have hy' : (kp a1 == 0) = false := by have := HY.out; simp [this]
    have hn : kp a0 * 65536 = ((kp a0 * 65536).toNat : Int) := by omega
    have HN := Lib.hid hn; clear hn
    go_enter Try.func7, Try.ntmps7
    go_wp2_with (first | (go_at_call 30; refine (kept_any _ _).mono ?_; rintro e w' ⟨rfl, rfl⟩) | (go_at_call 33; refine (keep_any _ _).mono ?_; rintro e w' ⟨rfl, rfl⟩) | (go_at_call 34; refine (add_any _ _ _).mono ?_; rintro e w' ⟨rfl, rfl⟩) | (go_at_call 35; refine (mul_any _ _ _).mono ?_; rintro e w' ⟨rfl, rfl⟩) | (go_at_call 31; refine (HD.out _).mono ?_; rintro e w' ⟨rfl, rfl⟩) | (go_at_call 36; refine (down_any _ _ _ (by omega) (by omega) (by omega) (by omega) (by omega)).mono ?_; rintro e w' ⟨rfl, rfl⟩; try rw [E1.out]) | (go_at_call 32; refine (HR.out _).mono ?_; rintro e w' ⟨⟨r, hr, rfl⟩, rfl⟩) | (go_at_call 37; rw [HN.out]; refine (rootOf_any _ r _ (by omega) (by assumption)).mono ?_; rintro e w' ⟨rfl, rfl⟩))
    go_ret
    exact ⟨rfl, Grown.refl _⟩

set_option maxRecDepth 100000 in
theorem lifted (os : Os) (started : os.Started) (H : Type) (enc : TypeId × Value → H) :
    ReturnsInHanded {} Try.checked os 7 .any (Rows.fixSaysSpec.pre6 enc Try.prog Try.f7 Rows.fixSaysRow.domain false) (Rows.fixSaysSpec.post enc Try.prog Try.f7 false true false false) := by
  refine returnsInHanded_of_change (C := Try.checked) own started (by kernel_rfl) Try.func7
    (ChangeSpec.witness6 (enc := enc) (C := Try.checked) false ⟨#[], #[.int .i64 0, .int .i64 0], []⟩ 8 (by kernel_rfl) (by kernel_rfl) (by kernel_rfl) (by kernel_rfl)) ?_
  intro W base args ds gs before hval0 hW hcnd _
  have hval : ∀ (j : Nat) t v, Try.f7.params[j]? = some t → args[j]? = some v → Value.okWide Try.prog W .any base t v := hval0
  have hW' := hW
  obtain ⟨p, q, hA0, hV, rfl, hfz, hnd⟩ := hW
  have hA : DataW.TrodAll enc Try.prog W 0 (fun _ => true) true Try.f7.params.toList args.toList ds p := hA0
  rw [Try.params7] at hA hval
  obtain ⟨v0, vs0, d0, ds0, p0, q0, hargs, rfl, rfl, h0, r0⟩ := trodAll_cons hA
  obtain ⟨v1, vs1, d1, ds1, p1, q1, rfl, rfl, rfl, h1, r1⟩ := trodAll_cons r0
  obtain ⟨rfl, rfl, rfl⟩ := trodAll_nil r1
  obtain rfl : args = #[v0, v1] := by cases args; simp_all
  obtain ⟨rfl, rfl⟩ := trodVars_none hV
  obtain ⟨a0, rfl, rfl, rfl, w0⟩ := open_int Try.underlying3 (hval 0 3 v0 rfl rfl) h0
  obtain ⟨a1, rfl, rfl, rfl, w1⟩ := open_int Try.underlying3 (hval 1 3 v1 rfl rfl) h1
  clear hA0 hval0
  simp only [List.append_nil] at hW'
  refine (walk a0 a1 W).mono fun e W' ⟨he, hg⟩ => ?_
  subst he
  exact ⟨_, rfl, post_of_same (pa := []) (pv := []) hW' (fun _ _ _ => (trodAll_cons_mk (shut_bool Try.underlying4 _) trodAll_mk0)) (fun sp _ => (trodAll_cons_mk (shut_int Try.underlying3 w0) (trodAll_cons_mk (shut_int Try.underlying3 w1) trodAll_mk0))) (fun _ _ => rfl) rfl
    (hg.frame _) hg.2.1 (ok_one (by kernel_rfl) rfl (okWide_bool_mk Try.underlying4 _))⟩

theorem over : Rows.fixSaysRow.holds Try.pinned (OpenSpec.ofChange Rows.fixSaysSpec) :=
  OpenClaim.holds_of_wide 7 Try.f7 rfl rfl rfl rfl rfl rfl rfl ⟨rfl, rfl, rfl, rfl, rfl⟩ rfl rfl rfl rfl rfl (by kernel_rfl) Try.func7 (by kernel_rfl)
    (of_decide_eq_true (by kernel_rfl)) (by unfold Func.isWrapper; first | (rw [if_pos (by decide +kernel)]; kernel_rfl) | (rw [if_neg (by decide +kernel)]; exact ⟨rfl, rfl⟩))
    (fun os started H enc _ => lifted os started H enc)


theorem proved : Rows.FixSaysSaid :=
  over
#print axioms proved
end Go.Proofs.Ytemogefcbemjfaa.fixSays
