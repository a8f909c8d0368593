/- LineSays: whatever cells are handed in, Apart and Cells answer what the reference says. No condition. -/
import Derived.Test.YtemogefcbemjfaaLineP
import Derived.Test.YtemogefcbemjfaaLineN
import Derived.Test.YtemogefcbemjfaaEqC
import Derived.Test.YtemogefcbemjfaaOpen
import Derived.Test.YtemogefcbemjfaaRows
import Derived.Test.YtemogefcbemjfaaChecked
namespace Go.Proofs.Ytemogefcbemjfaa
open Go.RowKit Go.ChangeShapes Go.WideShapes Go.ChangeAt
set_option linter.unusedVariables false
namespace lineSays
set_option maxRecDepth 100000 in
theorem opCell (w : World) : Opens Try.prog 78 2 w Cel.enc (fun x => I64 x.x ∧ I64 x.y) :=
  (Opens.struct Try.underlying78 (by kernel_rfl) (OpensF.cons rfl rfl (Opens.i64 Try.underlying3) (OpensF.cons rfl rfl (Opens.i64 Try.underlying3) OpensF.nil))).map (fun x => (⟨x.1, x.2.1⟩ : Cel)) (fun _ => rfl) (fun _ h => ⟨h.1, h.2.1⟩)
set_option maxRecDepth 20000 in
set_option maxHeartbeats 1000000 in
theorem walk_no (a b : Cel) (w : World) (ha : I64 a.x ∧ I64 a.y) (hb : I64 b.x ∧ I64 b.y) (h : nearB a = false ∨ nearB b = false) :
    Calls Try.prog 10 #[a.val, b.val] w fun e w' => e = .returned (.bool true) ∧ Below w.heap.size w w' := by
  have H1 := PLift.up (apart_no a b ha hb h)
  have H2 := PLift.up (cells_no a b ha hb h)
  have H3 := PLift.up (cellNear_any a)
  have H4 := PLift.up (cellNear_any b)
  simp only [Cel.val] at *
  have h' : (nearB a && nearB b) = false := by rcases h with h | h <;> simp [h]
  clear ha hb h
  go_enter Try.func10, Try.ntmps10
  go_wp2_with fail
  obtain ⟨w0, hw0⟩ : ∃ w0 : World, w0 = (w.alloc (Obj.cells #[.int .i64 a.x, .int .i64 a.y] 78)).alloc (Obj.cells #[.int .i64 b.x, .int .i64 b.y] 78) := ⟨_, rfl⟩
  rw [← hw0]
  have VK : PLift (∀ w', Below (w.heap.size + 2) w0 w' → w'.cell? ⟨w.heap.size, 0, none⟩ = some (.int .i64 a.x) ∧ w'.cell? ⟨w.heap.size, 1, none⟩ = some (.int .i64 a.y) ∧ w'.cell? ⟨w.heap.size + 1, 0, none⟩ = some (.int .i64 b.x) ∧ w'.cell? ⟨w.heap.size + 1, 1, none⟩ = some (.int .i64 b.y)) := PLift.up (fun w' hb => by
    refine ⟨?_, ?_, ?_, ?_⟩ <;> (rw [hb.cell (by simp), hw0]; simp [go_sem]))
  have hs0 : w0.heap.size = w.heap.size + 2 := by rw [hw0]; simp [go_sem]
  have HB0 : PLift (Below w.heap.size w w0) := PLift.up (by rw [hw0]; exact (below_lit _ _).alloc (by simp) _)
  clear hw0
  obtain ⟨a0, a1, b0, b1⟩ := VK.down _ (Below.refl _ _)
  go_wp2_with fail
  refine (H1.down _).mono ?_
  rintro e w1 ⟨rfl, hb1⟩
  have B1 : PLift (Below (w.heap.size + 2) w0 w1) := PLift.up (hb1.mono (by omega))
  clear hb1
  obtain ⟨a0, a1, b0, b1⟩ := VK.down _ B1.down
  go_wp2_with fail
  refine (H2.down _).mono ?_
  rintro e w2 ⟨rfl, hb2⟩
  have B2 : PLift (Below (w.heap.size + 2) w0 w2) := PLift.up (B1.down.trans (hb2.mono (by have := B1.down.size; omega)))
  have HB := PLift.up (HB0.down.trans (B2.down.mono (by omega)))
  have hz2 : w.heap.size ≤ w2.heap.size := HB.down.size
  clear hb2
  obtain ⟨a0, a1, b0, b1⟩ := VK.down _ B2.down
  go_wp2_with fail
  refine (H3.down _).mono ?_
  rintro e w3 ⟨rfl, rfl⟩
  cases hna : nearB a
  · go_wp2_with fail
    go_returns
    exact ⟨rfl, HB.down.alloc hz2 _⟩
  · have hnb : nearB b = false := by simpa [hna] using h'
    obtain ⟨a0, a1, b0, b1⟩ := VK.down _ (B2.down.alloc (by have := B2.down.size; omega) (Obj.cells #[.int .i64 a.x, .int .i64 a.y] 78))
    go_wp2_with fail
    refine (H4.down _).mono ?_
    rintro e w4 ⟨rfl, rfl⟩
    rw [hnb]
    go_wp2_with fail
    go_returns
    exact ⟨rfl, (HB.down.alloc hz2 _).alloc (by simp; omega) _⟩
set_option maxRecDepth 20000 in
set_option maxHeartbeats 1000000 in
theorem walk_yes (a b : Cel) (w : World) (ha : nearB a = true) (hb : nearB b = true) :
    Calls Try.prog 10 #[a.val, b.val] w fun e w' => e = .returned (.bool true) ∧ Below w.heap.size w w' := by
  obtain ⟨X, hX⟩ : ∃ X, X = (b.x - a.x).natAbs := ⟨_, rfl⟩
  obtain ⟨Y, hY⟩ : ∃ Y, Y = (b.y - a.y).natAbs := ⟨_, rfl⟩
  have hx := nearB_true ha
  have hy := nearB_true hb
  have H1 := PLift.up (apart_any a b _ _ X Y ha hb ⟨rfl, hX.symm, rfl, hY.symm⟩)
  obtain ⟨L, hL⟩ : ∃ L : List Cel, L = lpts a (b.x - a.x).sign (b.y - a.y).sign X Y (max X Y) := ⟨_, rfl⟩
  have hLl : L.length ≤ 9223372036854775807 := by rw [hL, lpts_len]; omega
  have H2 : PLift (∀ w, Calls Try.prog 56 #[a.val, b.val] w fun e w' => (∃ v n, e = .returned (.tuple #[v, .int .i64 0]) ∧ w'.ownsRow w.heap.size 78 2 v n (L.flatMap Cel.enc)) ∧ Below w.heap.size w w') := PLift.up (fun w => by
    rw [hL]
    by_cases h : Y ≤ X
    · rw [show max X Y = X from by omega]; exact cellsX_any a b _ _ X Y ha hb ⟨rfl, hX.symm, rfl, hY.symm⟩ h w
    · rw [show max X Y = Y from by omega]; exact cellsY_any a b _ _ X Y ha hb ⟨rfl, hX.symm, rfl, hY.symm⟩ (by omega) w)
  have H3 := PLift.up (cellNear_any a)
  have H4 := PLift.up (cellNear_any b)
  have H7 : PLift (max X Y ≤ 120 → ∀ w, _) := PLift.up (fun hm => lineOf_any a b _ _ X Y ha hb ⟨rfl, hX.symm, rfl, hY.symm⟩ hm)
  have H5 : PLift (∀ w, Calls Try.prog 58 #[.int .i64 a.x, .int .i64 b.x] w fun e w' => e = .returned (.int .i64 X) ∧ w = w') := PLift.up (fun w => by
    refine (far_any a.x b.x (by omega) (by omega) w).mono ?_
    rintro e w' ⟨rfl, rfl⟩
    exact ⟨by rw [show (a.x - b.x).natAbs = X from by omega], rfl⟩)
  have H6 : PLift (∀ w, Calls Try.prog 58 #[.int .i64 a.y, .int .i64 b.y] w fun e w' => e = .returned (.int .i64 Y) ∧ w = w') := PLift.up (fun w => by
    refine (far_any a.y b.y (by omega) (by omega) w).mono ?_
    rintro e w' ⟨rfl, rfl⟩
    exact ⟨by rw [show (a.y - b.y).natAbs = Y from by omega], rfl⟩)
  rw [← hL] at H7
  rw [ha] at H3; rw [hb] at H4
  simp only [Cel.val] at *
  have hX2 : X ≤ 2000 := by omega
  have hY2 : Y ≤ 2000 := by omega
  clear ha hb hX hY hL hx hy
  go_enter Try.func10, Try.ntmps10
  go_wp2_with fail
  obtain ⟨w0, hw0⟩ : ∃ w0 : World, w0 = (w.alloc (Obj.cells #[.int .i64 a.x, .int .i64 a.y] 78)).alloc (Obj.cells #[.int .i64 b.x, .int .i64 b.y] 78) := ⟨_, rfl⟩
  rw [← hw0]
  have VK : PLift (∀ w', Below (w.heap.size + 2) w0 w' → w'.cell? ⟨w.heap.size, 0, none⟩ = some (.int .i64 a.x) ∧ w'.cell? ⟨w.heap.size, 1, none⟩ = some (.int .i64 a.y) ∧ w'.cell? ⟨w.heap.size + 1, 0, none⟩ = some (.int .i64 b.x) ∧ w'.cell? ⟨w.heap.size + 1, 1, none⟩ = some (.int .i64 b.y)) := PLift.up (fun w' hb => by
    refine ⟨?_, ?_, ?_, ?_⟩ <;> (rw [hb.cell (by simp), hw0]; simp [go_sem]))
  have hs0 : w0.heap.size = w.heap.size + 2 := by rw [hw0]; simp [go_sem]
  have HB0 : PLift (Below w.heap.size w w0) := PLift.up (by rw [hw0]; exact (below_lit _ _).alloc (by simp) _)
  clear hw0
  obtain ⟨a0, a1, b0, b1⟩ := VK.down _ (Below.refl _ _)
  go_wp2_with fail
  refine (H1.down _).mono ?_
  rintro e w1 ⟨rfl, hb1⟩
  have B1 : PLift (Below (w.heap.size + 2) w0 w1) := PLift.up (hb1.mono (by omega))
  clear hb1
  obtain ⟨a0, a1, b0, b1⟩ := VK.down _ B1.down
  go_wp2_with fail
  refine (H2.down _).mono ?_
  rintro e w2 ⟨⟨v, n, rfl, hown⟩, hb2⟩
  obtain ⟨av, cv, rfl, rfl, hE, _, _⟩ := Els.ofOwn hown (fun _ _ => rfl) (by decide)
  have E2 := PLift.up hE
  have B2 : PLift (Below (w.heap.size + 2) w0 w2) := PLift.up (B1.down.trans (hb2.mono (by have := B1.down.size; omega)))
  clear hb2 hE hown
  obtain ⟨a0, a1, b0, b1⟩ := VK.down _ B2.down
  go_wp2_with fail
  refine (H3.down _).mono ?_
  rintro e w3 ⟨rfl, rfl⟩
  obtain ⟨w3, hw3⟩ : ∃ w3 : World, w3 = w2.alloc (Obj.cells #[.int .i64 a.x, .int .i64 a.y] 78) := ⟨_, rfl⟩
  rw [← hw3]
  have B3 : PLift (Below (w.heap.size + 2) w0 w3) := PLift.up (by rw [hw3]; exact B2.down.alloc (by have := B2.down.size; omega) _)
  replace E2 := PLift.up (show Els w3 w3.heap.size av 2 Cel.enc L from by rw [hw3]; exact (E2.down.below (below_lit _ _) (Nat.le_refl _)).mono (by simp))
  clear hw3
  obtain ⟨a0, a1, b0, b1⟩ := VK.down _ B3.down
  go_wp2_with fail
  refine (H4.down _).mono ?_
  rintro e w4 ⟨rfl, rfl⟩
  obtain ⟨w4, hw4⟩ : ∃ w4 : World, w4 = w3.alloc (Obj.cells #[.int .i64 b.x, .int .i64 b.y] 78) := ⟨_, rfl⟩
  rw [← hw4]
  have B4 : PLift (Below (w.heap.size + 2) w0 w4) := PLift.up (by rw [hw4]; exact B3.down.alloc (by have := B3.down.size; omega) _)
  replace E2 := PLift.up (show Els w4 w4.heap.size av 2 Cel.enc L from by rw [hw4]; exact (E2.down.below (below_lit _ _) (Nat.le_refl _)).mono (by simp))
  clear hw4
  obtain ⟨a0, a1, b0, b1⟩ := VK.down _ B4.down
  go_wp2_with fail
  go_region_held3 (fun w' => w'.cell? ⟨w.heap.size, 0, none⟩ = some (.int .i64 a.x) ∧ w'.cell? ⟨w.heap.size, 1, none⟩ = some (.int .i64 a.y) ∧ w'.cell? ⟨w.heap.size + 1, 0, none⟩ = some (.int .i64 b.x) ∧ w'.cell? ⟨w.heap.size + 1, 1, none⟩ = some (.int .i64 b.y)) (go_keep)
    (first | (go_at_call_of 58 (Value.int .i64 a.x); refine (H5.down _).mono ?_; rintro e w' ⟨rfl, rfl⟩) | (go_at_call_of 58 (Value.int .i64 a.y); refine (H6.down _).mono ?_; rintro e w' ⟨rfl, rfl⟩))
  obtain ⟨w5, hw5⟩ : ∃ w5 : World, w5 = w4.drew := ⟨_, rfl⟩
  rw [← hw5]
  have B5 : PLift (Below (w.heap.size + 2) w0 w5) := PLift.up (by rw [hw5]; exact B4.down.drew)
  replace E2 := PLift.up (show Els w5 w5.heap.size av 2 Cel.enc L from by rw [hw5]; exact E2.down.below (Below.refl _ _).drew (Nat.le_refl _))
  clear hw5
  obtain ⟨a0, a1, b0, b1⟩ := VK.down _ B5.down
  have hq1 : (((max X Y : Nat) : Int) != (if (X : Int) < (Y : Int) then (Y : Int) else (X : Int))) = false := by rw [bne_eq_false_iff_eq]; split <;> omega
  have hq2 : (((X + Y : Nat) : Int) != (X : Int) + (Y : Int)) = false := by rw [bne_eq_false_iff_eq]; omega
  by_cases hm : max X Y ≤ 120
  · have H8 := PLift.up (H7.down hm)
    have hgt : ¬ 120 < max X Y := by omega
    clear H7 hm
    go_wp2_with fail
    all_goals
      refine (H8.down _).mono ?_
      rintro e w6 ⟨⟨v6, n6, rfl, hown6⟩, hb6⟩
      obtain ⟨av6, cv6, rfl, rfl, hE6, _, _⟩ := Els.ofOwn hown6 (fun _ _ => rfl) (by decide)
      have E6 := PLift.up hE6
      have B6 : PLift (Below (w.heap.size + 2) w0 w6) := PLift.up (B5.down.trans (hb6.mono (by have := B5.down.size; omega)))
      replace E2 := PLift.up ((E2.down.below hb6 (Nat.le_refl _)).mono hb6.size)
      clear hb6 hE6 hown6
      go_wp2_with fail
      refine (equal_cel av av6 cv cv6 w6.heap.size L L w6 E2.down E6.down (Nat.le_refl _) hLl hLl).mono ?_
      rintro e w7 ⟨rfl, hb7⟩
      have B7 : PLift (Below (w.heap.size + 2) w0 w7) := PLift.up (B6.down.trans (hb7.mono (by have := B6.down.size; omega)))
      clear hb7
      go_wp2_with fail
      go_returns
      exact ⟨by simp, HB0.down.trans (B7.down.mono (by omega))⟩
  · have hgt : 120 < max X Y := by omega
    clear H7 hm
    go_wp2_with fail
    all_goals (go_returns; exact ⟨by simp, HB0.down.trans (B5.down.mono (by omega))⟩)
theorem walk (x : Cel) (y : Cel) (w : World) (h0 : I64 x.x ∧ I64 x.y) (h1 : I64 y.x ∧ I64 y.y) :
    Calls Try.prog 10 #[.agg (Cel.enc x).toArray, .agg (Cel.enc y).toArray] w fun e w' => e = .returned (.bool true) ∧ Below w.heap.size w w' := by
  cases ha : nearB x
  · exact walk_no x y w h0 h1 (.inl ha)
  · cases hb : nearB y
    · exact walk_no x y w h0 h1 (.inr hb)
    · exact walk_yes x y w ha hb
theorem own : ownKnob Try.prog.godebug = none := by kernel_rfl
theorem laidOut : laidOutB Try.prog = true := by kernel_rfl
set_option maxRecDepth 100000 in
theorem lifted (os : Os) (started : os.Started) (H : Type) (enc : TypeId × Value → H) :
    ReturnsInHanded {} Try.checked os 10 .any (Rows.lineSaysSpec.pre6 enc Try.prog Try.f10 Rows.lineSaysRow.domain false) (Rows.lineSaysSpec.post enc Try.prog Try.f10 false true false false) := by
  refine returnsInHanded_of_change_sized (C := Try.checked) own started (by kernel_rfl) Try.func10
    (ChangeSpec.witness6 (enc := enc) (C := Try.checked) false ⟨#[], #[.agg #[.int .i64 0, .int .i64 0], .agg #[.int .i64 0, .int .i64 0]], []⟩ 8 (by kernel_rfl) (by kernel_rfl) (by kernel_rfl) (by kernel_rfl)) ?_
  intro W base args ds gs before hval0 hW hcnd hsz0 _
  have hval : ∀ (j : Nat) t v, Try.f10.params[j]? = some t → args[j]? = some v → Value.okWide Try.prog W .any base t v := hval0
  have hW' := hW
  obtain ⟨p, q, hA0, hV, rfl, hfz, hnd⟩ := hW
  have hA : DataW.TrodAll enc Try.prog W 0 (fun _ => true) true Try.f10.params.toList args.toList ds p := hA0
  rw [Try.params10] at hA hval hsz0
  obtain ⟨v0, vs0, d0, ds0, p0, q0, hargs, rfl, rfl, h0, r0⟩ := trodAll_cons hA
  obtain ⟨v1, vs1, d1, ds1, p1, q1, rfl, rfl, rfl, h1, r1⟩ := trodAll_cons r0
  obtain ⟨rfl, rfl, rfl⟩ := trodAll_nil r1
  obtain rfl : args = #[v0, v1] := by cases args; simp_all
  obtain ⟨rfl, rfl⟩ := trodVars_none hV
  have lt0 : ∀ x ∈ p0, x.block < W.heap.size := by obtain ⟨m, hm⟩ := h0; exact DataW.trod_lt m _ _ _ hm
  obtain ⟨x0, c0, ok0⟩ := Opens.arg (opCell W) h0 hsz0 0 rfl rfl
  obtain rfl := arg_struct (hval 0 78 v0 rfl rfl) Try.underlying78 c0
  have lt1 : ∀ x ∈ p1, x.block < W.heap.size := by obtain ⟨m, hm⟩ := h1; exact DataW.trod_lt m _ _ _ hm
  obtain ⟨x1, c1, ok1⟩ := Opens.arg (opCell W) h1 hsz0 1 rfl rfl
  obtain rfl := arg_struct (hval 1 78 v1 rfl rfl) Try.underlying78 c1
  clear hA0 hval0
  refine (walk x0 x1 W ok0 ok1).mono fun e W' ⟨he, bel⟩ => ?_
  subst he
  exact ⟨_, rfl, _, _, _, [], _, [], hW', trodAll_mk1 (shut_bool Try.underlying4 _), (trodAll_cons_mk (Below.trod laidOut (by kernel_rfl) (of_decide_eq_true (by kernel_rfl)) h0 bel lt0) (trodAll_cons_mk (Below.trod laidOut (by kernel_rfl) (of_decide_eq_true (by kernel_rfl)) h1 bel lt1) trodAll_mk0)), rfl, bel.frame _, fun h => by cases h⟩
theorem over : Rows.lineSaysRow.holds Try.pinned (OpenSpec.ofChange Rows.lineSaysSpec) :=
  OpenClaim.holds_of_wide 10 Try.f10 rfl rfl rfl rfl rfl rfl rfl ⟨rfl, rfl, rfl, rfl, rfl⟩ rfl rfl rfl rfl rfl (by kernel_rfl) Try.func10 (by kernel_rfl)
    (of_decide_eq_true (by kernel_rfl)) (by unfold Func.isWrapper; first | (rw [if_pos (by decide +kernel)]; kernel_rfl) | (rw [if_neg (by decide +kernel)]; exact ⟨rfl, rfl⟩))
    (fun os started H enc _ => lifted os started H enc)
theorem proved : Rows.LineSaysSaid := over
#print axioms proved
end lineSays
end Go.Proofs.Ytemogefcbemjfaa
