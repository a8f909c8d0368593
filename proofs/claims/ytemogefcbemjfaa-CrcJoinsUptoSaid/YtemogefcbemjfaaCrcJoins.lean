/- CrcJoins, in its second form: where what it reads is of bulk at most 1048576, Join answers what the reference says. (Without a bound it is false: a second text of 2^31 bytes.) -/
import Derived.Test.YtemogefcbemjfaaCrcJ
import Derived.Test.YtemogefcbemjfaaBetw
import Derived.Test.YtemogefcbemjfaaUpto
import Derived.Test.YtemogefcbemjfaaChecked
namespace Go.Proofs.Ytemogefcbemjfaa
open Go.RowKit Go.ChangeShapes Go.WideShapes Go.ChangeAt
set_option linter.unusedVariables false
namespace crcJoins
def joinR (a b : Nat) (n : Int) : Nat × Int := if 0 ≤ n ∧ n ≤ 2147483647 then (csk (8 * n.toNat) a ^^^ b, 0) else (0, 1)
set_option maxRecDepth 20000 in
set_option maxHeartbeats 1000000 in
theorem joinE_any (a b : Nat) (n : Int) (w : World) (ha : a < 4294967296) (hb : b < 4294967296) :
    Calls Try.prog 28 #[.int .u32 a, .int .u32 b, .int .i64 n] w fun e w' => e = .returned (.tuple #[.int .u32 ((joinR a b n).1 : Nat), .int .i64 (joinR a b n).2]) ∧ Below w.heap.size w w' := by
  by_cases h : 0 ≤ n ∧ n ≤ 2147483647
  · rw [joinR, if_pos h]
    obtain ⟨m, rfl⟩ : ∃ m : Nat, n = m := ⟨n.toNat, by omega⟩
    rw [Int.toNat_natCast]
    exact join_any a b m w ha hb (by omega)
  · rw [joinR, if_neg h]
    by_cases h0 : n < 0
    · go_enter Try.func28, Try.ntmps28
      go_wp2_with fail
      go_returns
      exact ⟨rfl, Below.refl _ _⟩
    · have h1 : 2147483647 < n := by omega
      go_enter Try.func28, Try.ntmps28
      go_wp2_with fail
      go_returns
      exact ⟨rfl, Below.refl _ _⟩
set_option maxRecDepth 20000 in
set_option maxHeartbeats 2000000 in
theorem walk (a b : ByteArray) (n : Int) (w : World) (h0 : a.size ≤ 140737488351232) (h1 : b.size ≤ 140737488351232) (hn : -9223372036854775808 ≤ n ∧ n ≤ 9223372036854775807) (ha : a.size ≤ 1048576) (hb : b.size ≤ 1048576) :
    Calls Try.prog 6 #[.string a, .string b, .int .i64 n] w fun e w' => e = .returned (.bool true) ∧ Below w.heap.size w w' := by
  have hA := crcM_lt 0 a.data.toList
  have hB := crcM_lt 0 b.data.toList
  have P1 := PLift.up (fun w => crcMore_any 0 a w (by decide) h0)
  have P2 := PLift.up (fun w => crcMore_any 0 b w (by decide) h1)
  have P3 := PLift.up (fun w => joinE_any (crcM 0 a.data.toList) (crcM 0 b.data.toList) b.size w hA hB)
  have P4 := PLift.up (fun w => joinE_any 1 2 n w (by decide) (by decide))
  have P5 := PLift.up (fun w => crcMore_any 0 (a ++ b) w (by decide) (by rw [ByteArray.size_append]; omega))
  have hj : joinR (crcM 0 a.data.toList) (crcM 0 b.data.toList) b.size = (crcM 0 (a ++ b).data.toList, 0) := by
    rw [joinR, if_pos (by omega), Int.toNat_natCast, ByteArray.data_append, Array.toList_append, crc_join]
    rw [show b.data.toList.length = b.size from Array.length_toList]
  rw [hj] at P3
  have P6 := PLift.up (fun w => between_z n 0 2147483647 w)
  have hj2 : (joinR 1 2 n).2 = 0 ∧ (decide (0 ≤ n) && decide (n ≤ 2147483647)) = true ∨ (joinR 1 2 n) = (0, 1) ∧ (decide (0 ≤ n) && decide (n ≤ 2147483647)) = false := by
    unfold joinR
    by_cases h : 0 ≤ n ∧ n ≤ 2147483647
    · rw [if_pos h]; exact .inl ⟨rfl, by simp [h]⟩
    · rw [if_neg h]; refine .inr ⟨rfl, ?_⟩
      rw [Bool.and_eq_false_iff]
      by_cases h0 : 0 ≤ n
      · exact .inr (by simp; omega)
      · exact .inl (by simp; omega)
  generalize (decide (0 ≤ n) && decide (n ≤ 2147483647)) = q at *
  generalize joinR 1 2 n = J at *
  obtain ⟨y, f⟩ := J
  generalize crcM 0 (a ++ b).data.toList = R at *
  generalize crcM 0 a.data.toList = A at *
  generalize crcM 0 b.data.toList = B at *
  simp only at P3 P4 hj2
  have HJ := PLift.up hj2
  clear hj hj2 hA hB h0 h1 hn
  go_enter Try.func6, Try.ntmps6
  go_wp2_with fail
  refine (P1.down _).mono ?_
  rintro e w1 ⟨rfl, hb1⟩
  have B1 := PLift.up hb1
  clear hb1
  go_wp2_with fail
  refine (P2.down _).mono ?_
  rintro e w2 ⟨rfl, hb2⟩
  have B2 := PLift.up (B1.down.trans (hb2.mono B1.down.size))
  clear hb2
  go_wp2_with fail
  refine (P3.down _).mono ?_
  rintro e w3 ⟨rfl, hb3⟩
  have B3 := PLift.up (B2.down.trans (hb3.mono B2.down.size))
  clear hb3
  go_wp2_with fail
  refine (P4.down _).mono ?_
  rintro e w4 ⟨rfl, hb4⟩
  have B4 := PLift.up (B3.down.trans (hb4.mono B3.down.size))
  clear hb4
  go_wp2_with fail
  refine (P5.down _).mono ?_
  rintro e w5 ⟨rfl, hb5⟩
  have B5 := PLift.up (B4.down.trans (hb5.mono B4.down.size))
  clear hb5
  go_wp2_with fail
  refine (P6.down _).mono ?_
  rintro e w6 ⟨rfl, rfl⟩
  rcases HJ.down with ⟨rfl, rfl⟩ | ⟨hyf, rfl⟩
  · go_wp2_with fail
    go_returns
    exact ⟨by simp, B5.down⟩
  · simp only [Prod.mk.injEq] at hyf
    obtain ⟨rfl, rfl⟩ := hyf
    go_wp2_with fail
    go_returns
    exact ⟨by simp, B5.down⟩
theorem own : ownKnob Try.prog.godebug = none := by kernel_rfl
theorem laidOut : laidOutB Try.prog = true := by kernel_rfl
set_option maxRecDepth 100000 in
theorem lifted (os : Os) (started : os.Started) (H : Type) (enc : TypeId × Value → H) (F : Stop.Interp) :
    ReturnsInHanded {} Try.checked os 6 .any ((Rows.OpenSpec.upto Rows.crcJoinsSpec).pre6 enc Try.prog Try.f6 Rows.crcJoinsUptoRow.domain false) (((Rows.OpenSpec.upto Rows.crcJoinsSpec).at F).post enc Try.prog Try.f6 false true false false) := by
  refine returnsInHanded_of_cond_sized (C := Try.checked) (s := Rows.OpenSpec.upto Rows.crcJoinsSpec) (k := Rows.uptoSmall) rfl own started (by kernel_rfl) Try.func6
    (OpenSpec.witness (enc := enc) (C := Try.checked) (s := Rows.OpenSpec.upto Rows.crcJoinsSpec) (k := Rows.uptoSmall) rfl false ⟨#[], #[.string ByteArray.empty, .string ByteArray.empty, .int .i64 0], []⟩ 8 (by kernel_rfl) (by kernel_rfl) (by kernel_rfl) (x := ([.lit (.string []), .lit (.string []), .lit (.int .i64 0)], [], [])) (by kernel_rfl) rfl (by kernel_rfl)) ?_
  intro W base args ds gs before hval0 hW hcnd hk hsz0 _
  have hval : ∀ (j : Nat) t v, Try.f6.params[j]? = some t → args[j]? = some v → Value.okWide Try.prog W .any base t v := hval0
  have hW' := hW
  obtain ⟨p, q, hA0, hV, rfl, hfz, hnd⟩ := hW
  have hA : DataW.TrodAll enc Try.prog W 0 (fun _ => true) true Try.f6.params.toList args.toList ds p := hA0
  rw [Try.params6] at hA hval hsz0
  obtain ⟨v0, vs0, d0, ds0, p0, q0, hargs, rfl, rfl, h0, r0⟩ := trodAll_cons hA
  obtain ⟨v1, vs1, d1, ds1, p1, q1, rfl, rfl, rfl, h1, r1⟩ := trodAll_cons r0
  obtain ⟨v2, vs2, d2, ds2, p2, q2, rfl, rfl, rfl, h2, r2⟩ := trodAll_cons r1
  obtain ⟨rfl, rfl, rfl⟩ := trodAll_nil r2
  obtain rfl : args = #[v0, v1, v2] := by cases args; simp_all
  obtain ⟨rfl, rfl⟩ := trodVars_none hV
  have lt0 : ∀ x ∈ p0, x.block < W.heap.size := by obtain ⟨m, hm⟩ := h0; exact DataW.trod_lt m _ _ _ hm
  obtain ⟨x0, c0, ok0⟩ := Opens.arg (Opens.str Try.underlying9) h0 hsz0 0 rfl rfl
  obtain rfl := arg_str Try.underlying9 (hval 0 9 v0 rfl rfl) c0
  have lt1 : ∀ x ∈ p1, x.block < W.heap.size := by obtain ⟨m, hm⟩ := h1; exact DataW.trod_lt m _ _ _ hm
  obtain ⟨x1, c1, ok1⟩ := Opens.arg (Opens.str Try.underlying9) h1 hsz0 1 rfl rfl
  obtain rfl := arg_str Try.underlying9 (hval 1 9 v1 rfl rfl) c1
  have lt2 : ∀ x ∈ p2, x.block < W.heap.size := by obtain ⟨m, hm⟩ := h2; exact DataW.trod_lt m _ _ _ hm
  obtain ⟨x2, c2, ok2⟩ := Opens.arg (Opens.i64 Try.underlying3) h2 hsz0 2 rfl rfl
  obtain rfl := arg_int Try.underlying3 (hval 2 3 v2 rfl rfl) c2
  clear hA0 hval0
  have sb0 : x0.size ≤ 1048576 := str_small h0 Try.underlying9 hk (by simp)
  have sb1 : x1.size ≤ 1048576 := str_small h1 Try.underlying9 hk (by simp)
  refine (walk x0 x1 x2 W ok0 ok1 ok2 sb0 sb1).mono fun e W' ⟨he, bel⟩ => ?_
  subst he
  exact ⟨_, rfl, _, _, _, [], _, [], hW', trodAll_mk1 (shut_bool Try.underlying4 _), (trodAll_cons_mk (Below.trod laidOut (by kernel_rfl) (of_decide_eq_true (by kernel_rfl)) h0 bel lt0) (trodAll_cons_mk (Below.trod laidOut (by kernel_rfl) (of_decide_eq_true (by kernel_rfl)) h1 bel lt1) (trodAll_cons_mk (Below.trod laidOut (by kernel_rfl) (of_decide_eq_true (by kernel_rfl)) h2 bel lt2) trodAll_mk0))), rfl, bel.frame _, fun h => by cases h⟩
theorem over : Rows.crcJoinsUptoRow.holds Try.pinned (Rows.OpenSpec.upto Rows.crcJoinsSpec) :=
  OpenClaim.holds_of_cond 6 Try.f6 rfl rfl rfl rfl rfl rfl rfl ⟨rfl, rfl, rfl, rfl, rfl⟩ rfl rfl rfl rfl rfl (by kernel_rfl) Try.func6 (by kernel_rfl)
    (of_decide_eq_true (by kernel_rfl)) (by unfold Func.isWrapper; first | (rw [if_pos (by decide +kernel)]; kernel_rfl) | (rw [if_neg (by decide +kernel)]; exact ⟨rfl, rfl⟩))
    (fun os started H enc _ F => lifted os started H enc F)
theorem proved : Rows.CrcJoinsUptoSaid := over
#print axioms proved
end crcJoins
end Go.Proofs.Ytemogefcbemjfaa
