/-
  THE LAW CrcSays: whatever is handed in, Of, More, Seal and Open answer what the reference says. No condition.
-/
import Derived.Test.YtemogefcbemjfaaRows
import Derived.Test.YtemogefcbemjfaaCrcO
import Derived.Test.YtemogefcbemjfaaOpen
namespace Go.Proofs.Ytemogefcbemjfaa.crcSays
open Go.ChangeShapes Go.WideShapes Go.ChangeAt Go.RowKit
set_option linter.unusedVariables false

set_option maxHeartbeats 1000000 in
theorem walk (n : Nat) (s : ByteArray) (w : World) (hn : n < 4294967296) (hs : s.size ≤ 140737488351232) :
    Calls Try.prog 5 #[.int .u32 n, .string s] w fun e w' => e = .returned (.bool true) ∧ Below w.heap.size w w' := by
  have h1 := fun w => open_any s w hs
  have h2 := fun w => opened_any s w hs
  have h3 := fun w => of_crc s w hs
  have h4 := fun n w hn => crcMore_any n s w hn hs
  have h5 := fun w => more_any n s w hn hs
  have h6 := fun w => seal_any s w hs
  have h7 := fun w => sealed_any s w hs
  have h40 := fun w => h4 0 w (by decide)
  have h41 := fun w => h4 n w hn
  generalize (openR s).1 = r at *
  generalize (openR s).2 = f at *
  generalize crcM 0 s.data.toList = c0 at *
  generalize crcM n s.data.toList = c1 at *
  generalize sealS s = ss at *
  have H1 := Lib.hid h1
  have H2 := Lib.hid h2
  have H3 := Lib.hid h3
  have H40 := Lib.hid h40
  have H41 := Lib.hid h41
  have H5 := Lib.hid h5
  have H6 := Lib.hid h6
  have H7 := Lib.hid h7
  clear h1 h2 h3 h4 h40 h41 h5 h6 h7 hn hs
  go_enter Try.func5, Try.ntmps5
  go_wp2_with fail
  refine (H1.out _).mono ?_
  rintro e w1 ⟨rfl, hb1⟩
  have HB1 := Lib.hid hb1; clear hb1
  go_wp2_with fail
  refine (H2.out _).mono ?_
  rintro e w2 ⟨rfl, hb2⟩
  have HB2 : Hid (Below w.heap.size w w2) := HB1.out.trans (hb2.mono HB1.out.size); clear hb2
  go_wp2_with fail
  refine (H3.out _).mono ?_
  rintro e w3 ⟨rfl, rfl⟩
  go_wp2_with fail
  refine (H40.out _).mono ?_
  rintro e w3 ⟨rfl, hb3⟩
  have HB3 : Hid (Below w.heap.size w w3) := HB2.out.trans (hb3.mono HB2.out.size); clear hb3
  go_wp2_with fail
  refine (H5.out _).mono ?_
  rintro e w4 ⟨rfl, rfl⟩
  go_wp2_with fail
  refine (H41.out _).mono ?_
  rintro e w4 ⟨rfl, hb4⟩
  have HB4 : Hid (Below w.heap.size w w4) := HB3.out.trans (hb4.mono HB3.out.size); clear hb4
  go_wp2_with fail
  refine (H6.out _).mono ?_
  rintro e w5 ⟨rfl, hb5⟩
  have HB5 : Hid (Below w.heap.size w w5) := HB4.out.trans (hb5.mono HB4.out.size); clear hb5
  go_wp2_with fail
  refine (H7.out _).mono ?_
  rintro e w6 ⟨rfl, hb6⟩
  have HB6 : Hid (Below w.heap.size w w6) := HB5.out.trans (hb6.mono HB5.out.size); clear hb6
  go_wp2_with fail
  go_ret
  exact ⟨rfl, HB6.out⟩
theorem own : ownKnob Try.prog.godebug = none := by kernel_rfl
theorem laidOut : laidOutB Try.prog = true := by kernel_rfl
set_option maxRecDepth 100000 in
theorem lifted (os : Os) (started : os.Started) (H : Type) (enc : TypeId × Value → H) :
    ReturnsInHanded {} Try.checked os 5 .any (Rows.crcSaysSpec.pre6 enc Try.prog Try.f5 Rows.crcSaysRow.domain false) (Rows.crcSaysSpec.post enc Try.prog Try.f5 false true false false) := by
  refine returnsInHanded_of_change_sized (C := Try.checked) own started (by kernel_rfl) Try.func5
    (ChangeSpec.witness6 (enc := enc) (C := Try.checked) false ⟨#[], #[.int .u32 0, .string ByteArray.empty], []⟩ 8 (by kernel_rfl) (by kernel_rfl) (by kernel_rfl) (by kernel_rfl)) ?_
  intro W base args ds gs before hval0 hW hcnd hsz0 _
  have hval : ∀ (j : Nat) t v, Try.f5.params[j]? = some t → args[j]? = some v → Value.okWide Try.prog W .any base t v := hval0
  have hW' := hW
  obtain ⟨p, q, hA0, hV, rfl, hfz, hnd⟩ := hW
  have hA : DataW.TrodAll enc Try.prog W 0 (fun _ => true) true Try.f5.params.toList args.toList ds p := hA0
  rw [Try.params5] at hA hval hsz0
  obtain ⟨v0, vs0, d0, ds0, p0, q0, hargs, rfl, rfl, h0, r0⟩ := trodAll_cons hA
  obtain ⟨v1, vs1, d1, ds1, p1, q1, rfl, rfl, rfl, h1, r1⟩ := trodAll_cons r0
  obtain ⟨rfl, rfl, rfl⟩ := trodAll_nil r1
  obtain rfl : args = #[v0, v1] := by cases args; simp_all
  obtain ⟨rfl, rfl⟩ := trodVars_none hV
  have lt0 : ∀ x ∈ p0, x.block < W.heap.size := by obtain ⟨m, hm⟩ := h0; exact DataW.trod_lt m _ _ _ hm
  obtain ⟨x0, c0, ok0⟩ := Opens.arg (Opens.u32 Try.underlying36) h0 hsz0 0 rfl rfl
  obtain rfl := arg_int Try.underlying36 (hval 0 36 v0 rfl rfl) c0
  have lt1 : ∀ x ∈ p1, x.block < W.heap.size := by obtain ⟨m, hm⟩ := h1; exact DataW.trod_lt m _ _ _ hm
  obtain ⟨x1, c1, ok1⟩ := Opens.arg (Opens.str Try.underlying9) h1 hsz0 1 rfl rfl
  obtain rfl := arg_str Try.underlying9 (hval 1 9 v1 rfl rfl) c1
  clear hA0 hval0
  refine (walk x0 x1 W ok0 ok1).mono fun e W' ⟨he, bel⟩ => ?_
  subst he
  exact ⟨_, rfl, _, _, _, [], _, [], hW', trodAll_mk1 (shut_bool Try.underlying4 _), (trodAll_cons_mk (Below.trod laidOut (by kernel_rfl) (of_decide_eq_true (by kernel_rfl)) h0 bel lt0) (trodAll_cons_mk (Below.trod laidOut (by kernel_rfl) (of_decide_eq_true (by kernel_rfl)) h1 bel lt1) trodAll_mk0)), rfl, bel.frame _, fun h => by cases h⟩
theorem over : Rows.crcSaysRow.holds Try.pinned (OpenSpec.ofChange Rows.crcSaysSpec) :=
  OpenClaim.holds_of_wide 5 Try.f5 rfl rfl rfl rfl rfl rfl rfl ⟨rfl, rfl, rfl, rfl, rfl⟩ rfl rfl rfl rfl rfl (by kernel_rfl) Try.func5 (by kernel_rfl)
    (of_decide_eq_true (by kernel_rfl)) (by unfold Func.isWrapper; first | (rw [if_pos (by decide +kernel)]; kernel_rfl) | (rw [if_neg (by decide +kernel)]; exact ⟨rfl, rfl⟩))
    (fun os started H enc _ => lifted os started H enc)
theorem proved : Rows.CrcSaysSaid := over
#print axioms proved
end Go.Proofs.Ytemogefcbemjfaa.crcSays
