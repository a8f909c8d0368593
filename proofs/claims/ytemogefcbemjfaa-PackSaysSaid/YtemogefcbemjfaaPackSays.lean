/- PackSays: whatever is handed in, all calls of package pack answer what the reference says. No condition. -/
import Derived.Test.YtemogefcbemjfaaPackA
import Derived.Test.YtemogefcbemjfaaPackB
import Derived.Test.YtemogefcbemjfaaEqI
import Derived.Test.YtemogefcbemjfaaOpen
import Derived.Test.YtemogefcbemjfaaRows
import Derived.Test.YtemogefcbemjfaaChecked
namespace Go.Proofs.Ytemogefcbemjfaa
open Go.RowKit Go.ChangeShapes Go.WideShapes Go.ChangeAt
set_option linter.unusedVariables false
namespace packSays
set_option maxRecDepth 100000 in
theorem opInts (w : World) : Opens Try.prog 24 1 w SL.enc (SLok w w.heap.size 1 8 ei64 I64') := Opens.slice Try.underlying24 (by kernel_rfl) (by decide) (by kernel_rfl) (Opens.i64 Try.underlying3)
theorem gaF_len : ∀ (n : Nat) (s : ByteArray) (out : List Int), (gaF n s out).1.length ≤ out.length + n
  | 0, s, out => by unfold gaF; split <;> simp
  | n + 1, s, out => by
    unfold gaF
    split
    · have := gaF_len n (getR s).2.1 (out ++ [unfN (getR s).1]); simp only [List.length_append, List.length_singleton] at this; omega
    · simp
theorem gaR_len (s : ByteArray) : (gaR s).1.length ≤ 1000 := by
  unfold gaR
  split
  · split
    · have := gaF_len (getR s).1 (getR s).2.1 []; simp only [List.length_nil] at this; omega
    · simp
  · simp
set_option maxRecDepth 20000 in
set_option maxHeartbeats 2000000 in
theorem walk (n : Nat) (k : Int) (s : ByteArray) (l : SL Int) (w : World) (hn : n < 18446744073709551616) (hk : -9223372036854775808 ≤ k ∧ k ≤ 9223372036854775807) (hs : s.size ≤ 140737488351232) (hl : SLok w w.heap.size 1 8 ei64 I64' l) :
    Calls Try.prog 11 #[.int .u64 n, .int .i64 k, .string s, l.val] w fun e w' => e = .returned (.bool true) ∧ Below w.heap.size w w' := by
  have hlen : l.xs.length ≤ 140737488351232 := by have h1 := hl.cap; have h2 := hl.reach; omega
  have P1 := PLift.up (fun w => get_any s w hs)
  have P2 := PLift.up (fun w => unpacked_any s w hs)
  have P3 : PLift (∀ w', Below w.heap.size w w' → _) := PLift.up (fun w' hb => putAll_any l.a l.c w.heap.size l.xs w' (hl.els.below hb (Nat.le_refl _)) (fun x hx => (hl.each x hx).1) hlen hb.size)
  have P4 : PLift (∀ w', Below w.heap.size w w' → _) := PLift.up (fun w' hb => packedAll_any l.a l.c w.heap.size l.xs w' (hl.els.below hb (Nat.le_refl _)) (fun x hx => (hl.each x hx).1) hlen hb.size)
  have P5 := PLift.up (fun w => getAll_any s w hs)
  have P6 := PLift.up (fun w => unpackedAll_any s w hs)
  have P7 := PLift.up (fun w => put_any n hn w)
  have P8 := PLift.up (fun w => packedS_any n w hn)
  have P9 := PLift.up (fun w => fold_any k hk w)
  have P10 := PLift.up (fun w => folded_any k hk w)
  have P11 := PLift.up (fun w => unfold_any n hn w)
  have P12 := PLift.up (fun w => unfolded_any n hn w)
  have hgl := gaR_len s
  obtain ⟨⟨a, r, e1⟩, hR⟩ : ∃ R, R = getR s := ⟨_, rfl⟩
  rw [← hR] at P1 P2
  obtain ⟨⟨t, e2⟩, hR2⟩ : ∃ R, R = paR l.xs := ⟨_, rfl⟩
  rw [← hR2] at P3 P4
  obtain ⟨⟨ys, e3⟩, hR3⟩ : ∃ R, R = gaR s := ⟨_, rfl⟩
  rw [← hR3] at P5 P6 hgl
  obtain ⟨T, hT⟩ : ∃ T, T = packS n := ⟨_, rfl⟩
  rw [← hT] at P7 P8
  obtain ⟨F, hF⟩ : ∃ F, F = foldN k := ⟨_, rfl⟩
  rw [← hF] at P9 P10
  obtain ⟨U, hU⟩ : ∃ U, U = unfN n := ⟨_, rfl⟩
  rw [← hU] at P11 P12
  simp only at P1 P2 P3 P4 P5 P6 hgl
  obtain ⟨la, lc, xs⟩ := l
  simp only [SL.val] at *
  clear hR hR2 hR3 hT hF hU hl hlen
  go_enter Try.func11, Try.ntmps11
  go_wp2_with fail
  refine (P1.down _).mono ?_
  rintro e w1 ⟨rfl, hb1⟩
  have B1 := PLift.up hb1
  clear hb1
  go_wp2_with fail
  refine (P2.down _).mono ?_
  rintro e w2 ⟨rfl, hb2⟩
  have B2 := PLift.up (B1.down.trans (hb2.mono B1.down.size))
  clear hb2
  go_wp2_with fail
  refine (P3.down _ B2.down).mono ?_
  rintro e w3 ⟨rfl, hb3⟩
  have B3 := PLift.up (B2.down.trans (hb3.mono B2.down.size))
  clear hb3
  go_wp2_with fail
  refine (P4.down _ B3.down).mono ?_
  rintro e w4 ⟨rfl, hb4⟩
  have B4 := PLift.up (B3.down.trans (hb4.mono B3.down.size))
  clear hb4
  go_wp2_with fail
  refine (P5.down _).mono ?_
  rintro e w5 ⟨⟨v5, rfl, n5, ho5⟩, hb5⟩
  obtain ⟨a5, c5, rfl, rfl, hE5, _, _⟩ := Els.ofOwn ho5 (fun _ _ => rfl) (by decide)
  have B5 := PLift.up (B4.down.trans (hb5.mono B4.down.size))
  have E5 := PLift.up hE5
  clear hb5 hE5 ho5
  go_wp2_with fail
  refine (P6.down _).mono ?_
  rintro e w6 ⟨⟨v6, rfl, n6, ho6⟩, hb6⟩
  obtain ⟨a6, c6, rfl, rfl, hE6, _, _⟩ := Els.ofOwn ho6 (fun _ _ => rfl) (by decide)
  have B6 := PLift.up (B5.down.trans (hb6.mono B5.down.size))
  have E6 := PLift.up hE6
  replace E5 := PLift.up ((E5.down.below hb6 (Nat.le_refl _)).mono hb6.size)
  clear hb6 hE6 ho6
  go_wp2_with fail
  refine (P7.down _).mono ?_
  rintro e w7 ⟨rfl, hb7⟩
  have B7 := PLift.up (B6.down.trans (hb7.mono B6.down.size))
  replace E5 := PLift.up ((E5.down.below hb7 (Nat.le_refl _)).mono hb7.size)
  replace E6 := PLift.up ((E6.down.below hb7 (Nat.le_refl _)).mono hb7.size)
  clear hb7
  go_wp2_with fail
  refine (P8.down _).mono ?_
  rintro e w8 ⟨rfl, hb8⟩
  have B8 := PLift.up (B7.down.trans (hb8.mono B7.down.size))
  replace E5 := PLift.up ((E5.down.below hb8 (Nat.le_refl _)).mono hb8.size)
  replace E6 := PLift.up ((E6.down.below hb8 (Nat.le_refl _)).mono hb8.size)
  clear hb8
  go_wp2_with fail
  refine (P9.down _).mono ?_
  rintro e w9 ⟨rfl, rfl⟩
  go_wp2_with fail
  refine (P10.down _).mono ?_
  rintro e w9 ⟨rfl, rfl⟩
  go_wp2_with fail
  refine (P11.down _).mono ?_
  rintro e w9 ⟨rfl, rfl⟩
  go_wp2_with fail
  refine (P12.down _).mono ?_
  rintro e w9 ⟨rfl, rfl⟩
  go_wp2_with fail
  refine (equal_i64 a5 a6 c5 c6 w8.heap.size ys ys w8 E5.down E6.down (Nat.le_refl _) (by omega) (by omega)).mono ?_
  rintro e w9 ⟨rfl, hb9⟩
  have B9 := PLift.up (B8.down.trans (hb9.mono B8.down.size))
  clear hb9
  go_wp2_with fail
  go_returns
  exact ⟨by simp, B9.down⟩
theorem own : ownKnob Try.prog.godebug = none := by kernel_rfl
theorem laidOut : laidOutB Try.prog = true := by kernel_rfl
set_option maxRecDepth 100000 in
theorem lifted (os : Os) (started : os.Started) (H : Type) (enc : TypeId × Value → H) :
    ReturnsInHanded {} Try.checked os 11 .any (Rows.packSaysSpec.pre6 enc Try.prog Try.f11 Rows.packSaysRow.domain false) (Rows.packSaysSpec.post enc Try.prog Try.f11 false true false false) := by
  refine returnsInHanded_of_change_sized (C := Try.checked) own started (by kernel_rfl) Try.func11
    (ChangeSpec.witness6 (enc := enc) (C := Try.checked) false ⟨#[], #[.int .u64 0, .int .i64 0, .string ByteArray.empty, .slice none 0 0], []⟩ 8 (by kernel_rfl) (by kernel_rfl) (by kernel_rfl) (by kernel_rfl)) ?_
  intro W base args ds gs before hval0 hW hcnd hsz0 _
  have hval : ∀ (j : Nat) t v, Try.f11.params[j]? = some t → args[j]? = some v → Value.okWide Try.prog W .any base t v := hval0
  have hW' := hW
  obtain ⟨p, q, hA0, hV, rfl, hfz, hnd⟩ := hW
  have hA : DataW.TrodAll enc Try.prog W 0 (fun _ => true) true Try.f11.params.toList args.toList ds p := hA0
  rw [Try.params11] at hA hval hsz0
  obtain ⟨v0, vs0, d0, ds0, p0, q0, hargs, rfl, rfl, h0, r0⟩ := trodAll_cons hA
  obtain ⟨v1, vs1, d1, ds1, p1, q1, rfl, rfl, rfl, h1, r1⟩ := trodAll_cons r0
  obtain ⟨v2, vs2, d2, ds2, p2, q2, rfl, rfl, rfl, h2, r2⟩ := trodAll_cons r1
  obtain ⟨v3, vs3, d3, ds3, p3, q3, rfl, rfl, rfl, h3, r3⟩ := trodAll_cons r2
  obtain ⟨rfl, rfl, rfl⟩ := trodAll_nil r3
  obtain rfl : args = #[v0, v1, v2, v3] := by cases args; simp_all
  obtain ⟨rfl, rfl⟩ := trodVars_none hV
  have lt0 : ∀ x ∈ p0, x.block < W.heap.size := by obtain ⟨m, hm⟩ := h0; exact DataW.trod_lt m _ _ _ hm
  obtain ⟨x0, c0, ok0⟩ := Opens.arg (Opens.u64 Try.underlying28) h0 hsz0 0 rfl rfl
  obtain rfl := arg_int Try.underlying28 (hval 0 28 v0 rfl rfl) c0
  have lt1 : ∀ x ∈ p1, x.block < W.heap.size := by obtain ⟨m, hm⟩ := h1; exact DataW.trod_lt m _ _ _ hm
  obtain ⟨x1, c1, ok1⟩ := Opens.arg (Opens.i64 Try.underlying3) h1 hsz0 1 rfl rfl
  obtain rfl := arg_int Try.underlying3 (hval 1 3 v1 rfl rfl) c1
  have lt2 : ∀ x ∈ p2, x.block < W.heap.size := by obtain ⟨m, hm⟩ := h2; exact DataW.trod_lt m _ _ _ hm
  obtain ⟨x2, c2, ok2⟩ := Opens.arg (Opens.str Try.underlying9) h2 hsz0 2 rfl rfl
  obtain rfl := arg_str Try.underlying9 (hval 2 9 v2 rfl rfl) c2
  have lt3 : ∀ x ∈ p3, x.block < W.heap.size := by obtain ⟨m, hm⟩ := h3; exact DataW.trod_lt m _ _ _ hm
  obtain ⟨x3, c3, ok3⟩ := Opens.arg (opInts W) h3 hsz0 3 rfl rfl
  obtain rfl := arg_slice Try.underlying24 (hval 3 24 v3 rfl rfl) c3
  clear hA0 hval0
  refine (walk x0 x1 x2 x3 W ok0 ok1 ok2 ok3).mono fun e W' ⟨he, bel⟩ => ?_
  subst he
  exact ⟨_, rfl, _, _, _, [], _, [], hW', trodAll_mk1 (shut_bool Try.underlying4 _), (trodAll_cons_mk (Below.trod laidOut (by kernel_rfl) (of_decide_eq_true (by kernel_rfl)) h0 bel lt0) (trodAll_cons_mk (Below.trod laidOut (by kernel_rfl) (of_decide_eq_true (by kernel_rfl)) h1 bel lt1) (trodAll_cons_mk (Below.trod laidOut (by kernel_rfl) (of_decide_eq_true (by kernel_rfl)) h2 bel lt2) (trodAll_cons_mk (Below.trod laidOut (by kernel_rfl) (of_decide_eq_true (by kernel_rfl)) h3 bel lt3) trodAll_mk0)))), rfl, bel.frame _, fun h => by cases h⟩
theorem over : Rows.packSaysRow.holds Try.pinned (OpenSpec.ofChange Rows.packSaysSpec) :=
  OpenClaim.holds_of_wide 11 Try.f11 rfl rfl rfl rfl rfl rfl rfl ⟨rfl, rfl, rfl, rfl, rfl⟩ rfl rfl rfl rfl rfl (by kernel_rfl) Try.func11 (by kernel_rfl)
    (of_decide_eq_true (by kernel_rfl)) (by unfold Func.isWrapper; first | (rw [if_pos (by decide +kernel)]; kernel_rfl) | (rw [if_neg (by decide +kernel)]; exact ⟨rfl, rfl⟩))
    (fun os started H enc _ => lifted os started H enc)
theorem proved : Rows.PackSaysSaid := over
#print axioms proved
end packSays
end Go.Proofs.Ytemogefcbemjfaa
