/- StoryShown: whatever root, numbers, text and trail are handed in, Shown answers what the document says. No condition. -/
import Derived.Test.YtdkmndimmpilaaaShownM4
import Derived.Test.YtdkmndimmpilaaaChecked
import Derived.Test.YtdkmndimmpilaaaRows
namespace Go.Proofs.Ytdkmndimmpilaaa
set_option linter.all false
open Go.RowKit Go.ChangeShapes Go.WideShapes Go.ChangeAt
set_option maxRecDepth 100000
end Go.Proofs.Ytdkmndimmpilaaa
namespace Go.Proofs.Ytdkmndimmpilaaa
set_option linter.all false
open Go.RowKit Go.ChangeShapes Go.WideShapes Go.ChangeAt
namespace storyShown
set_option maxRecDepth 100000
set_option maxHeartbeats 1000000
theorem law (root : Nat) (n i : Int) (s : ByteArray) (t : List Nat) (hr : root < 18446744073709551616) (hn : In64 n) (hi : In64 i) (hs : s.size ≤ 140737488351232) (ht : (∀ x ∈ t, x < 18446744073709551616) ∧ t.length * 8 ≤ 140737488351232 ∧ t.length ≤ 9223372036854775807) :
 Spec Try.prog 5 [.c (.v (.int .u64 root)), I .i64 n, I .i64 i, S s, .c (.sl 1 (t.map u64P))] [] (B true) [] := by
 obtain ⟨hi1, hi2⟩ := hi
 obtain ⟨hn1, hn2⟩ := hn
 have eB : (within n 1 256 && within i 0 (IntKind.i64.wrap (n - 1))) = decide (1 ≤ n ∧ n ≤ 256 ∧ 0 ≤ i ∧ i < n) := by
  unfold within
  by_cases h : 1 ≤ n
  ·have : IntKind.i64.wrap (n - 1) = n - 1 := IntWalk.i64_in _ (by omega)
   rw [this, Bool.eq_iff_iff]; simp; omega
  ·rw [Bool.eq_iff_iff]; simp; omega
 have SH := shown_s root n i s t hs ht.1 ht.2.2
 have RT := rtext_s s hs
 have hrl := readV_len s
 have OE := ord_eq (readV s).1 (readV s).1 (by omega) (by omega)
 by_cases hb : 1 ≤ n ∧ n ≤ 256 ∧ 0 ≤ i ∧ i < n
 ·have TH : Spec Try.prog 25 [.c (.v (.int .u64 root)), S s, I .i64 i, I .i64 n, .c (.sl 1 (t.map u64P))] [] (B (decide (cl pairN (leafN s) i.toNat n.toNat t = some root))) [] := by
   obtain ⟨a1, a2, a3, a4⟩ := hb
   obtain ⟨i, rfl⟩ := Int.eq_ofNat_of_zero_le a3
   obtain ⟨n, rfl⟩ := Int.eq_ofNat_of_zero_le (show 0 ≤ n by omega)
   exact trailHolds_s root s i n t hs ht.1 (by omega) (by omega) (by omega)
  have b1 : within n 1 256 = true := within_iff.2 ⟨hb.1, hb.2.1⟩
  have b2 : within i 0 (n - 1) = true := within_iff.2 ⟨by omega, by omega⟩
  have hh : holdsV root s i n t = (decide (cl pairN (leafN s) i.toNat n.toNat t = some root), 0) := by unfold holdsV; rw [if_neg (by omega)]
  by_cases hc : cl pairN (leafN s) i.toNat n.toNat t = some root
  ·have e : shownV root n i s t = ((readV s).1, decide ((readV s).2 = 0), (readV s).2) := by unfold shownV; rw [hh, if_neg (by simp [hc])]
   rw [e] at SH
   rw [decide_eq_true hc] at TH
   rw [decide_eq_true hb] at eB
   clear e hh
   generalize readV s = r at *
   obtain ⟨l, f⟩ := r
   refine spec_am Try.func5 rfl rfl mix 84 rfl [.tmp 10] Try.results5 (Nat.le_of_ble_eq_true rfl) ?_
   (iterate 2 ((try simp (etaStruct := .none) only [push_cast, DrawG, Int.cast_ofNat_Int, seval, eB]); (try (refine xsu ?_; try exact xtI))))
   refine caP (SH) ?_
   (iterate 2 ((try simp (etaStruct := .none) only [push_cast, DrawG, Int.cast_ofNat_Int, seval, eB]); (try (refine xsu ?_; try exact xtI))))
   refine caP (between_s _ _ _) ?_
   (iterate 2 ((try simp (etaStruct := .none) only [push_cast, DrawG, Int.cast_ofNat_Int, seval, eB]); (try (refine xsu ?_; try exact xtI))))
   refine gcP (fun hcc => between_s _ _ _) ?_
   (iterate 2 ((try simp (etaStruct := .none) only [push_cast, DrawG, Int.cast_ofNat_Int, seval, eB]); (try (refine xsu ?_; try exact xtI))))
   refine cond_i (fun h1 => ?_) (fun h1 => ?_)
   ·(try replace h1 := xhh h1)
    simp [b1, b2] at h1
   ·(try replace h1 := xhh h1)
    (iterate 2 ((try simp (etaStruct := .none) only [push_cast, DrawG, Int.cast_ofNat_Int, seval, eB]); (try (refine xsu ?_; try exact xtI))))
    refine caP (TH) ?_
    (iterate 2 ((try simp (etaStruct := .none) only [push_cast, DrawG, Int.cast_ofNat_Int, seval, eB]); (try (refine xsu ?_; try exact xtI))))
    refine cond_i (fun h2 => ?_) (fun h2 => ?_)
    ·(try replace h2 := xhh h2)
     simp at h2
    ·(try replace h2 := xhh h2)
     (iterate 2 ((try simp (etaStruct := .none) only [push_cast, DrawG, Int.cast_ofNat_Int, seval, eB]); (try (refine xsu ?_; try exact xtI))))
     refine caP (RT) ?_
     (iterate 2 ((try simp (etaStruct := .none) only [push_cast, DrawG, Int.cast_ofNat_Int, seval, eB]); (try (refine xsu ?_; try exact xtI))))
     refine caP (OE) ?_
     (iterate 2 ((try simp (etaStruct := .none) only [push_cast, DrawG, Int.cast_ofNat_Int, seval, eB]); (try (refine xsu ?_; try exact xtI))))
     exact xrz rfl
  ·have e : shownV root n i s t = ([], false, 0) := by unfold shownV; rw [hh, if_pos (by simp [hc])]
   rw [e] at SH
   rw [decide_eq_false hc] at TH
   rw [decide_eq_true hb] at eB
   clear e hh
   refine spec_am Try.func5 rfl rfl mix 84 rfl [.tmp 10] Try.results5 (Nat.le_of_ble_eq_true rfl) ?_
   (iterate 2 ((try simp (etaStruct := .none) only [push_cast, DrawG, Int.cast_ofNat_Int, seval, eB]); (try (refine xsu ?_; try exact xtI))))
   refine caP (SH) ?_
   (iterate 2 ((try simp (etaStruct := .none) only [push_cast, DrawG, Int.cast_ofNat_Int, seval, eB]); (try (refine xsu ?_; try exact xtI))))
   refine caP (between_s _ _ _) ?_
   (iterate 2 ((try simp (etaStruct := .none) only [push_cast, DrawG, Int.cast_ofNat_Int, seval, eB]); (try (refine xsu ?_; try exact xtI))))
   refine gcP (fun hcc => between_s _ _ _) ?_
   (iterate 2 ((try simp (etaStruct := .none) only [push_cast, DrawG, Int.cast_ofNat_Int, seval, eB]); (try (refine xsu ?_; try exact xtI))))
   refine cond_i (fun h1 => ?_) (fun h1 => ?_)
   ·(try replace h1 := xhh h1)
    simp [b1, b2] at h1
   ·(try replace h1 := xhh h1)
    (iterate 2 ((try simp (etaStruct := .none) only [push_cast, DrawG, Int.cast_ofNat_Int, seval, eB]); (try (refine xsu ?_; try exact xtI))))
    refine caP (TH) ?_
    (iterate 2 ((try simp (etaStruct := .none) only [push_cast, DrawG, Int.cast_ofNat_Int, seval, eB]); (try (refine xsu ?_; try exact xtI))))
    refine cond_i (fun h2 => ?_) (fun h2 => ?_)
    ·(try replace h2 := xhh h2)
     (iterate 2 ((try simp (etaStruct := .none) only [push_cast, DrawG, Int.cast_ofNat_Int, seval, eB]); (try (refine xsu ?_; try exact xtI))))
     exact xrz rfl
    ·(try replace h2 := xhh h2)
     simp at h2
 ·have hh : holdsV root s i n t = (false, 1) := by unfold holdsV; rw [if_pos (by omega)]
  have e : shownV root n i s t = ([], false, 1) := by unfold shownV; rw [hh, if_pos (by simp)]
  rw [e] at SH
  rw [decide_eq_false hb] at eB
  clear e hh
  refine spec_am Try.func5 rfl rfl mix 84 rfl [.tmp 10] Try.results5 (Nat.le_of_ble_eq_true rfl) ?_
  (iterate 2 ((try simp (etaStruct := .none) only [push_cast, DrawG, Int.cast_ofNat_Int, seval, eB]); (try (refine xsu ?_; try exact xtI))))
  refine caP (SH) ?_
  (iterate 2 ((try simp (etaStruct := .none) only [push_cast, DrawG, Int.cast_ofNat_Int, seval, eB]); (try (refine xsu ?_; try exact xtI))))
  refine caP (between_s _ _ _) ?_
  (iterate 2 ((try simp (etaStruct := .none) only [push_cast, DrawG, Int.cast_ofNat_Int, seval, eB]); (try (refine xsu ?_; try exact xtI))))
  refine gcP (fun hcc => between_s _ _ _) ?_
  (iterate 2 ((try simp (etaStruct := .none) only [push_cast, DrawG, Int.cast_ofNat_Int, seval, eB]); (try (refine xsu ?_; try exact xtI))))
  refine cond_i (fun h1 => ?_) (fun h1 => ?_)
  ·(try replace h1 := xhh h1)
   (iterate 2 ((try simp (etaStruct := .none) only [push_cast, DrawG, Int.cast_ofNat_Int, seval, eB]); (try (refine xsu ?_; try exact xtI))))
   exact xrz rfl
  ·(try replace h1 := xhh h1)
   obtain ⟨p, q⟩ := h1
   have p' := within_iff.1 p
   have hw : IntKind.i64.wrap (n - 1) = n - 1 := IntWalk.i64_in _ (by omega)
   first | rw [hw] at q | skip
   have q' := within_iff.1 q
   omega
theorem opU64s (w : World) : OpA Try.prog 49 1 w (fun xs : List Nat => [.sl 1 (xs.map u64P)]) (fun xs => (∀ x ∈ xs, x < 18446744073709551616) ∧ xs.length * 8 ≤ 140737488351232 ∧ xs.length ≤ 9223372036854775807) :=
 OpA.slice Try.underlying49 (by kernel_rfl) (by decide) (by kernel_rfl) (OpA.u64 Try.underlying48)
theorem own : ownKnob Try.prog.godebug = none := by kernel_rfl
theorem laidOut : laidOutB Try.prog = true := by kernel_rfl
set_option maxRecDepth 100000 in
theorem lifted (os : Os) (started : os.Started) (H : Type) (enc : TypeId × Value → H) :
 ReturnsInHanded {} Try.checked os 5 .any (Rows.storyShownSpec.pre6 enc Try.prog Try.f5 Rows.storyShownRow.domain false) (Rows.storyShownSpec.post enc Try.prog Try.f5 false true false false) := by
 refine returnsInHanded_of_change_sized (C := Try.checked) own started (by kernel_rfl) Try.func5
  (ChangeSpec.witness6 (enc := enc) (C := Try.checked) false ⟨#[], #[.int .u64 0, .int .i64 0, .int .i64 0, .string ByteArray.empty, .slice none 0 0], []⟩ 8 (by kernel_rfl) (by kernel_rfl) (by kernel_rfl) (by kernel_rfl)) ?_
 intro W base args ds gs before hval0 hW hcnd hsz0 _
 have hval : ∀ (j : Nat) t v, Try.f5.params[j]? = some t → args[j]? = some v → Value.okWide Try.prog W .any base t v := hval0
 have hW' := hW
 obtain ⟨p, q, hA0, hV, rfl, hfz, hnd⟩ := hW
 have hA : DataW.TrodAll enc Try.prog W 0 (fun _ => true) true Try.f5.params.toList args.toList ds p := hA0
 rw [Try.params5] at hA hval hsz0
 obtain ⟨v0, vs0, d0, ds0, p0, q0, hargs, rfl, rfl, h0, r0⟩ := trodAll_cons hA
 obtain ⟨v1, vs1, d1, ds1, p1, q1, rfl, rfl, rfl, h1, r1⟩ := trodAll_cons r0
 obtain ⟨v2, vs2, d2, ds2, p2, q2, rfl, rfl, rfl, h2, r2⟩ := trodAll_cons r1
 obtain ⟨v3, vs3, d3, ds3, p3, q3, rfl, rfl, rfl, h3, r3⟩ := trodAll_cons r2
 obtain ⟨v4, vs4, d4, ds4, p4, q4, rfl, rfl, rfl, h4, r4⟩ := trodAll_cons r3
 obtain ⟨rfl, rfl, rfl⟩ := trodAll_nil r4
 obtain rfl : args = #[v0, v1, v2, v3, v4] := by cases args; simp_all
 obtain ⟨rfl, rfl⟩ := trodVars_none hV
 have lt0 : ∀ x ∈ p0, x.block < W.heap.size := by obtain ⟨m, hm⟩ := h0; exact DataW.trod_lt m _ _ _ hm
 obtain ⟨x0, ok0, l0, q0r⟩ := OpA.arg (OpA.u64 Try.underlying48) h0 hsz0 0 rfl rfl
 have R0 := rel_one (one_int Try.underlying48 (hval 0 48 v0 rfl rfl)) q0r
 have lt1 : ∀ x ∈ p1, x.block < W.heap.size := by obtain ⟨m, hm⟩ := h1; exact DataW.trod_lt m _ _ _ hm
 obtain ⟨x1, ok1, l1, q1r⟩ := OpA.arg (OpA.i64 Try.underlying3) h1 hsz0 1 rfl rfl
 have R1 := rel_one (one_int Try.underlying3 (hval 1 3 v1 rfl rfl)) q1r
 have lt2 : ∀ x ∈ p2, x.block < W.heap.size := by obtain ⟨m, hm⟩ := h2; exact DataW.trod_lt m _ _ _ hm
 obtain ⟨x2, ok2, l2, q2r⟩ := OpA.arg (OpA.i64 Try.underlying3) h2 hsz0 2 rfl rfl
 have R2 := rel_one (one_int Try.underlying3 (hval 2 3 v2 rfl rfl)) q2r
 have lt3 : ∀ x ∈ p3, x.block < W.heap.size := by obtain ⟨m, hm⟩ := h3; exact DataW.trod_lt m _ _ _ hm
 obtain ⟨x3, ok3, l3, q3r⟩ := OpA.arg (OpA.str Try.underlying9) h3 hsz0 3 rfl rfl
 have R3 := rel_one (one_str Try.underlying9 (hval 3 9 v3 rfl rfl)) q3r
 have lt4 : ∀ x ∈ p4, x.block < W.heap.size := by obtain ⟨m, hm⟩ := h4; exact DataW.trod_lt m _ _ _ hm
 obtain ⟨x4, ok4, l4, q4r⟩ := OpA.arg (opU64s W) h4 hsz0 4 rfl rfl
 have R4 := rel_one (one_slice Try.underlying49 (hval 4 49 v4 rfl rfl)) q4r
 clear hA0 hval0
 refine (spec_law (law x0 x1 x2 x3 x4 ok0 ok1 ok2 ok3 ok4) (relL_cons R0 (relL_cons R1 (relL_cons R2 (relL_cons R3 (relL_cons R4 relL_nil)))))).mono fun e W' ⟨he, bel⟩ => ?_
 subst he
 exact ⟨_, rfl, _, _, _, [], _, [], hW', trodAll_mk1 (shut_bool Try.underlying4 _), (trodAll_cons_mk (Below.trod laidOut (by kernel_rfl) (of_decide_eq_true (by kernel_rfl)) h0 bel lt0) (trodAll_cons_mk (Below.trod laidOut (by kernel_rfl) (of_decide_eq_true (by kernel_rfl)) h1 bel lt1) (trodAll_cons_mk (Below.trod laidOut (by kernel_rfl) (of_decide_eq_true (by kernel_rfl)) h2 bel lt2) (trodAll_cons_mk (Below.trod laidOut (by kernel_rfl) (of_decide_eq_true (by kernel_rfl)) h3 bel lt3) (trodAll_cons_mk (Below.trod laidOut (by kernel_rfl) (of_decide_eq_true (by kernel_rfl)) h4 bel lt4) trodAll_mk0))))), rfl, bel.frame _, fun h => by cases h⟩
theorem over : Rows.storyShownRow.holds Try.pinned (OpenSpec.ofChange Rows.storyShownSpec) :=
 OpenClaim.holds_of_wide 5 Try.f5 rfl rfl rfl rfl rfl rfl rfl ⟨rfl, rfl, rfl, rfl, rfl⟩ rfl rfl rfl rfl rfl (by kernel_rfl) Try.func5 (by kernel_rfl)
  (of_decide_eq_true (by kernel_rfl)) (by unfold Func.isWrapper; first | (rw [if_pos (by decide +kernel)]; kernel_rfl) | (rw [if_neg (by decide +kernel)]; exact ⟨rfl, rfl⟩))
  (fun os started H enc _ => lifted os started H enc)
theorem proved : Rows.StoryShownSaid := over
#print axioms proved
end storyShown
end Go.Proofs.Ytdkmndimmpilaaa
