/- HostFollows: whatever world and texts are handed in, Follow answers what the document says. No condition. -/
import Derived.Test.YthiddmncjafklaaGreatHostFollowsM9
import Derived.Test.YthiddmncjafklaaGreatHostFollowsM1
import Derived.Test.YthiddmncjafklaaGreatChecked
import Derived.Test.YthiddmncjafklaaGreatRows
namespace Go.Proofs.YthiddmncjafklaaGreat
set_option linter.all false
open Go.RowKit Go.ChangeShapes Go.WideShapes Go.ChangeAt
set_option maxRecDepth 100000
def fldP (f : Fld) : List PV := [pI f.w, pI f.h, .sl 1 (f.p.map i64P)]
theorem opInts (w : World) : OpA Tryz.prog 22 1 w (fun xs : List Int => [.sl 1 (xs.map i64P)]) (fun xs => (∀ x ∈ xs, In64 x) ∧ xs.length * 8 ≤ 140737488351232 ∧ xs.length ≤ 9223372036854775807) :=
 OpA.slice Tryz.underlying22 (by kernel_rfl) (by decide) (by kernel_rfl) (OpA.i64 Tryz.underlying3)
theorem opCel (w : World) : OpA Tryz.prog 85 2 w celP (fun c => In64 c.x ∧ In64 c.y) :=
 (OpA.struct Tryz.underlying85 (by kernel_rfl) (OpAF.cons rfl rfl (OpA.i64 Tryz.underlying3) (OpAF.cons rfl rfl (OpA.i64 Tryz.underlying3) OpAF.nil))).map (fun x => ⟨x.1, x.2.1⟩) (fun _ => rfl) (fun _ h => ⟨h.1, h.2.1⟩)
theorem opFld (w : World) : OpA Tryz.prog 24 3 w fldP (fun f => In64 f.w ∧ In64 f.h ∧ (∀ x ∈ f.p, In64 x) ∧ f.p.length * 8 ≤ 140737488351232 ∧ f.p.length ≤ 9223372036854775807) :=
 (OpA.struct Tryz.underlying24 (by kernel_rfl) (OpAF.cons rfl rfl (OpA.i64 Tryz.underlying3) (OpAF.cons rfl rfl (OpA.i64 Tryz.underlying3) (OpAF.cons rfl rfl (opInts w) OpAF.nil)))).map (fun x => ⟨x.1, x.2.1, x.2.2.1⟩) (fun _ => rfl) (fun _ h => ⟨h.1, h.2.1, h.2.2.1⟩)
end Go.Proofs.YthiddmncjafklaaGreat
namespace Go.Proofs.YthiddmncjafklaaGreat
set_option linter.all false
open Go.RowKit Go.ChangeShapes Go.WideShapes Go.ChangeAt
set_option maxRecDepth 100000
def wldP (w : Wld) : List PV := [pI w.f.w, pI w.f.h, .sl 1 (w.f.p.map i64P), .sl 2 (w.bases.map celP), .sl 1 (w.stocks.map i64P), .sl 1 (w.mines.map i64P), .sl 7 (w.troops.map trpP), pI w.next, pI w.now]
def trpG (t : Trp) : Prop := In64 t.id ∧ In64 t.owner ∧ In64 t.kind ∧ In64 t.c.x ∧ In64 t.c.y ∧ In64 t.life ∧ In64 t.load
def wldG (w : Wld) : Prop := wldL w ∧ In64 w.f.w ∧ In64 w.f.h ∧ (∀ x ∈ w.f.p, In64 x) ∧ (∀ x ∈ w.bases, In64 x.x ∧ In64 x.y) ∧ (∀ x ∈ w.stocks, In64 x) ∧ (∀ x ∈ w.mines, In64 x) ∧ (∀ x ∈ w.troops, trpG x) ∧ In64 w.next ∧ In64 w.now
theorem opTrp (w : World) : OpA Tryz.prog 89 7 w trpP trpG :=
 (OpA.struct Tryz.underlying89 (by kernel_rfl) (OpAF.cons rfl rfl (OpA.i64 Tryz.underlying3) (OpAF.cons rfl rfl (OpA.i64 Tryz.underlying3) (OpAF.cons rfl rfl (OpA.i64 Tryz.underlying3) (OpAF.cons rfl rfl (opCel w) (OpAF.cons rfl rfl (OpA.i64 Tryz.underlying3) (OpAF.cons rfl rfl (OpA.i64 Tryz.underlying3) OpAF.nil))))))).map (fun x => ⟨x.1, x.2.1, x.2.2.1, x.2.2.2.1, x.2.2.2.2.1, x.2.2.2.2.2.1⟩) (fun _ => rfl) (fun x h => ⟨h.1, h.2.1, h.2.2.1, h.2.2.2.1.1, h.2.2.2.1.2, h.2.2.2.2.1, h.2.2.2.2.2.1⟩)
theorem opCels (w : World) : OpA Tryz.prog 25 1 w (fun xs : List Cel => [.sl 2 (xs.map celP)]) (fun xs => (∀ x ∈ xs, In64 x.x ∧ In64 x.y) ∧ xs.length * 16 ≤ 140737488351232 ∧ xs.length ≤ 9223372036854775807) :=
 OpA.slice Tryz.underlying25 (by kernel_rfl) (by decide) (by kernel_rfl) (opCel w)
theorem opTrps (w : World) : OpA Tryz.prog 26 1 w (fun xs : List Trp => [.sl 7 (xs.map trpP)]) (fun xs => (∀ x ∈ xs, trpG x) ∧ xs.length * 56 ≤ 140737488351232 ∧ xs.length ≤ 9223372036854775807) :=
 OpA.slice Tryz.underlying26 (by kernel_rfl) (by decide) (by kernel_rfl) (opTrp w)
theorem opWld (w : World) : OpA Tryz.prog 28 9 w wldP wldG :=
 (OpA.struct Tryz.underlying28 (by kernel_rfl) (OpAF.cons rfl rfl (opFld w) (OpAF.cons rfl rfl (opCels w) (OpAF.cons rfl rfl (opInts w) (OpAF.cons rfl rfl (opInts w) (OpAF.cons rfl rfl (opTrps w) (OpAF.cons rfl rfl (OpA.i64 Tryz.underlying3) (OpAF.cons rfl rfl (OpA.i64 Tryz.underlying3) OpAF.nil)))))))).map (fun x => ⟨x.1, x.2.1, x.2.2.1, x.2.2.2.1, x.2.2.2.2.1, x.2.2.2.2.2.1, x.2.2.2.2.2.2.1⟩) (fun _ => rfl)
  (fun x h => ⟨⟨h.1.2.2.2.2, h.2.1.2.2, h.2.2.1.2.2, h.2.2.2.1.2.2, h.2.2.2.2.1.2.2⟩, h.1.1, h.1.2.1, h.1.2.2.1, h.2.1.1, h.2.2.1.1, h.2.2.2.1.1, h.2.2.2.2.1.1, h.2.2.2.2.2.1, h.2.2.2.2.2.2.1⟩)
end Go.Proofs.YthiddmncjafklaaGreat
namespace Go.Proofs.YthiddmncjafklaaGreat
set_option linter.all false
open Go.RowKit Go.ChangeShapes Go.WideShapes Go.ChangeAt
namespace hostFollows
set_option maxRecDepth 100000
set_option maxHeartbeats 1000000
theorem opStrs (w : World) : OpA Tryz.prog 56 1 w (fun xs : List ByteArray => [.sl 1 (xs.map strP)]) (fun xs => (∀ x ∈ xs, x.size ≤ 140737488351232) ∧ xs.length * 16 ≤ 140737488351232 ∧ xs.length ≤ 9223372036854775807) :=
 OpA.slice Tryz.underlying56 (by kernel_rfl) (by decide) (by kernel_rfl) (OpA.str Tryz.underlying9)
theorem follow_l (w : Wld) (l : List ByteArray) (h : 200 < l.length) : Spec Tryz.prog 21 [wldA w, .c (.sl 1 (l.map strP))] [] (.tup [wldA default, I .i64 0, I .i64 2]) [] := by
 refine spec_am Tryz.func21 rfl rfl mix 61 rfl [.cell 4 28, .tmp 5, .tmp 6] Tryz.results21 (Nat.le_of_ble_eq_true rfl) ?_
 (try (refine xst ?_; try exact xtI))
 refine cond_i (fun h1 => ?_) (fun h1 => ?_)
 ·(try replace h1 := xhh h1)
  (try (refine xst ?_; try exact xtI))
  exact xrz rfl
 ·(try replace h1 := xhh h1)
  omega
theorem follow_w (w : Wld) (l : List ByteArray) (WR : Cel → List Int) (hWR : ∀ a, FloodIs w.f [a] (WR a)) (hl : wldL w) (h : l.length ≤ 200) (hw : worldE w ≠ 0) : Spec Tryz.prog 21 [wldA w, .c (.sl 1 (l.map strP))] [] (.tup [wldA default, I .i64 0, I .i64 (worldE w)]) [] := by
 have V := trun_s w [] WR hWR hl (fun _ h => by simp at h)
 have v0 : runRE WR [] w = worldE w := by unfold runRE; rw [if_neg (by simp), if_pos hw]
 rw [v0] at V
 refine spec_am Tryz.func21 rfl rfl mix 61 rfl [.cell 4 28, .tmp 5, .tmp 6] Tryz.results21 (Nat.le_of_ble_eq_true rfl) ?_
 (try (refine xst ?_; try exact xtI))
 refine cond_i (fun h1 => ?_) (fun h1 => ?_)
 ·(try replace h1 := xhh h1)
  omega
 ·(try replace h1 := xhh h1)
  (try (refine xst ?_; try exact xtI))
  refine callP (V) (by exact ⟨Wk.refl _, Wk.nil _, trivial⟩) ?_
  (try (refine xst ?_; try exact xtI))
  refine cond_i (fun h2 => ?_) (fun h2 => ?_)
  ·(try replace h2 := xhh h2)
   (try (refine xst ?_; try exact xtI))
   exact xrz rfl
  ·(try replace h2 := xhh h2)
   exact absurd h2 hw
theorem law_k (w : Wld) (l : List ByteArray) (WR : Cel → List Int) (hWR : ∀ a, FloodIs w.f [a] (WR a)) (hw : Right w) (hll : l.length ≤ 200) (hs : ∀ s ∈ l, s.size ≤ 140737488351232) (hL : wldL (followW WR l w)) : Spec Tryz.prog 6 [wldA w, .c (.sl 1 (l.map strP))] [] (B true) [] := by
 have F1 := follow_k w l WR hWR hw hll hs
 have F2 := rfollow_s WR l w hWR hw hll hs
 have HW := wright_s w hw.l
 rw [hw.e] at HW
 generalize followW WR l w = x at *
 generalize followK WR l w = m at *
 refine spec_am Tryz.func6 rfl rfl mix 55 rfl [.tmp 4] Tryz.results6 (Nat.le_of_ble_eq_true rfl) ?_
 (try (refine xst ?_; try exact xtI))
 refine caP (F1) ?_
 (try (refine xst ?_; try exact xtI))
 refine caP (HW) ?_
 (try (refine xst ?_; try exact xtI))
 refine cond_i (fun h1 => ?_) (fun h1 => ?_)
 ·(try replace h1 := xhh h1)
  omega
 ·(try replace h1 := xhh h1)
  (try (refine xst ?_; try exact xtI))
  refine cond_i (fun h2 => ?_) (fun h2 => ?_)
  ·(try replace h2 := xhh h2)
   simp at h2
  ·(try replace h2 := xhh h2)
   (try (refine xst ?_; try exact xtI))
   refine caP (F2) ?_
   (try (refine xst ?_; try exact xtI))
   refine caP (sameWorld_s x x hL hL) ?_
   (try (refine xst ?_; try exact xtI))
   exact xrz rfl
theorem law_e (w : Wld) (l : List ByteArray) (e : Int) (he : e ≠ 0) (hl : wldL w) (hll : l.length ≤ 9223372036854775807) (h1 : 200 < l.length → e = 2) (h2 : l.length ≤ 200 → e = worldE w) (F : Spec Tryz.prog 21 [wldA w, .c (.sl 1 (l.map strP))] [] (.tup [wldA default, I .i64 0, I .i64 e]) []) : Spec Tryz.prog 6 [wldA w, .c (.sl 1 (l.map strP))] [] (B true) [] := by
 have HW := wright_s w hl
 have SW := sameWorld_s default default wldD_l wldD_l
 by_cases hc : 200 < l.length
 ·obtain rfl := h1 hc
  clear h1 h2
  refine spec_am Tryz.func6 rfl rfl mix 55 rfl [.tmp 4] Tryz.results6 (Nat.le_of_ble_eq_true rfl) ?_
  (try (refine xst ?_; try exact xtI))
  refine caP (F) ?_
  (try (refine xst ?_; try exact xtI))
  refine caP (HW) ?_
  (try (refine xst ?_; try exact xtI))
  refine cond_i (fun h1 => ?_) (fun h1 => ?_)
  ·(try replace h1 := xhh h1)
   (try (refine xst ?_; try exact xtI))
   refine cond_i (fun h2 => ?_) (fun h2 => ?_)
   ·(try replace h2 := xhh h2)
    (try (refine xst ?_; try exact xtI))
    refine callP (SW) (by refine ⟨Wk.agg ?_, Wk.agg ?_, trivial⟩ <;> (repeat' (first | exact trivial | exact Wk.refl _ | exact Wk.nil _ | refine ⟨?_, ?_⟩))) ?_
    (try (refine xst ?_; try exact xtI))
    exact xrz rfl
   ·(try replace h2 := xhh h2)
    simp at h2
  ·(try replace h1 := xhh h1)
   omega
 ·have he2 := h2 (by omega)
  clear h1 h2
  subst he2
  refine spec_am Tryz.func6 rfl rfl mix 55 rfl [.tmp 4] Tryz.results6 (Nat.le_of_ble_eq_true rfl) ?_
  (try (refine xst ?_; try exact xtI))
  refine caP (F) ?_
  (try (refine xst ?_; try exact xtI))
  refine caP (HW) ?_
  (try (refine xst ?_; try exact xtI))
  refine cond_i (fun h1 => ?_) (fun h1 => ?_)
  ·(try replace h1 := xhh h1)
   omega
  ·(try replace h1 := xhh h1)
   (try (refine xst ?_; try exact xtI))
   refine cond_i (fun h2 => ?_) (fun h2 => ?_)
   ·(try replace h2 := xhh h2)
    (try (refine xst ?_; try exact xtI))
    refine callP (SW) (by refine ⟨Wk.agg ?_, Wk.agg ?_, trivial⟩ <;> (repeat' (first | exact trivial | exact Wk.refl _ | exact Wk.nil _ | refine ⟨?_, ?_⟩))) ?_
    (try (refine xst ?_; try exact xtI))
    exact xrz rfl
   ·(try replace h2 := xhh h2)
    exact absurd h2 he
theorem follow_L {WR : Cel → List Int} : ∀ (l : List ByteArray) {w : Wld}, (∀ a, FloodIs w.f [a] (WR a)) → Right w → Right (followW WR l w)
 | [], _, _, h => h
 | s :: r, w, hWR, h => by
  unfold followW
  split
  ·exact h
  ·rename_i hn
   have e0 : turnE (readV s).1 w = 0 := Decidable.byContradiction fun hc => hn (.inr hc)
   exact follow_L r (by intro a; rw [turnV_f]; exact hWR a) (right_turn h hWR _ (turnE_ok e0).2)
theorem law (w : Wld) (l : List ByteArray) (h1 : wldG w) (h0 : (∀ x ∈ l, x.size ≤ 140737488351232) ∧ l.length * 16 ≤ 140737488351232 ∧ l.length ≤ 9223372036854775807) : Spec Tryz.prog 6 [wldA w, .c (.sl 1 (l.map strP))] [] (B true) [] := by
 obtain ⟨WR, hWR⟩ := wr_ex w.f
 by_cases hc : 200 < l.length
 ·exact law_e w l 2 (by decide) h1.1 h0.2.2 (fun _ => rfl) (fun h => absurd hc (by omega)) (follow_l w l hc)
 ·by_cases hw : worldE w = 0
  ·exact law_k w l WR hWR (right_of hw) (by omega) h0.1 (follow_L l hWR (right_of hw)).l
  ·exact law_e w l (worldE w) hw h1.1 h0.2.2 (fun h => absurd h hc) (fun _ => rfl) (follow_w w l WR hWR h1.1 (by omega) hw)
theorem own : ownKnob Tryz.prog.godebug = none := by kernel_rfl
theorem laidOut : laidOutB Tryz.prog = true := by kernel_rfl
set_option maxRecDepth 100000 in
theorem lifted (os : Os) (started : os.Started) (H : Type) (enc : TypeId × Value → H) :
 ReturnsInHanded {} Tryz.checked os 6 .any (Rows.hostFollowsSpec.pre6 enc Tryz.prog Tryz.f6 Rows.hostFollowsRow.domain false) (Rows.hostFollowsSpec.post enc Tryz.prog Tryz.f6 false true false false) := by
 refine returnsInHanded_of_change_sized (C := Tryz.checked) own started (by kernel_rfl) Tryz.func6
  (ChangeSpec.witness6 (enc := enc) (C := Tryz.checked) false ⟨#[], #[.agg #[.int .i64 0, .int .i64 0, .slice none 0 0, .slice none 0 0, .slice none 0 0, .slice none 0 0, .slice none 0 0, .int .i64 0, .int .i64 0], .slice none 0 0], []⟩ 8 (by kernel_rfl) (by kernel_rfl) (by kernel_rfl) (by kernel_rfl)) ?_
 intro W base args ds gs before hval0 hW hcnd hsz0 _
 have hval : ∀ (j : Nat) t v, Tryz.f6.params[j]? = some t → args[j]? = some v → Value.okWide Tryz.prog W .any base t v := hval0
 have hW' := hW
 obtain ⟨p, q, hA0, hV, rfl, hfz, hnd⟩ := hW
 have hA : DataW.TrodAll enc Tryz.prog W 0 (fun _ => true) true Tryz.f6.params.toList args.toList ds p := hA0
 rw [Tryz.params6] at hA hval hsz0
 obtain ⟨v0, vs0, d0, ds0, p0, q0, hargs, rfl, rfl, h0, r0⟩ := trodAll_cons hA
 obtain ⟨v1, vs1, d1, ds1, p1, q1, rfl, rfl, rfl, h1, r1⟩ := trodAll_cons r0
 obtain ⟨rfl, rfl, rfl⟩ := trodAll_nil r1
 obtain rfl : args = #[v0, v1] := by cases args; simp_all
 obtain ⟨rfl, rfl⟩ := trodVars_none hV
 have lt0 : ∀ x ∈ p0, x.block < W.heap.size := by obtain ⟨m, hm⟩ := h0; exact DataW.trod_lt m _ _ _ hm
 obtain ⟨x0, ok0, l0, q0r⟩ := OpA.arg (opWld W) h0 hsz0 0 rfl rfl
 have R0 := rel_agg (arg_struct (hval 0 28 v0 rfl rfl) Tryz.underlying28 rfl) l0 q0r
 have lt1 : ∀ x ∈ p1, x.block < W.heap.size := by obtain ⟨m, hm⟩ := h1; exact DataW.trod_lt m _ _ _ hm
 obtain ⟨x1, ok1, l1, q1r⟩ := OpA.arg (opStrs W) h1 hsz0 1 rfl rfl
 have R1 := rel_one (one_slice Tryz.underlying56 (hval 1 56 v1 rfl rfl)) q1r
 clear hA0 hval0
 refine (spec_law (law x0 x1 ok0 ok1) (relL_cons R0 (relL_cons R1 relL_nil))).mono fun e W' ⟨he, bel⟩ => ?_
 subst he
 exact ⟨_, rfl, _, _, _, [], _, [], hW', trodAll_mk1 (shut_bool Tryz.underlying4 _), (trodAll_cons_mk (Below.trod laidOut (by kernel_rfl) (of_decide_eq_true (by kernel_rfl)) h0 bel lt0) (trodAll_cons_mk (Below.trod laidOut (by kernel_rfl) (of_decide_eq_true (by kernel_rfl)) h1 bel lt1) trodAll_mk0)), rfl, bel.frame _, fun h => by cases h⟩
theorem over : Rows.hostFollowsRow.holds Tryz.pinned (OpenSpec.ofChange Rows.hostFollowsSpec) :=
 OpenClaim.holds_of_wide 6 Tryz.f6 rfl rfl rfl rfl rfl rfl rfl ⟨rfl, rfl, rfl, rfl, rfl⟩ rfl rfl rfl rfl rfl (by kernel_rfl) Tryz.func6 facts
  (of_decide_eq_true (by kernel_rfl)) (by unfold Func.isWrapper; first | (rw [if_pos (by decide +kernel)]; kernel_rfl) | (rw [if_neg (by decide +kernel)]; exact ⟨rfl, rfl⟩))
  (fun os started H enc _ => lifted os started H enc)
theorem proved : Rows.HostFollowsSaid := over
#print axioms proved
end hostFollows
end Go.Proofs.YthiddmncjafklaaGreat
