/- TickSays: whatever world and orders are handed in, Turn answers what the document says. No condition. -/
import Derived.Test.YthiddmncjafklaaGreatTickSaysM8
import Derived.Test.YthiddmncjafklaaGreatTickSaysM1
import Derived.Test.YthiddmncjafklaaGreatChecked
import Derived.Test.YthiddmncjafklaaGreatRows
namespace Go.Proofs.YthiddmncjafklaaGreat
set_option linter.all false
open Go.RowKit Go.ChangeShapes Go.WideShapes Go.ChangeAt
set_option maxRecDepth 100000
def fldP (f : Fld) : List PV := [pI f.w, pI f.h, .sl 1 (f.p.map i64P)]
theorem opInts (w : World) : OpA Tryz.prog 22 1 w (fun xs : List Int => [.sl 1 (xs.map i64P)]) (fun xs => (∀ x ∈ xs, In64 x) ∧ xs.length * 8 ≤ 140737488351232 ∧ xs.length ≤ 9223372036854775807) :=
 OpA.slice Tryz.underlying22 (by kernel_rfl) (by decide) (by kernel_rfl) (OpA.i64 Tryz.underlying3)
theorem opCel (w : World) : OpA Tryz.prog 85 2 w celP (fun c => In64 c.x ∧ In64 c.y) :=
 (OpA.struct Tryz.underlying85 (by kernel_rfl) (OpAF.cons rfl rfl (OpA.i64 Tryz.underlying3) (OpAF.cons rfl rfl (OpA.i64 Tryz.underlying3) OpAF.nil))).map (fun x => ⟨x.1, x.2.1⟩) (fun _ => rfl) (fun _ h => ⟨h.1, h.2.1⟩)
theorem opFld (w : World) : OpA Tryz.prog 24 3 w fldP (fun f => In64 f.w ∧ In64 f.h ∧ (∀ x ∈ f.p, In64 x) ∧ f.p.length * 8 ≤ 140737488351232 ∧ f.p.length ≤ 9223372036854775807) :=
 (OpA.struct Tryz.underlying24 (by kernel_rfl) (OpAF.cons rfl rfl (OpA.i64 Tryz.underlying3) (OpAF.cons rfl rfl (OpA.i64 Tryz.underlying3) (OpAF.cons rfl rfl (opInts w) OpAF.nil)))).map (fun x => ⟨x.1, x.2.1, x.2.2.1⟩) (fun _ => rfl) (fun _ h => ⟨h.1, h.2.1, h.2.2.1⟩)
end Go.Proofs.YthiddmncjafklaaGreat
namespace Go.Proofs.YthiddmncjafklaaGreat
set_option linter.all false
open Go.RowKit Go.ChangeShapes Go.WideShapes Go.ChangeAt
set_option maxRecDepth 100000
def wldP (w : Wld) : List PV := [pI w.f.w, pI w.f.h, .sl 1 (w.f.p.map i64P), .sl 2 (w.bases.map celP), .sl 1 (w.stocks.map i64P), .sl 1 (w.mines.map i64P), .sl 7 (w.troops.map trpP), pI w.next, pI w.now]
def trpG (t : Trp) : Prop := In64 t.id ∧ In64 t.owner ∧ In64 t.kind ∧ In64 t.c.x ∧ In64 t.c.y ∧ In64 t.life ∧ In64 t.load
def wldG (w : Wld) : Prop := wldL w ∧ In64 w.f.w ∧ In64 w.f.h ∧ (∀ x ∈ w.f.p, In64 x) ∧ (∀ x ∈ w.bases, In64 x.x ∧ In64 x.y) ∧ (∀ x ∈ w.stocks, In64 x) ∧ (∀ x ∈ w.mines, In64 x) ∧ (∀ x ∈ w.troops, trpG x) ∧ In64 w.next ∧ In64 w.now
theorem opTrp (w : World) : OpA Tryz.prog 89 7 w trpP trpG :=
 (OpA.struct Tryz.underlying89 (by kernel_rfl) (OpAF.cons rfl rfl (OpA.i64 Tryz.underlying3) (OpAF.cons rfl rfl (OpA.i64 Tryz.underlying3) (OpAF.cons rfl rfl (OpA.i64 Tryz.underlying3) (OpAF.cons rfl rfl (opCel w) (OpAF.cons rfl rfl (OpA.i64 Tryz.underlying3) (OpAF.cons rfl rfl (OpA.i64 Tryz.underlying3) OpAF.nil))))))).map (fun x => ⟨x.1, x.2.1, x.2.2.1, x.2.2.2.1, x.2.2.2.2.1, x.2.2.2.2.2.1⟩) (fun _ => rfl) (fun x h => ⟨h.1, h.2.1, h.2.2.1, h.2.2.2.1.1, h.2.2.2.1.2, h.2.2.2.2.1, h.2.2.2.2.2.1⟩)
theorem opCels (w : World) : OpA Tryz.prog 25 1 w (fun xs : List Cel => [.sl 2 (xs.map celP)]) (fun xs => (∀ x ∈ xs, In64 x.x ∧ In64 x.y) ∧ xs.length * 16 ≤ 140737488351232 ∧ xs.length ≤ 9223372036854775807) :=
 OpA.slice Tryz.underlying25 (by kernel_rfl) (by decide) (by kernel_rfl) (opCel w)
theorem opTrps (w : World) : OpA Tryz.prog 26 1 w (fun xs : List Trp => [.sl 7 (xs.map trpP)]) (fun xs => (∀ x ∈ xs, trpG x) ∧ xs.length * 56 ≤ 140737488351232 ∧ xs.length ≤ 9223372036854775807) :=
 OpA.slice Tryz.underlying26 (by kernel_rfl) (by decide) (by kernel_rfl) (opTrp w)
theorem opWld (w : World) : OpA Tryz.prog 28 9 w wldP wldG :=
 (OpA.struct Tryz.underlying28 (by kernel_rfl) (OpAF.cons rfl rfl (opFld w) (OpAF.cons rfl rfl (opCels w) (OpAF.cons rfl rfl (opInts w) (OpAF.cons rfl rfl (opInts w) (OpAF.cons rfl rfl (opTrps w) (OpAF.cons rfl rfl (OpA.i64 Tryz.underlying3) (OpAF.cons rfl rfl (OpA.i64 Tryz.underlying3) OpAF.nil)))))))).map (fun x => ⟨x.1, x.2.1, x.2.2.1, x.2.2.2.1, x.2.2.2.2.1, x.2.2.2.2.2.1, x.2.2.2.2.2.2.1⟩) (fun _ => rfl)
  (fun x h => ⟨⟨h.1.2.2.2.2, h.2.1.2.2, h.2.2.1.2.2, h.2.2.2.1.2.2, h.2.2.2.2.1.2.2⟩, h.1.1, h.1.2.1, h.1.2.2.1, h.2.1.1, h.2.2.1.1, h.2.2.2.1.1, h.2.2.2.2.1.1, h.2.2.2.2.2.1, h.2.2.2.2.2.2.1⟩)
end Go.Proofs.YthiddmncjafklaaGreat
namespace Go.Proofs.YthiddmncjafklaaGreat
set_option linter.all false
open Go.RowKit Go.ChangeShapes Go.WideShapes Go.ChangeAt
namespace tickSays
set_option maxRecDepth 100000
set_option maxHeartbeats 1000000
theorem opOrd (w : World) : OpA Tryz.prog 96 6 w ordP (fun _ => True) :=
 (OpA.struct Tryz.underlying96 (by kernel_rfl) (OpAF.cons rfl rfl (OpA.i64 Tryz.underlying3) (OpAF.cons rfl rfl (OpA.i64 Tryz.underlying3) (OpAF.cons rfl rfl (OpA.i64 Tryz.underlying3) (OpAF.cons rfl rfl (opCel w) (OpAF.cons rfl rfl (OpA.i64 Tryz.underlying3) OpAF.nil)))))).map (fun x => ⟨x.1, x.2.1, x.2.2.1, x.2.2.2.1, x.2.2.2.2.1⟩) (fun _ => rfl) (fun _ _ => trivial)
theorem opOrds (w : World) : OpA Tryz.prog 29 1 w (fun xs : List Ord => [.sl 6 (xs.map ordP)]) (fun xs => (∀ x ∈ xs, True) ∧ xs.length * 48 ≤ 140737488351232 ∧ xs.length ≤ 9223372036854775807) :=
 OpA.slice Tryz.underlying29 (by kernel_rfl) (by decide) (by kernel_rfl) (opOrd w)
theorem wld0_l : wldL (default : Wld) := by unfold wldL; decide
theorem turnW_l {w : Wld} {l : List Ord} {WR : Cel → List Int} (hWR : ∀ a, FloodIs w.f [a] (WR a)) : wldL (turnW WR w l) := by
 unfold turnW
 split
 ·rename_i h
  have hs : splitE l w = 0 := by unfold turnE at h; split at h; rename_i h1; exact absurd h h1; rename_i h1; simpa using h1
  have hn : w.now < 1000000 := by unfold turnE at h; rw [if_neg (by simp [hs])] at h; split at h; exact absurd h (by decide); omega
  obtain ⟨ho, hw⟩ := splitE_ok hs
  exact (right_turn (right_of hw) hWR l hn).l
 ·exact wld0_l
theorem law (w : Wld) (l : List Ord) (h1 : wldG w) (h0 : (∀ x ∈ l, True) ∧ l.length * 48 ≤ 140737488351232 ∧ l.length ≤ 9223372036854775807) : Spec Tryz.prog 3 [wldA w, .c (.sl 6 (l.map ordP))] [] (B true) [] := by
 obtain ⟨WR, hWR⟩ := wr_ex w.f
 have T := tturn_s w l WR hWR h1.1 h0.2.2
 have R := rturn_s w l WR hWR h1.1 h0.2.2
 obtain ⟨g1, g2, g3⟩ := turn_lens WR w l
 have hL := turnW_l (l := l) hWR
 generalize turnW WR w l = x at *
 generalize turnGR w l = g at *
 generalize turnMR WR w l = m at *
 generalize turnDR WR w l = d at *
 generalize turnE l w = e at *
 refine spec_am Tryz.func3 rfl rfl mix 38 rfl [.tmp 4] Tryz.results3 (Nat.le_of_ble_eq_true rfl) ?_
 (try (refine xst ?_; try exact xtI))
 refine caP (T) ?_
 (try (refine xst ?_; try exact xtI))
 refine caP (R) ?_
 (try (refine xst ?_; try exact xtI))
 refine caP (sameWorld_s x x hL hL) ?_
 (try (refine xst ?_; try exact xtI))
 refine gcP (fun hcc => sameRep_s g m d g1 g2 g3) ?_
 (try (refine xst ?_; try exact xtI))
 exact xrz rfl
theorem own : ownKnob Tryz.prog.godebug = none := by kernel_rfl
theorem laidOut : laidOutB Tryz.prog = true := by kernel_rfl
set_option maxRecDepth 100000 in
theorem lifted (os : Os) (started : os.Started) (H : Type) (enc : TypeId × Value → H) :
 ReturnsInHanded {} Tryz.checked os 3 .any (Rows.tickSaysSpec.pre6 enc Tryz.prog Tryz.f3 Rows.tickSaysRow.domain false) (Rows.tickSaysSpec.post enc Tryz.prog Tryz.f3 false true false false) := by
 refine returnsInHanded_of_change_sized (C := Tryz.checked) own started (by kernel_rfl) Tryz.func3
  (ChangeSpec.witness6 (enc := enc) (C := Tryz.checked) false ⟨#[], #[.agg #[.int .i64 0, .int .i64 0, .slice none 0 0, .slice none 0 0, .slice none 0 0, .slice none 0 0, .slice none 0 0, .int .i64 0, .int .i64 0], .slice none 0 0], []⟩ 8 (by kernel_rfl) (by kernel_rfl) (by kernel_rfl) (by kernel_rfl)) ?_
 intro W base args ds gs before hval0 hW hcnd hsz0 _
 have hval : ∀ (j : Nat) t v, Tryz.f3.params[j]? = some t → args[j]? = some v → Value.okWide Tryz.prog W .any base t v := hval0
 have hW' := hW
 obtain ⟨p, q, hA0, hV, rfl, hfz, hnd⟩ := hW
 have hA : DataW.TrodAll enc Tryz.prog W 0 (fun _ => true) true Tryz.f3.params.toList args.toList ds p := hA0
 rw [Tryz.params3] at hA hval hsz0
 obtain ⟨v0, vs0, d0, ds0, p0, q0, hargs, rfl, rfl, h0, r0⟩ := trodAll_cons hA
 obtain ⟨v1, vs1, d1, ds1, p1, q1, rfl, rfl, rfl, h1, r1⟩ := trodAll_cons r0
 obtain ⟨rfl, rfl, rfl⟩ := trodAll_nil r1
 obtain rfl : args = #[v0, v1] := by cases args; simp_all
 obtain ⟨rfl, rfl⟩ := trodVars_none hV
 have lt0 : ∀ x ∈ p0, x.block < W.heap.size := by obtain ⟨m, hm⟩ := h0; exact DataW.trod_lt m _ _ _ hm
 obtain ⟨x0, ok0, l0, q0r⟩ := OpA.arg (opWld W) h0 hsz0 0 rfl rfl
 have R0 := rel_agg (arg_struct (hval 0 28 v0 rfl rfl) Tryz.underlying28 rfl) l0 q0r
 have lt1 : ∀ x ∈ p1, x.block < W.heap.size := by obtain ⟨m, hm⟩ := h1; exact DataW.trod_lt m _ _ _ hm
 obtain ⟨x1, ok1, l1, q1r⟩ := OpA.arg (opOrds W) h1 hsz0 1 rfl rfl
 have R1 := rel_one (one_slice Tryz.underlying29 (hval 1 29 v1 rfl rfl)) q1r
 clear hA0 hval0
 refine (spec_law (law x0 x1 ok0 ok1) (relL_cons R0 (relL_cons R1 relL_nil))).mono fun e W' ⟨he, bel⟩ => ?_
 subst he
 exact ⟨_, rfl, _, _, _, [], _, [], hW', trodAll_mk1 (shut_bool Tryz.underlying4 _), (trodAll_cons_mk (Below.trod laidOut (by kernel_rfl) (of_decide_eq_true (by kernel_rfl)) h0 bel lt0) (trodAll_cons_mk (Below.trod laidOut (by kernel_rfl) (of_decide_eq_true (by kernel_rfl)) h1 bel lt1) trodAll_mk0)), rfl, bel.frame _, fun h => by cases h⟩
theorem over : Rows.tickSaysRow.holds Tryz.pinned (OpenSpec.ofChange Rows.tickSaysSpec) :=
 OpenClaim.holds_of_wide 3 Tryz.f3 rfl rfl rfl rfl rfl rfl rfl ⟨rfl, rfl, rfl, rfl, rfl⟩ rfl rfl rfl rfl rfl (by kernel_rfl) Tryz.func3 facts
  (of_decide_eq_true (by kernel_rfl)) (by unfold Func.isWrapper; first | (rw [if_pos (by decide +kernel)]; kernel_rfl) | (rw [if_neg (by decide +kernel)]; exact ⟨rfl, rfl⟩))
  (fun os started H enc _ => lifted os started H enc)
theorem proved : Rows.TickSaysSaid := over
#print axioms proved
end tickSays
end Go.Proofs.YthiddmncjafklaaGreat
