/- MarchSays: whatever is handed in, Step and Reach answer what the document says. No condition. -/
import Derived.Test.YtehcnnodkhcgfaaMarchSaysM9
import Derived.Test.YtehcnnodkhcgfaaMarchSaysM1
import Derived.Test.YtehcnnodkhcgfaaChecked
import Derived.Test.YtehcnnodkhcgfaaRows
namespace Go.Proofs.Ytehcnnodkhcgfaa
set_option linter.all false
open Go.RowKit Go.ChangeShapes Go.WideShapes Go.ChangeAt
set_option maxRecDepth 100000
def fldP (f : Fld) : List PV := [pI f.w, pI f.h, .sl 1 (f.p.map i64P)]
theorem opInts (w : World) : OpA Try.prog 63 1 w (fun xs : List Int => [.sl 1 (xs.map i64P)]) (fun xs => (∀ x ∈ xs, In64 x) ∧ xs.length * 8 ≤ 140737488351232 ∧ xs.length ≤ 9223372036854775807) :=
  OpA.slice Try.underlying63 (by kernel_rfl) (by decide) (by kernel_rfl) (OpA.i64 Try.underlying3)
theorem opCel (w : World) : OpA Try.prog 25 2 w celP (fun c => In64 c.x ∧ In64 c.y) :=
  (OpA.struct Try.underlying25 (by kernel_rfl) (OpAF.cons rfl rfl (OpA.i64 Try.underlying3) (OpAF.cons rfl rfl (OpA.i64 Try.underlying3) OpAF.nil))).map (fun x => ⟨x.1, x.2.1⟩) (fun _ => rfl) (fun _ h => ⟨h.1, h.2.1⟩)
theorem opFld (w : World) : OpA Try.prog 65 3 w fldP (fun f => In64 f.w ∧ In64 f.h ∧ (∀ x ∈ f.p, In64 x) ∧ f.p.length * 8 ≤ 140737488351232 ∧ f.p.length ≤ 9223372036854775807) :=
  (OpA.struct Try.underlying65 (by kernel_rfl) (OpAF.cons rfl rfl (OpA.i64 Try.underlying3) (OpAF.cons rfl rfl (OpA.i64 Try.underlying3) (OpAF.cons rfl rfl (opInts w) OpAF.nil)))).map (fun x => ⟨x.1, x.2.1, x.2.2.1⟩) (fun _ => rfl) (fun _ h => ⟨h.1, h.2.1, h.2.2.1⟩)
end Go.Proofs.Ytehcnnodkhcgfaa
namespace Go.Proofs.Ytehcnnodkhcgfaa
set_option linter.all false
open Go.RowKit Go.ChangeShapes Go.WideShapes Go.ChangeAt
set_option maxRecDepth 100000
def wldP (w : Wld) : List PV := [pI w.f.w, pI w.f.h, .sl 1 (w.f.p.map i64P), .sl 2 (w.bases.map celP), .sl 1 (w.stocks.map i64P), .sl 1 (w.mines.map i64P), .sl 7 (w.troops.map trpP), pI w.next, pI w.now]
def trpG (t : Trp) : Prop := In64 t.id ∧ In64 t.owner ∧ In64 t.kind ∧ In64 t.c.x ∧ In64 t.c.y ∧ In64 t.life ∧ In64 t.load
def wldG (w : Wld) : Prop := wldL w ∧ In64 w.f.w ∧ In64 w.f.h ∧ (∀ x ∈ w.f.p, In64 x) ∧ (∀ x ∈ w.bases, In64 x.x ∧ In64 x.y) ∧ (∀ x ∈ w.stocks, In64 x) ∧ (∀ x ∈ w.mines, In64 x) ∧ (∀ x ∈ w.troops, trpG x) ∧ In64 w.next ∧ In64 w.now
theorem opTrp (w : World) : OpA Try.prog 103 7 w trpP trpG :=
  (OpA.struct Try.underlying103 (by kernel_rfl) (OpAF.cons rfl rfl (OpA.i64 Try.underlying3) (OpAF.cons rfl rfl (OpA.i64 Try.underlying3) (OpAF.cons rfl rfl (OpA.i64 Try.underlying3) (OpAF.cons rfl rfl (opCel w) (OpAF.cons rfl rfl (OpA.i64 Try.underlying3) (OpAF.cons rfl rfl (OpA.i64 Try.underlying3) OpAF.nil))))))).map (fun x => ⟨x.1, x.2.1, x.2.2.1, x.2.2.2.1, x.2.2.2.2.1, x.2.2.2.2.2.1⟩) (fun _ => rfl) (fun x h => ⟨h.1, h.2.1, h.2.2.1, h.2.2.2.1.1, h.2.2.2.1.2, h.2.2.2.2.1, h.2.2.2.2.2.1⟩)
theorem opCels (w : World) : OpA Try.prog 66 1 w (fun xs : List Cel => [.sl 2 (xs.map celP)]) (fun xs => (∀ x ∈ xs, In64 x.x ∧ In64 x.y) ∧ xs.length * 16 ≤ 140737488351232 ∧ xs.length ≤ 9223372036854775807) :=
  OpA.slice Try.underlying66 (by kernel_rfl) (by decide) (by kernel_rfl) (opCel w)
theorem opTrps (w : World) : OpA Try.prog 89 1 w (fun xs : List Trp => [.sl 7 (xs.map trpP)]) (fun xs => (∀ x ∈ xs, trpG x) ∧ xs.length * 56 ≤ 140737488351232 ∧ xs.length ≤ 9223372036854775807) :=
  OpA.slice Try.underlying89 (by kernel_rfl) (by decide) (by kernel_rfl) (opTrp w)
theorem opWld (w : World) : OpA Try.prog 91 9 w wldP wldG :=
  (OpA.struct Try.underlying91 (by kernel_rfl) (OpAF.cons rfl rfl (opFld w) (OpAF.cons rfl rfl (opCels w) (OpAF.cons rfl rfl (opInts w) (OpAF.cons rfl rfl (opInts w) (OpAF.cons rfl rfl (opTrps w) (OpAF.cons rfl rfl (OpA.i64 Try.underlying3) (OpAF.cons rfl rfl (OpA.i64 Try.underlying3) OpAF.nil)))))))).map (fun x => ⟨x.1, x.2.1, x.2.2.1, x.2.2.2.1, x.2.2.2.2.1, x.2.2.2.2.2.1, x.2.2.2.2.2.2.1⟩) (fun _ => rfl)
    (fun x h => ⟨⟨h.1.2.2.2.2, h.2.1.2.2, h.2.2.1.2.2, h.2.2.2.1.2.2, h.2.2.2.2.1.2.2⟩, h.1.1, h.1.2.1, h.1.2.2.1, h.2.1.1, h.2.2.1.1, h.2.2.2.1.1, h.2.2.2.2.1.1, h.2.2.2.2.2.1, h.2.2.2.2.2.2.1⟩)
end Go.Proofs.Ytehcnnodkhcgfaa
namespace Go.Proofs.Ytehcnnodkhcgfaa
set_option linter.all false
open Go.RowKit Go.ChangeShapes Go.WideShapes Go.ChangeAt
namespace marchSays
set_option maxRecDepth 100000
set_option maxHeartbeats 2000000
theorem opGo (w : World) : OpA Try.prog 240 3 w gopP (fun _ => True) :=
  (OpA.struct Try.underlying240 (by kernel_rfl) (OpAF.cons rfl rfl (OpA.i64 Try.underlying3) (OpAF.cons rfl rfl (opCel w) OpAF.nil))).map (fun x => ⟨x.1, x.2.1⟩) (fun _ => rfl) (fun _ _ => trivial)
theorem opGos (w : World) : OpA Try.prog 117 1 w (fun xs : List Gop => [.sl 3 (xs.map gopP)]) (fun xs => (∀ x ∈ xs, True) ∧ xs.length * 24 ≤ 140737488351232 ∧ xs.length ≤ 9223372036854775807) :=
  OpA.slice Try.underlying117 (by kernel_rfl) (by decide) (by kernel_rfl) (opGo w)
theorem law (w : Wld) (l : List Gop) (id : Int) (to : Cel) (n : Int) (h1 : wldG w) (h0 : (∀ x ∈ l, True) ∧ l.length * 24 ≤ 140737488351232 ∧ l.length ≤ 9223372036854775807) (_ : In64 id) (_ : In64 to.x ∧ In64 to.y) (_ : In64 n) : Spec Try.prog 12 [wldA w, .c (.sl 3 (l.map gopP)), I .i64 id, celA to, I .i64 n] [] (B true) [] := by
  obtain ⟨WR, hWR⟩ := wr_ex w.f
  exact law0 w l id to n WR hWR h1.1 h0.2.2
theorem own : ownKnob Try.prog.godebug = none := by kernel_rfl
theorem laidOut : laidOutB Try.prog = true := by kernel_rfl
set_option maxRecDepth 100000 in
theorem lifted (os : Os) (started : os.Started) (H : Type) (enc : TypeId × Value → H) :
    ReturnsInHanded {} Try.checked os 12 .any (Rows.marchSaysSpec.pre6 enc Try.prog Try.f12 Rows.marchSaysRow.domain false) (Rows.marchSaysSpec.post enc Try.prog Try.f12 false true false false) := by
  refine returnsInHanded_of_change_sized (C := Try.checked) own started (by kernel_rfl) Try.func12
    (ChangeSpec.witness6 (enc := enc) (C := Try.checked) false ⟨#[], #[.agg #[.int .i64 0, .int .i64 0, .slice none 0 0, .slice none 0 0, .slice none 0 0, .slice none 0 0, .slice none 0 0, .int .i64 0, .int .i64 0], .slice none 0 0, .int .i64 0, .agg #[.int .i64 0, .int .i64 0], .int .i64 0], []⟩ 8 (by kernel_rfl) (by kernel_rfl) (by kernel_rfl) (by kernel_rfl)) ?_
  intro W base args ds gs before hval0 hW hcnd hsz0 _
  have hval : ∀ (j : Nat) t v, Try.f12.params[j]? = some t → args[j]? = some v → Value.okWide Try.prog W .any base t v := hval0
  have hW' := hW
  obtain ⟨p, q, hA0, hV, rfl, hfz, hnd⟩ := hW
  have hA : DataW.TrodAll enc Try.prog W 0 (fun _ => true) true Try.f12.params.toList args.toList ds p := hA0
  rw [Try.params12] at hA hval hsz0
  obtain ⟨v0, vs0, d0, ds0, p0, q0, hargs, rfl, rfl, h0, r0⟩ := trodAll_cons hA
  obtain ⟨v1, vs1, d1, ds1, p1, q1, rfl, rfl, rfl, h1, r1⟩ := trodAll_cons r0
  obtain ⟨v2, vs2, d2, ds2, p2, q2, rfl, rfl, rfl, h2, r2⟩ := trodAll_cons r1
  obtain ⟨v3, vs3, d3, ds3, p3, q3, rfl, rfl, rfl, h3, r3⟩ := trodAll_cons r2
  obtain ⟨v4, vs4, d4, ds4, p4, q4, rfl, rfl, rfl, h4, r4⟩ := trodAll_cons r3
  obtain ⟨rfl, rfl, rfl⟩ := trodAll_nil r4
  obtain rfl : args = #[v0, v1, v2, v3, v4] := by cases args; simp_all
  obtain ⟨rfl, rfl⟩ := trodVars_none hV
  have lt0 : ∀ x ∈ p0, x.block < W.heap.size := by obtain ⟨m, hm⟩ := h0; exact DataW.trod_lt m _ _ _ hm
  obtain ⟨x0, ok0, l0, q0r⟩ := OpA.arg (opWld W) h0 hsz0 0 rfl rfl
  have R0 := rel_agg (arg_struct (hval 0 91 v0 rfl rfl) Try.underlying91 rfl) l0 q0r
  have lt1 : ∀ x ∈ p1, x.block < W.heap.size := by obtain ⟨m, hm⟩ := h1; exact DataW.trod_lt m _ _ _ hm
  obtain ⟨x1, ok1, l1, q1r⟩ := OpA.arg (opGos W) h1 hsz0 1 rfl rfl
  have R1 := rel_one (one_slice Try.underlying117 (hval 1 117 v1 rfl rfl)) q1r
  have lt2 : ∀ x ∈ p2, x.block < W.heap.size := by obtain ⟨m, hm⟩ := h2; exact DataW.trod_lt m _ _ _ hm
  obtain ⟨x2, ok2, l2, q2r⟩ := OpA.arg (OpA.i64 Try.underlying3) h2 hsz0 2 rfl rfl
  have R2 := rel_one (one_int Try.underlying3 (hval 2 3 v2 rfl rfl)) q2r
  have lt3 : ∀ x ∈ p3, x.block < W.heap.size := by obtain ⟨m, hm⟩ := h3; exact DataW.trod_lt m _ _ _ hm
  obtain ⟨x3, ok3, l3, q3r⟩ := OpA.arg (opCel W) h3 hsz0 3 rfl rfl
  have R3 := rel_agg (arg_struct (hval 3 25 v3 rfl rfl) Try.underlying25 rfl) l3 q3r
  have lt4 : ∀ x ∈ p4, x.block < W.heap.size := by obtain ⟨m, hm⟩ := h4; exact DataW.trod_lt m _ _ _ hm
  obtain ⟨x4, ok4, l4, q4r⟩ := OpA.arg (OpA.i64 Try.underlying3) h4 hsz0 4 rfl rfl
  have R4 := rel_one (one_int Try.underlying3 (hval 4 3 v4 rfl rfl)) q4r
  clear hA0 hval0
  refine (spec_law (law x0 x1 x2 x3 x4 ok0 ok1 ok2 ok3 ok4) (relL_cons R0 (relL_cons R1 (relL_cons R2 (relL_cons R3 (relL_cons R4 relL_nil)))))).mono fun e W' ⟨he, bel⟩ => ?_
  subst he
  exact ⟨_, rfl, _, _, _, [], _, [], hW', trodAll_mk1 (shut_bool Try.underlying4 _), (trodAll_cons_mk (Below.trod laidOut (by kernel_rfl) (of_decide_eq_true (by kernel_rfl)) h0 bel lt0) (trodAll_cons_mk (Below.trod laidOut (by kernel_rfl) (of_decide_eq_true (by kernel_rfl)) h1 bel lt1) (trodAll_cons_mk (Below.trod laidOut (by kernel_rfl) (of_decide_eq_true (by kernel_rfl)) h2 bel lt2) (trodAll_cons_mk (Below.trod laidOut (by kernel_rfl) (of_decide_eq_true (by kernel_rfl)) h3 bel lt3) (trodAll_cons_mk (Below.trod laidOut (by kernel_rfl) (of_decide_eq_true (by kernel_rfl)) h4 bel lt4) trodAll_mk0))))), rfl, bel.frame _, fun h => by cases h⟩
theorem over : Rows.marchSaysRow.holds Try.pinned (OpenSpec.ofChange Rows.marchSaysSpec) :=
  OpenClaim.holds_of_wide 12 Try.f12 rfl rfl rfl rfl rfl rfl rfl ⟨rfl, rfl, rfl, rfl, rfl⟩ rfl rfl rfl rfl rfl (by kernel_rfl) Try.func12 facts
    (of_decide_eq_true (by kernel_rfl)) (by unfold Func.isWrapper; first | (rw [if_pos (by decide +kernel)]; kernel_rfl) | (rw [if_neg (by decide +kernel)]; exact ⟨rfl, rfl⟩))
    (fun os started H enc _ => lifted os started H enc)
theorem proved : Rows.MarchSaysSaid := over
#print axioms proved
end marchSays
end Go.Proofs.Ytehcnnodkhcgfaa
