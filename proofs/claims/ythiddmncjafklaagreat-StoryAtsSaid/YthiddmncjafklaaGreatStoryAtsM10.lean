/- StoryAts: whatever story, number and orders are handed in, Check, At and More answer what the document says. No condition. -/
import Derived.Test.YthiddmncjafklaaGreatStoryAtsM9
import Derived.Test.YthiddmncjafklaaGreatStoryAtsM1
import Derived.Test.YthiddmncjafklaaGreatChecked
import Derived.Test.YthiddmncjafklaaGreatRows
namespace Go.Proofs.YthiddmncjafklaaGreat
set_option linter.all false
open Go.RowKit Go.ChangeShapes Go.WideShapes Go.ChangeAt
set_option maxRecDepth 100000
def fldP (f : Fld) : List PV := [pI f.w, pI f.h, .sl 1 (f.p.map i64P)]
theorem opInts (w : World) : OpA Tryz.prog 22 1 w (fun xs : List Int => [.sl 1 (xs.map i64P)]) (fun xs => (∀ x ∈ xs, In64 x) ∧ xs.length * 8 ≤ 140737488351232 ∧ xs.length ≤ 9223372036854775807) :=
 OpA.slice Tryz.underlying22 (by kernel_rfl) (by decide) (by kernel_rfl) (OpA.i64 Tryz.underlying3)
theorem opCel (w : World) : OpA Tryz.prog 85 2 w celP (fun c => In64 c.x ∧ In64 c.y) :=
 (OpA.struct Tryz.underlying85 (by kernel_rfl) (OpAF.cons rfl rfl (OpA.i64 Tryz.underlying3) (OpAF.cons rfl rfl (OpA.i64 Tryz.underlying3) OpAF.nil))).map (fun x => ⟨x.1, x.2.1⟩) (fun _ => rfl) (fun _ h => ⟨h.1, h.2.1⟩)
theorem opFld (w : World) : OpA Tryz.prog 24 3 w fldP (fun f => In64 f.w ∧ In64 f.h ∧ (∀ x ∈ f.p, In64 x) ∧ f.p.length * 8 ≤ 140737488351232 ∧ f.p.length ≤ 9223372036854775807) :=
 (OpA.struct Tryz.underlying24 (by kernel_rfl) (OpAF.cons rfl rfl (OpA.i64 Tryz.underlying3) (OpAF.cons rfl rfl (OpA.i64 Tryz.underlying3) (OpAF.cons rfl rfl (opInts w) OpAF.nil)))).map (fun x => ⟨x.1, x.2.1, x.2.2.1⟩) (fun _ => rfl) (fun _ h => ⟨h.1, h.2.1, h.2.2.1⟩)
end Go.Proofs.YthiddmncjafklaaGreat
namespace Go.Proofs.YthiddmncjafklaaGreat
set_option linter.all false
open Go.RowKit Go.ChangeShapes Go.WideShapes Go.ChangeAt
set_option maxRecDepth 100000
def wldP (w : Wld) : List PV := [pI w.f.w, pI w.f.h, .sl 1 (w.f.p.map i64P), .sl 2 (w.bases.map celP), .sl 1 (w.stocks.map i64P), .sl 1 (w.mines.map i64P), .sl 7 (w.troops.map trpP), pI w.next, pI w.now]
def trpG (t : Trp) : Prop := In64 t.id ∧ In64 t.owner ∧ In64 t.kind ∧ In64 t.c.x ∧ In64 t.c.y ∧ In64 t.life ∧ In64 t.load
def wldG (w : Wld) : Prop := wldL w ∧ In64 w.f.w ∧ In64 w.f.h ∧ (∀ x ∈ w.f.p, In64 x) ∧ (∀ x ∈ w.bases, In64 x.x ∧ In64 x.y) ∧ (∀ x ∈ w.stocks, In64 x) ∧ (∀ x ∈ w.mines, In64 x) ∧ (∀ x ∈ w.troops, trpG x) ∧ In64 w.next ∧ In64 w.now
theorem opTrp (w : World) : OpA Tryz.prog 89 7 w trpP trpG :=
 (OpA.struct Tryz.underlying89 (by kernel_rfl) (OpAF.cons rfl rfl (OpA.i64 Tryz.underlying3) (OpAF.cons rfl rfl (OpA.i64 Tryz.underlying3) (OpAF.cons rfl rfl (OpA.i64 Tryz.underlying3) (OpAF.cons rfl rfl (opCel w) (OpAF.cons rfl rfl (OpA.i64 Tryz.underlying3) (OpAF.cons rfl rfl (OpA.i64 Tryz.underlying3) OpAF.nil))))))).map (fun x => ⟨x.1, x.2.1, x.2.2.1, x.2.2.2.1, x.2.2.2.2.1, x.2.2.2.2.2.1⟩) (fun _ => rfl) (fun x h => ⟨h.1, h.2.1, h.2.2.1, h.2.2.2.1.1, h.2.2.2.1.2, h.2.2.2.2.1, h.2.2.2.2.2.1⟩)
theorem opCels (w : World) : OpA Tryz.prog 25 1 w (fun xs : List Cel => [.sl 2 (xs.map celP)]) (fun xs => (∀ x ∈ xs, In64 x.x ∧ In64 x.y) ∧ xs.length * 16 ≤ 140737488351232 ∧ xs.length ≤ 9223372036854775807) :=
 OpA.slice Tryz.underlying25 (by kernel_rfl) (by decide) (by kernel_rfl) (opCel w)
theorem opTrps (w : World) : OpA Tryz.prog 26 1 w (fun xs : List Trp => [.sl 7 (xs.map trpP)]) (fun xs => (∀ x ∈ xs, trpG x) ∧ xs.length * 56 ≤ 140737488351232 ∧ xs.length ≤ 9223372036854775807) :=
 OpA.slice Tryz.underlying26 (by kernel_rfl) (by decide) (by kernel_rfl) (opTrp w)
theorem opWld (w : World) : OpA Tryz.prog 28 9 w wldP wldG :=
 (OpA.struct Tryz.underlying28 (by kernel_rfl) (OpAF.cons rfl rfl (opFld w) (OpAF.cons rfl rfl (opCels w) (OpAF.cons rfl rfl (opInts w) (OpAF.cons rfl rfl (opInts w) (OpAF.cons rfl rfl (opTrps w) (OpAF.cons rfl rfl (OpA.i64 Tryz.underlying3) (OpAF.cons rfl rfl (OpA.i64 Tryz.underlying3) OpAF.nil)))))))).map (fun x => ⟨x.1, x.2.1, x.2.2.1, x.2.2.2.1, x.2.2.2.2.1, x.2.2.2.2.2.1, x.2.2.2.2.2.2.1⟩) (fun _ => rfl)
  (fun x h => ⟨⟨h.1.2.2.2.2, h.2.1.2.2, h.2.2.1.2.2, h.2.2.2.1.2.2, h.2.2.2.2.1.2.2⟩, h.1.1, h.1.2.1, h.1.2.2.1, h.2.1.1, h.2.2.1.1, h.2.2.2.1.1, h.2.2.2.2.1.1, h.2.2.2.2.2.1, h.2.2.2.2.2.2.1⟩)
end Go.Proofs.YthiddmncjafklaaGreat
namespace Go.Proofs.YthiddmncjafklaaGreat
set_option linter.all false
open Go.RowKit Go.ChangeShapes Go.WideShapes Go.ChangeAt
set_option maxRecDepth 100000
theorem opOrd (w : World) : OpA Tryz.prog 96 6 w ordP (fun _ => True) :=
 (OpA.struct Tryz.underlying96 (by kernel_rfl) (OpAF.cons rfl rfl (OpA.i64 Tryz.underlying3) (OpAF.cons rfl rfl (OpA.i64 Tryz.underlying3) (OpAF.cons rfl rfl (OpA.i64 Tryz.underlying3) (OpAF.cons rfl rfl (opCel w) (OpAF.cons rfl rfl (OpA.i64 Tryz.underlying3) OpAF.nil)))))).map (fun x => ⟨x.1, x.2.1, x.2.2.1, x.2.2.2.1, x.2.2.2.2.1⟩) (fun _ => rfl) (fun _ _ => trivial)
theorem opOrds (w : World) : OpA Tryz.prog 29 1 w ordsP (fun xs => (∀ x ∈ xs, True) ∧ xs.length * 48 ≤ 140737488351232 ∧ xs.length ≤ 9223372036854775807) :=
 OpA.slice Tryz.underlying29 (by kernel_rfl) (by decide) (by kernel_rfl) (opOrd w)
def ordssG (ts : List (List Ord)) : Prop := (∀ l ∈ ts, (∀ x ∈ l, True) ∧ l.length * 48 ≤ 140737488351232 ∧ l.length ≤ 9223372036854775807) ∧ ts.length * 24 ≤ 140737488351232 ∧ ts.length ≤ 9223372036854775807
theorem ordssG.in_ {ts : List (List Ord)} (h : ordssG ts) : ∀ l ∈ ts, l.length ≤ 9223372036854775807 := fun l hl => (h.1 l hl).2.2
theorem opOrdss (w : World) : OpA Tryz.prog 39 1 w (fun ts : List (List Ord) => [.sl 1 (ts.map ordsP)]) ordssG :=
 OpA.slice Tryz.underlying39 (by kernel_rfl) (by decide) (by kernel_rfl) (opOrds w)
end Go.Proofs.YthiddmncjafklaaGreat
namespace Go.Proofs.YthiddmncjafklaaGreat
set_option linter.all false
open Go.RowKit Go.ChangeShapes Go.WideShapes Go.ChangeAt
namespace storyAts
set_option maxRecDepth 100000
set_option maxHeartbeats 1000000
section
variable (s : Sty) (n : Int) (l : List Ord) (WR : Cel → List Int) (hWR : ∀ a, FloodIs s.start.f [a] (WR a)) (hl : StyL s) (hll : l.length ≤ 9223372036854775807)
include hWR hl hll
theorem law_a (hE : styE WR s ≠ 0) : Spec Tryz.prog 5 [styA s, I .i64 n, .c (.sl 6 (l.map ordP))] [] (B true) [] := by
 have A := sat_s s n WR hWR hl
 rw [show atE WR s n = styE WR s from if_pos hE, show atW WR s n = default from if_neg (by rw [show atE WR s n = styE WR s from if_pos hE]; exact hE)] at A
 have M := smore_s s l WR hWR hl hll
 have R := rmore_s s l WR hWR hl hll
 have SS := sameSty_s _ (moreS_l s l WR hl hll)
 have C := scheck_st s WR hWR hl
 have SR := sright_st s WR hWR hl
 have SW := sameWorld_s default default wldD_l wldD_l
 generalize moreS WR s l = m at *
 generalize moreE WR s l = f at *
 generalize hE0 : styE WR s = e at *
 refine spec_am Tryz.func5 rfl rfl mix 85 rfl [.tmp 6] Tryz.results5 (Nat.le_of_ble_eq_true rfl) ?_
 (try (refine xst ?_; try exact xtI))
 refine caP (A) ?_
 (try (refine xst ?_; try exact xtI))
 refine caP (M) ?_
 (try (refine xst ?_; try exact xtI))
 refine caP (R) ?_
 (try (refine xst ?_; try exact xtI))
 refine caP (SR) ?_
 (try (refine xst ?_; try exact xtI))
 refine gcP (fun hcc => between_s n 0 s.turns.length) ?_
 (try (refine xst ?_; try exact xtI))
 refine cond_i (fun h1 => ?_) (fun h1 => ?_)
 ·(try replace h1 := xhh h1)
  exact absurd h1.1 hE
 ·(try replace h1 := xhh h1)
  (try (refine xst ?_; try exact xtI))
  refine cond_i (fun h2 => ?_) (fun h2 => ?_)
  ·(try replace h2 := xhh h2)
   exact absurd h2 hE
  ·(try replace h2 := xhh h2)
   (try (refine xst ?_; try exact xtI))
   refine caP (C) ?_
   (try (refine xst ?_; try exact xtI))
   refine gcallP (fun hcc => SW) (by refine ⟨Wk.agg ?_, Wk.agg ?_, trivial⟩ <;> (repeat' (first | exact trivial | exact Wk.refl _ | exact Wk.nil _ | refine ⟨?_, ?_⟩))) (by intro hc; (try simp (etaStruct := .none) only [push_cast, DrawG, Int.cast_ofNat_Int, seval]); (try simp_all)) ?_
   (try (refine xst ?_; try exact xtI))
   refine gcP (fun hcc => SS) ?_
   (try (refine xst ?_; try exact xtI))
   exact xrz rfl
theorem law_b (hE : styE WR s = 0) (hn : n < 0 ∨ (s.turns.length : Int) < n) : Spec Tryz.prog 5 [styA s, I .i64 n, .c (.sl 6 (l.map ordP))] [] (B true) [] := by
 have A := sat_s s n WR hWR hl
 have eA : atE WR s n = 1 := by unfold atE; rw [if_neg (fun hn => hn hE), if_pos hn]
 rw [eA, show atW WR s n = default from if_neg (by rw [eA]; decide)] at A
 have M := smore_s s l WR hWR hl hll
 have R := rmore_s s l WR hWR hl hll
 have SS := sameSty_s _ (moreS_l s l WR hl hll)
 have C := scheck_st s WR hWR hl
 have SR := sright_st s WR hWR hl
 rw [hE] at C SR
 have SW := sameWorld_s default default wldD_l wldD_l
 have BW := between_s n 0 s.turns.length
 rw [show within n 0 s.turns.length = false from within_f.2 (by omega)] at BW
 generalize moreS WR s l = m at *
 generalize moreE WR s l = f at *
 clear eA hE hn
 refine spec_am Tryz.func5 rfl rfl mix 85 rfl [.tmp 6] Tryz.results5 (Nat.le_of_ble_eq_true rfl) ?_
 (try (refine xst ?_; try exact xtI))
 refine caP (A) ?_
 (try (refine xst ?_; try exact xtI))
 refine caP (M) ?_
 (try (refine xst ?_; try exact xtI))
 refine caP (R) ?_
 (try (refine xst ?_; try exact xtI))
 refine caP (SR) ?_
 (try (refine xst ?_; try exact xtI))
 refine gcP (fun hcc => BW) ?_
 (try (refine xst ?_; try exact xtI))
 refine cond_i (fun h1 => ?_) (fun h1 => ?_)
 ·(try replace h1 := xhh h1)
  (try (refine xst ?_; try exact xtI))
  refine cond_i (fun h2 => ?_) (fun h2 => ?_)
  ·(try replace h2 := xhh h2)
   simp at h2
  ·(try replace h2 := xhh h2)
   (try (refine xst ?_; try exact xtI))
   refine caP (C) ?_
   (try (refine xst ?_; try exact xtI))
   refine gcallP (fun hcc => SW) (by refine ⟨Wk.agg ?_, Wk.agg ?_, trivial⟩ <;> (repeat' (first | exact trivial | exact Wk.refl _ | exact Wk.nil _ | refine ⟨?_, ?_⟩))) (by intro hc; (try simp (etaStruct := .none) only [push_cast, DrawG, Int.cast_ofNat_Int, seval]); (try simp_all)) ?_
   (try (refine xst ?_; try exact xtI))
   refine gcP (fun hcc => SS) ?_
   (try (refine xst ?_; try exact xtI))
   exact xrz rfl
 ·(try replace h1 := xhh h1)
  simp at h1
theorem law_c (hE : styE WR s = 0) (hn : ¬ (n < 0 ∨ (s.turns.length : Int) < n)) : Spec Tryz.prog 5 [styA s, I .i64 n, .c (.sl 6 (l.map ordP))] [] (B true) [] := by
 have A := sat_s s n WR hWR hl
 have eA : atE WR s n = 0 := by unfold atE; rw [if_neg (fun hn => hn hE), if_neg hn]
 have eW : atW WR s n = runW WR (s.turns.take n.toNat) s.start := if_pos eA
 rw [eA, eW] at A
 have M := smore_s s l WR hWR hl hll
 have R := rmore_s s l WR hWR hl hll
 have SS := sameSty_s _ (moreS_l s l WR hl hll)
 have C := scheck_st s WR hWR hl
 have SR := sright_st s WR hWR hl
 rw [hE] at C SR
 have e0 := runRE_take n.toNat hE
 have e1 : runRW WR (s.turns.take n.toNat) s.start = runW WR (s.turns.take n.toNat) s.start := if_pos e0
 have T := rrun_s s.start (s.turns.take n.toNat) WR hWR hl.w (fun l h => hl.t l (List.mem_of_mem_take h))
 have hL := runRW_l (ts := s.turns.take n.toNat) hWR
 rw [e0, e1] at T
 rw [e1] at hL
 have SW := sameWorld_s _ _ hL hL
 rw [decide_eq_true rfl] at SW
 have BW := between_s n 0 s.turns.length
 rw [show within n 0 s.turns.length = true from within_iff.2 (by omega)] at BW
 have ht : (s.turns.map ordsP).take n.toNat = (s.turns.take n.toNat).map ordsP := List.map_take.symm
 generalize runW WR (s.turns.take n.toNat) s.start = x at *
 generalize moreS WR s l = m at *
 generalize moreE WR s l = f at *
 clear eA eW hE e0 e1
 refine spec_am Tryz.func5 rfl rfl mix 85 rfl [.tmp 6] Tryz.results5 (Nat.le_of_ble_eq_true rfl) ?_
 (try (refine xst ?_; try exact xtI))
 refine caP (A) ?_
 (try (refine xst ?_; try exact xtI))
 refine caP (M) ?_
 (try (refine xst ?_; try exact xtI))
 refine caP (R) ?_
 (try (refine xst ?_; try exact xtI))
 refine caP (SR) ?_
 (try (refine xst ?_; try exact xtI))
 refine gcP (fun hcc => BW) ?_
 (try (refine xst ?_; try exact xtI))
 refine cond_i (fun h1 => ?_) (fun h1 => ?_)
 ·(try replace h1 := xhh h1)
  simp at h1
 ·(try replace h1 := xhh h1)
  (try (refine xst ?_; try exact xtI))
  refine cond_i (fun h2 => ?_) (fun h2 => ?_)
  ·(try replace h2 := xhh h2)
   (iterate 2 ((try simp (etaStruct := .none) only [push_cast, DrawG, Int.cast_ofNat_Int, seval, ht]); (try (refine xsu ?_; try exact xtI))))
   refine caP (T) ?_
   (iterate 2 ((try simp (etaStruct := .none) only [push_cast, DrawG, Int.cast_ofNat_Int, seval, ht]); (try (refine xsu ?_; try exact xtI))))
   (try (refine ⟨by kernel_rfl, ?_⟩))
   (iterate 2 ((try simp (etaStruct := .none) only [push_cast, DrawG, Int.cast_ofNat_Int, seval, ht]); (try (refine xsu ?_; try exact xtI))))
   refine caP (C) ?_
   (iterate 2 ((try simp (etaStruct := .none) only [push_cast, DrawG, Int.cast_ofNat_Int, seval, ht]); (try (refine xsu ?_; try exact xtI))))
   refine gcP (fun hcc => SW) ?_
   (iterate 2 ((try simp (etaStruct := .none) only [push_cast, DrawG, Int.cast_ofNat_Int, seval, ht]); (try (refine xsu ?_; try exact xtI))))
   refine gcP (fun hcc => SS) ?_
   (iterate 2 ((try simp (etaStruct := .none) only [push_cast, DrawG, Int.cast_ofNat_Int, seval, ht]); (try (refine xsu ?_; try exact xtI))))
   clear ht
   exact xrz rfl
  ·(try replace h2 := xhh h2)
   simp at h2
end
theorem law (s : Sty) (n : Int) (l : List Ord) (h1 : wldG s.start ∧ ordssG s.turns) (_ : In64 n) (h0 : (∀ x ∈ l, True) ∧ l.length * 48 ≤ 140737488351232 ∧ l.length ≤ 9223372036854775807) : Spec Tryz.prog 5 [styA s, I .i64 n, .c (.sl 6 (l.map ordP))] [] (B true) [] := by
 obtain ⟨WR, hWR⟩ := wr_ex s.start.f
 have hl : StyL s := ⟨h1.1.1, h1.2.in_, h1.2.2.2⟩
 by_cases hE : styE WR s = 0
 ·by_cases hn : n < 0 ∨ (s.turns.length : Int) < n
  ·exact law_b s n l WR hWR hl h0.2.2 hE hn
  ·exact law_c s n l WR hWR hl h0.2.2 hE hn
 ·exact law_a s n l WR hWR hl h0.2.2 hE
theorem opSty (w : World) : OpA Tryz.prog 47 10 w (fun s : Sty => [pI s.start.f.w, pI s.start.f.h, .sl 1 (s.start.f.p.map i64P), .sl 2 (s.start.bases.map celP), .sl 1 (s.start.stocks.map i64P), .sl 1 (s.start.mines.map i64P), .sl 7 (s.start.troops.map trpP), pI s.start.next, pI s.start.now, .sl 1 (s.turns.map ordsP)]) (fun s => wldG s.start ∧ ordssG s.turns) :=
 (OpA.struct Tryz.underlying47 (by kernel_rfl) (OpAF.cons rfl rfl (opWld w) (OpAF.cons rfl rfl (opOrdss w) OpAF.nil))).map (fun x => ⟨x.1, x.2.1⟩) (fun _ => rfl) (fun _ h => ⟨h.1, h.2.1⟩)
theorem own : ownKnob Tryz.prog.godebug = none := by kernel_rfl
theorem laidOut : laidOutB Tryz.prog = true := by kernel_rfl
set_option maxRecDepth 100000 in
theorem lifted (os : Os) (started : os.Started) (H : Type) (enc : TypeId × Value → H) :
 ReturnsInHanded {} Tryz.checked os 5 .any (Rows.storyAtsSpec.pre6 enc Tryz.prog Tryz.f5 Rows.storyAtsRow.domain false) (Rows.storyAtsSpec.post enc Tryz.prog Tryz.f5 false true false false) := by
 refine returnsInHanded_of_change_sized (C := Tryz.checked) own started (by kernel_rfl) Tryz.func5
  (ChangeSpec.witness6 (enc := enc) (C := Tryz.checked) false ⟨#[], #[.agg #[.int .i64 0, .int .i64 0, .slice none 0 0, .slice none 0 0, .slice none 0 0, .slice none 0 0, .slice none 0 0, .int .i64 0, .int .i64 0, .slice none 0 0], .int .i64 0, .slice none 0 0], []⟩ 8 (by kernel_rfl) (by kernel_rfl) (by kernel_rfl) (by kernel_rfl)) ?_
 intro W base args ds gs before hval0 hW hcnd hsz0 _
 have hval : ∀ (j : Nat) t v, Tryz.f5.params[j]? = some t → args[j]? = some v → Value.okWide Tryz.prog W .any base t v := hval0
 have hW' := hW
 obtain ⟨p, q, hA0, hV, rfl, hfz, hnd⟩ := hW
 have hA : DataW.TrodAll enc Tryz.prog W 0 (fun _ => true) true Tryz.f5.params.toList args.toList ds p := hA0
 rw [Tryz.params5] at hA hval hsz0
 obtain ⟨v0, vs0, d0, ds0, p0, q0, hargs, rfl, rfl, h0, r0⟩ := trodAll_cons hA
 obtain ⟨v1, vs1, d1, ds1, p1, q1, rfl, rfl, rfl, h1, r1⟩ := trodAll_cons r0
 obtain ⟨v2, vs2, d2, ds2, p2, q2, rfl, rfl, rfl, h2, r2⟩ := trodAll_cons r1
 obtain ⟨rfl, rfl, rfl⟩ := trodAll_nil r2
 obtain rfl : args = #[v0, v1, v2] := by cases args; simp_all
 obtain ⟨rfl, rfl⟩ := trodVars_none hV
 have lt0 : ∀ x ∈ p0, x.block < W.heap.size := by obtain ⟨m, hm⟩ := h0; exact DataW.trod_lt m _ _ _ hm
 obtain ⟨x0, ok0, l0, q0r⟩ := OpA.arg (opSty W) h0 hsz0 0 rfl rfl
 have R0 := rel_agg (arg_struct (hval 0 47 v0 rfl rfl) Tryz.underlying47 rfl) l0 q0r
 have lt1 : ∀ x ∈ p1, x.block < W.heap.size := by obtain ⟨m, hm⟩ := h1; exact DataW.trod_lt m _ _ _ hm
 obtain ⟨x1, ok1, l1, q1r⟩ := OpA.arg (OpA.i64 Tryz.underlying3) h1 hsz0 1 rfl rfl
 have R1 := rel_one (one_int Tryz.underlying3 (hval 1 3 v1 rfl rfl)) q1r
 have lt2 : ∀ x ∈ p2, x.block < W.heap.size := by obtain ⟨m, hm⟩ := h2; exact DataW.trod_lt m _ _ _ hm
 obtain ⟨x2, ok2, l2, q2r⟩ := OpA.arg (opOrds W) h2 hsz0 2 rfl rfl
 have R2 := rel_one (one_slice Tryz.underlying29 (hval 2 29 v2 rfl rfl)) q2r
 clear hA0 hval0
 refine (spec_law (law x0 x1 x2 ok0 ok1 ok2) (relL_cons R0 (relL_cons R1 (relL_cons R2 relL_nil)))).mono fun e W' ⟨he, bel⟩ => ?_
 subst he
 exact ⟨_, rfl, _, _, _, [], _, [], hW', trodAll_mk1 (shut_bool Tryz.underlying4 _), (trodAll_cons_mk (Below.trod laidOut (by kernel_rfl) (of_decide_eq_true (by kernel_rfl)) h0 bel lt0) (trodAll_cons_mk (Below.trod laidOut (by kernel_rfl) (of_decide_eq_true (by kernel_rfl)) h1 bel lt1) (trodAll_cons_mk (Below.trod laidOut (by kernel_rfl) (of_decide_eq_true (by kernel_rfl)) h2 bel lt2) trodAll_mk0))), rfl, bel.frame _, fun h => by cases h⟩
theorem over : Rows.storyAtsRow.holds Tryz.pinned (OpenSpec.ofChange Rows.storyAtsSpec) :=
 OpenClaim.holds_of_wide 5 Tryz.f5 rfl rfl rfl rfl rfl rfl rfl ⟨rfl, rfl, rfl, rfl, rfl⟩ rfl rfl rfl rfl rfl (by kernel_rfl) Tryz.func5 facts
  (of_decide_eq_true (by kernel_rfl)) (by unfold Func.isWrapper; first | (rw [if_pos (by decide +kernel)]; kernel_rfl) | (rw [if_neg (by decide +kernel)]; exact ⟨rfl, rfl⟩))
  (fun os started H enc _ => lifted os started H enc)
theorem proved : Rows.StoryAtsSaid := over
#print axioms proved
end storyAts
end Go.Proofs.YthiddmncjafklaaGreat
