/- Lemmas for the proof of storyAts.proved. -/
import Derived.Test.YthiddmncjafklaaGreatStoryAtsM7
import Derived.Lib.VarintBits
import Derived.Lib.ConvBytes
import Derived.Laws.IdiomStrings
import Derived.Shelf.Strings.Builder1
import Derived.Shelf.Bits.Mul64
import Derived.Test.YthiddmncjafklaaGreatProg
import Derived.Deep.QuietTactic
import Derived.BigQuiet
import Derived.Laws.Concat
import Derived.Lib.Zigzag
import Derived.Laws.BytesString
import Derived.Lib.Varint
import Derived.Deep.RegionHeld3
import Derived.Laws.Externs
import Derived.Laws.IdiomCopy
namespace Go.Proofs.YthiddmncjafklaaGreat
set_option linter.all false
open Go.RowKit
set_option maxRecDepth 100000
set_option maxHeartbeats 2000000
theorem king_s (a b : Cel) (ha : -1000000 ≤ a.x ∧ a.x ≤ 1000000 ∧ -1000000 ≤ a.y ∧ a.y ≤ 1000000) : Spec Tryz.prog 109 [celA a, celA b] [] (B (besB a b)) [] := by
 refine spec_am Tryz.func109 rfl rfl mix 25 rfl [.tmp 4] Tryz.results109 (Nat.le_of_ble_eq_true rfl) ?_
 (try (refine xst ?_; try exact xtI))
 refine caP (between_s b.x (a.x - 1) (a.x + 1)) ?_
 (try (refine xst ?_; try exact xtI))
 refine gcP (fun hcc => between_s b.y (a.y - 1) (a.y + 1)) ?_
 (try (refine xst ?_; try exact xtI))
 (first | (refine retA rfl (Wk.of ?_); (try simp (etaStruct := .none) only [push_cast, DrawG, Int.cast_ofNat_Int, seval]); first | done | (simp [besB, *]; done) | (simp_all [besB]; done)) | (refine retA rfl ?_; (try simp (etaStruct := .none) only [push_cast, DrawG, Int.cast_ofNat_Int, seval]); (try simp [besB, *]); (try exact wkc)))
abbrev dedPV (d : Ded) : List PV := [pI d.kind, pI d.who, pI d.c.x, pI d.c.y, pI d.what]
theorem rdc1_s (t : Trp) (d : Ded) : Spec Tryz.prog 108 ([] ++ [trpA t] ++ [.fel 5 [dedPV d] 0 0]) [] (B (isId d.who t)) [] := by
 refine spec_am Tryz.func108 rfl rfl mix 9 rfl [.tmp 3] Tryz.results108 (Nat.le_of_ble_eq_true rfl) ?_
 (try (refine xst ?_; try exact xtI))
 (first | (refine retA rfl (Wk.of ?_); (try simp (etaStruct := .none) only [push_cast, DrawG, Int.cast_ofNat_Int, seval]); first | done | (simp [isId, *]; done) | (simp_all [isId]; done)) | (refine retA rfl ?_; (try simp (etaStruct := .none) only [push_cast, DrawG, Int.cast_ofNat_Int, seval]); (try simp [isId, *]); (try exact wkc)))
theorem rdc2_s (t : Trp) (c : Cel) : Spec Tryz.prog 110 ([] ++ [trpA t] ++ [.fel 2 [[pI c.x, pI c.y]] 0 0]) [] (B (decide (t.c = c))) [] := by
 refine spec_am Tryz.func110 rfl rfl mix 8 rfl [.tmp 3] Tryz.results110 (Nat.le_of_ble_eq_true rfl) ?_
 (iterate 2 ((try simp (etaStruct := .none) only [push_cast, DrawG, Int.cast_ofNat_Int, seval, cel_dec]); (try (refine xsu ?_; try exact xtI))))
 exact xrz rfl
theorem rd_0 (w : Wld) (d : Ded) (hw : Right w) (h : d.kind ≠ 1 ∧ d.kind ≠ 2 ∧ d.kind ≠ 3) : Spec Tryz.prog 68 [wldA w, dedA d] [] (.tup [wldA w, B false]) [] := by
 have p1 := hw.places
 have p2 := hw.nb
 have p3 := hw.sl
 have p4 := hw.ml
 have p5 := hw.nt
 refine spec_am Tryz.func68 rfl rfl mix 292 rfl [.cell 4 28, .tmp 5] Tryz.results68 (Nat.le_of_ble_eq_true rfl) ?_
 (try (refine xst ?_; try exact xtI))
 refine caM [] (int_clone w.stocks (by omega)) ?_
 (try (refine xst ?_; try exact xtI))
 refine caM [] (int_clone w.mines (by omega)) ?_
 (try (refine xst ?_; try exact xtI))
 refine caM [] (trp_clone w.troops (by omega)) ?_
 (try (refine xst ?_; try exact xtI))
 (try (refine ⟨by kernel_rfl, ?_⟩))
 (try (refine xst ?_; try exact xtI))
 refine callB (trp_ix _ [] [.fel 5 [dedPV d] 0 0] w.troops (isId d.who) (by omega) (fun t _ => rdc1_s t d) (fun _ => rfl) (fun _ => rfl)) (WkL.refl _) rfl ?_
 (try (refine xst ?_; try exact xtI))
 refine cond_i (fun h1 => ?_) (fun h1 => ?_)
 ·(try replace h1 := xhh h1)
  exfalso; omega
 ·(try replace h1 := xhh h1)
  (try (refine xst ?_; try exact xtI))
  refine cond_i (fun h2 => ?_) (fun h2 => ?_)
  ·(try replace h2 := xhh h2)
   exfalso; omega
  ·(try replace h2 := xhh h2)
   (try (refine xst ?_; try exact xtI))
   refine cond_i (fun h3 => ?_) (fun h3 => ?_)
   ·(try replace h3 := xhh h3)
    exfalso; omega
   ·(try replace h3 := xhh h3)
    (try (refine xst ?_; try exact xtI))
    exact xrz rfl
theorem rd_none (w : Wld) (d : Ded) (hw : Right w) (h : d.kind = 1 ∨ d.kind = 2) (hf : w.troops.findIdx? (isId d.who) = none) (hpos : 0 < w.troops.length) : Spec Tryz.prog 68 [wldA w, dedA d] [] (.tup [wldA w, B false]) [] := by
 have p1 := hw.places
 have p2 := hw.nb
 have p3 := hw.sl
 have p4 := hw.ml
 have p5 := hw.nt
 have hz : ixOf (isId d.who) w.troops = -1 := by unfold ixOf; rw [hf]
 have hz2 : (ixOf (isId d.who) w.troops).toNat = 0 := by rw [hz]; rfl
 obtain ⟨o, eo, ho, hs⟩ := own_at hw hpos
 refine spec_am Tryz.func68 rfl rfl mix 292 rfl [.cell 4 28, .tmp 5] Tryz.results68 (Nat.le_of_ble_eq_true rfl) ?_
 (iterate 2 ((try simp (etaStruct := .none) only [push_cast, DrawG, Int.cast_ofNat_Int, seval, hz2, getD_in _ _ _ hpos, trpP, eo, getD_in _ _ _ ho, celP]); (try (refine xsu ?_; try exact xtI))))
 refine caM [] (int_clone w.stocks (by omega)) ?_
 (iterate 2 ((try simp (etaStruct := .none) only [push_cast, DrawG, Int.cast_ofNat_Int, seval, hz2, getD_in _ _ _ hpos, trpP, eo, getD_in _ _ _ ho, celP]); (try (refine xsu ?_; try exact xtI))))
 refine caM [] (int_clone w.mines (by omega)) ?_
 (iterate 2 ((try simp (etaStruct := .none) only [push_cast, DrawG, Int.cast_ofNat_Int, seval, hz2, getD_in _ _ _ hpos, trpP, eo, getD_in _ _ _ ho, celP]); (try (refine xsu ?_; try exact xtI))))
 refine caM [] (trp_clone w.troops (by omega)) ?_
 (iterate 2 ((try simp (etaStruct := .none) only [push_cast, DrawG, Int.cast_ofNat_Int, seval, hz2, getD_in _ _ _ hpos, trpP, eo, getD_in _ _ _ ho, celP]); (try (refine xsu ?_; try exact xtI))))
 (try (refine ⟨by kernel_rfl, ?_⟩))
 (iterate 2 ((try simp (etaStruct := .none) only [push_cast, DrawG, Int.cast_ofNat_Int, seval, hz2, getD_in _ _ _ hpos, trpP, eo, getD_in _ _ _ ho, celP]); (try (refine xsu ?_; try exact xtI))))
 refine callB (trp_ix _ [] [.fel 5 [dedPV d] 0 0] w.troops (isId d.who) (by omega) (fun t _ => rdc1_s t d) (fun _ => rfl) (fun _ => rfl)) (WkL.refl _) rfl ?_
 (iterate 2 ((try simp (etaStruct := .none) only [push_cast, DrawG, Int.cast_ofNat_Int, seval, hz2, getD_in _ _ _ hpos, trpP, eo, getD_in _ _ _ ho, celP]); (try (refine xsu ?_; try exact xtI))))
 refine cond_i (fun h1 => ?_) (fun h1 => ?_)
 ·(try replace h1 := xhh h1)
  (iterate 2 ((try simp (etaStruct := .none) only [push_cast, DrawG, Int.cast_ofNat_Int, seval, hz2, getD_in _ _ _ hpos, trpP, eo, getD_in _ _ _ ho, celP]); (try (refine xsu ?_; try exact xtI))))
  repeat (with_reducible refine And.intro ?_ ?_; · (simp [hz]; done))
  refine gcP (fun hcc => in_s' w.f d.c hw.f) ?_
  (iterate 2 ((try simp (etaStruct := .none) only [push_cast, DrawG, Int.cast_ofNat_Int, seval, hz2, getD_in _ _ _ hpos, trpP, eo, getD_in _ _ _ ho, celP]); (try (refine xsu ?_; try exact xtI))))
  refine gcallN ?_ ?_
  ·simp [hz]
  (iterate 2 ((try simp (etaStruct := .none) only [push_cast, DrawG, Int.cast_ofNat_Int, seval, hz2, getD_in _ _ _ hpos, trpP, eo, getD_in _ _ _ ho, celP]); (try (refine xsu ?_; try exact xtI))))
  (try (refine ⟨by kernel_rfl, ?_⟩))
  (iterate 2 ((try simp (etaStruct := .none) only [push_cast, DrawG, Int.cast_ofNat_Int, seval, hz2, getD_in _ _ _ hpos, trpP, eo, getD_in _ _ _ ho, celP]); (try (refine xsu ?_; try exact xtI))))
  refine cond_i (fun h2 => ?_) (fun h2 => ?_)
  ·(try replace h2 := xhh h2)
   (iterate 2 ((try simp (etaStruct := .none) only [push_cast, DrawG, Int.cast_ofNat_Int, seval, hz2, getD_in _ _ _ hpos, trpP, eo, getD_in _ _ _ ho, celP]); (try (refine xsu ?_; try exact xtI))))
   exact xrz rfl
  ·(try replace h2 := xhh h2)
   exact absurd h2 (by decide)
 ·(try replace h1 := xhh h1)
  (iterate 2 ((try simp (etaStruct := .none) only [push_cast, DrawG, Int.cast_ofNat_Int, seval, hz2, getD_in _ _ _ hpos, trpP, eo, getD_in _ _ _ ho, celP]); (try (refine xsu ?_; try exact xtI))))
  refine cond_i (fun h3 => ?_) (fun h3 => ?_)
  ·(try replace h3 := xhh h3)
   (iterate 2 ((try simp (etaStruct := .none) only [push_cast, DrawG, Int.cast_ofNat_Int, seval, hz2, getD_in _ _ _ hpos, trpP, eo, getD_in _ _ _ ho, celP]); (try (refine xsu ?_; try exact xtI))))
   repeat (with_reducible refine And.intro ?_ ?_; · (simp [hz]; done))
   refine gcallN ?_ ?_
   ·simp [hz]
   (iterate 2 ((try simp (etaStruct := .none) only [push_cast, DrawG, Int.cast_ofNat_Int, seval, hz2, getD_in _ _ _ hpos, trpP, eo, getD_in _ _ _ ho, celP]); (try (refine xsu ?_; try exact xtI))))
   (try (refine ⟨by kernel_rfl, ?_⟩))
   (iterate 2 ((try simp (etaStruct := .none) only [push_cast, DrawG, Int.cast_ofNat_Int, seval, hz2, getD_in _ _ _ hpos, trpP, eo, getD_in _ _ _ ho, celP]); (try (refine xsu ?_; try exact xtI))))
   refine cond_i (fun h4 => ?_) (fun h4 => ?_)
   ·(try replace h4 := xhh h4)
    (iterate 2 ((try simp (etaStruct := .none) only [push_cast, DrawG, Int.cast_ofNat_Int, seval, hz2, getD_in _ _ _ hpos, trpP, eo, getD_in _ _ _ ho, celP]); (try (refine xsu ?_; try exact xtI))))
    exact xrz rfl
   ·(try replace h4 := xhh h4)
    exact absurd h4 (by decide)
  ·(try replace h3 := xhh h3)
   exfalso; omega
theorem rd_empty (w : Wld) (d : Ded) (hw : Right w) (h : d.kind = 1 ∨ d.kind = 2) (ht : w.troops = []) : Spec Tryz.prog 68 [wldA w, dedA d] [] (.tup [wldA w, B false]) [] := by
 have p1 := hw.places
 have p2 := hw.nb
 have p3 := hw.sl
 have p4 := hw.ml
 have p5 := hw.nt
 have hz : ixOf (isId d.who) ([] : List Trp) = -1 := rfl
 have hcl : Spec Tryz.prog 64 [.c (.sl 7 [])] [] (.own 0) [.row 89 7 []] := trp_clone [] (by simp)
 have hix : Spec Tryz.prog 107 [.c (.sl 7 []), .clo (.func 108) [] [.fel 5 [dedPV d] 0 0]] [] (I .i64 (ixOf (isId d.who) [])) [] := trp_ix _ [] [.fel 5 [dedPV d] 0 0] [] (isId d.who) (by simp) (fun t _ => rdc1_s t d) (fun _ => rfl) (fun _ => rfl)
 obtain ⟨wf, wb, ws, wm, wt, wn, wo⟩ := w
 simp only at ht p1 p2 p3 p4 p5
 subst ht
 refine spec_am Tryz.func68 rfl rfl mix 292 rfl [.cell 4 28, .tmp 5] Tryz.results68 (Nat.le_of_ble_eq_true rfl) ?_
 (iterate 2 ((try simp (etaStruct := .none) only [push_cast, DrawG, Int.cast_ofNat_Int, seval, List.getD_nil]); (try (refine xsu ?_; try exact xtI))))
 refine caM [] (int_clone ws (by omega)) ?_
 (iterate 2 ((try simp (etaStruct := .none) only [push_cast, DrawG, Int.cast_ofNat_Int, seval, List.getD_nil]); (try (refine xsu ?_; try exact xtI))))
 refine caM [] (int_clone wm (by omega)) ?_
 (iterate 2 ((try simp (etaStruct := .none) only [push_cast, DrawG, Int.cast_ofNat_Int, seval, List.getD_nil]); (try (refine xsu ?_; try exact xtI))))
 refine caM [] (hcl) ?_
 (iterate 2 ((try simp (etaStruct := .none) only [push_cast, DrawG, Int.cast_ofNat_Int, seval, List.getD_nil]); (try (refine xsu ?_; try exact xtI))))
 (try (refine ⟨by kernel_rfl, ?_⟩))
 (iterate 2 ((try simp (etaStruct := .none) only [push_cast, DrawG, Int.cast_ofNat_Int, seval, List.getD_nil]); (try (refine xsu ?_; try exact xtI))))
 refine callB (hix) (WkL.refl _) rfl ?_
 (iterate 2 ((try simp (etaStruct := .none) only [push_cast, DrawG, Int.cast_ofNat_Int, seval, List.getD_nil]); (try (refine xsu ?_; try exact xtI))))
 refine cond_i (fun h1 => ?_) (fun h1 => ?_)
 ·(try replace h1 := xhh h1)
  (iterate 2 ((try simp (etaStruct := .none) only [push_cast, DrawG, Int.cast_ofNat_Int, seval, List.getD_nil]); (try (refine xsu ?_; try exact xtI))))
  repeat (with_reducible refine And.intro ?_ ?_; · (simp [hz]; done))
  refine gcallN ?_ ?_
  ·simp [hz]
  (iterate 2 ((try simp (etaStruct := .none) only [push_cast, DrawG, Int.cast_ofNat_Int, seval, List.getD_nil]); (try (refine xsu ?_; try exact xtI))))
  repeat (with_reducible refine And.intro ?_ ?_; · (simp [hz]; done))
  refine gcallN ?_ ?_
  ·simp [hz]
  (iterate 2 ((try simp (etaStruct := .none) only [push_cast, DrawG, Int.cast_ofNat_Int, seval, List.getD_nil]); (try (refine xsu ?_; try exact xtI))))
  (try (refine ⟨by kernel_rfl, ?_⟩))
  (iterate 2 ((try simp (etaStruct := .none) only [push_cast, DrawG, Int.cast_ofNat_Int, seval, List.getD_nil]); (try (refine xsu ?_; try exact xtI))))
  refine cond_i (fun h2 => ?_) (fun h2 => ?_)
  ·(try replace h2 := xhh h2)
   (iterate 2 ((try simp (etaStruct := .none) only [push_cast, DrawG, Int.cast_ofNat_Int, seval, List.getD_nil]); (try (refine xsu ?_; try exact xtI))))
   exact xrz rfl
  ·(try replace h2 := xhh h2)
   simp [hz] at h2
 ·(try replace h1 := xhh h1)
  (iterate 2 ((try simp (etaStruct := .none) only [push_cast, DrawG, Int.cast_ofNat_Int, seval, List.getD_nil]); (try (refine xsu ?_; try exact xtI))))
  refine cond_i (fun h3 => ?_) (fun h3 => ?_)
  ·(try replace h3 := xhh h3)
   (iterate 2 ((try simp (etaStruct := .none) only [push_cast, DrawG, Int.cast_ofNat_Int, seval, List.getD_nil]); (try (refine xsu ?_; try exact xtI))))
   repeat (with_reducible refine And.intro ?_ ?_; · (simp [hz]; done))
   refine gcallN ?_ ?_
   ·simp [hz]
   (iterate 2 ((try simp (etaStruct := .none) only [push_cast, DrawG, Int.cast_ofNat_Int, seval, List.getD_nil]); (try (refine xsu ?_; try exact xtI))))
   (try (refine ⟨by kernel_rfl, ?_⟩))
   (iterate 2 ((try simp (etaStruct := .none) only [push_cast, DrawG, Int.cast_ofNat_Int, seval, List.getD_nil]); (try (refine xsu ?_; try exact xtI))))
   refine cond_i (fun h4 => ?_) (fun h4 => ?_)
   ·(try replace h4 := xhh h4)
    (iterate 2 ((try simp (etaStruct := .none) only [push_cast, DrawG, Int.cast_ofNat_Int, seval, List.getD_nil]); (try (refine xsu ?_; try exact xtI))))
    exact xrz rfl
   ·(try replace h4 := xhh h4)
    simp [hz] at h4
  ·(try replace h3 := xhh h3)
   exfalso; omega
theorem rd_mine (w : Wld) (d : Ded) (j : Nat) (hw : Right w) (h : d.kind = 1) (hf : w.troops.findIdx? (isId d.who) = some j) (b : Bool) (W : Wld) (hW : (mineOk w d j = true → W = mineAt w j (idxN w.f d.c) ∧ b = true) ∧ (mineOk w d j = false → W = w ∧ b = false)) : Spec Tryz.prog 68 [wldA w, dedA d] [] (.tup [wldA W, B b]) [] := by
 have p1 := hw.places
 have p2 := hw.nb
 have p3 := hw.sl
 have p4 := hw.ml
 have p5 := hw.nt
 have hz : ixOf (isId d.who) w.troops = (j : Int) := by unfold ixOf; rw [hf]
 have hj := find_idx hf
 have ok := hw.trp j hj
 have hx := ok.x; have hy := ok.y
 have hfl := fldE_ok hw.f
 have hld := ok.load
 refine spec_am Tryz.func68 rfl rfl mix 292 rfl [.cell 4 28, .tmp 5] Tryz.results68 (Nat.le_of_ble_eq_true rfl) ?_
 (iterate 2 ((try simp (etaStruct := .none) only [push_cast, DrawG, Int.cast_ofNat_Int, seval, hz, getD_in _ _ _ hj, trpP]); (try (refine xsu ?_; try exact xtI))))
 refine caM [] (int_clone w.stocks (by omega)) ?_
 (iterate 2 ((try simp (etaStruct := .none) only [push_cast, DrawG, Int.cast_ofNat_Int, seval, hz, getD_in _ _ _ hj, trpP]); (try (refine xsu ?_; try exact xtI))))
 refine caM [] (int_clone w.mines (by omega)) ?_
 (iterate 2 ((try simp (etaStruct := .none) only [push_cast, DrawG, Int.cast_ofNat_Int, seval, hz, getD_in _ _ _ hj, trpP]); (try (refine xsu ?_; try exact xtI))))
 refine caM [] (trp_clone w.troops (by omega)) ?_
 (iterate 2 ((try simp (etaStruct := .none) only [push_cast, DrawG, Int.cast_ofNat_Int, seval, hz, getD_in _ _ _ hj, trpP]); (try (refine xsu ?_; try exact xtI))))
 (try (refine ⟨by kernel_rfl, ?_⟩))
 (iterate 2 ((try simp (etaStruct := .none) only [push_cast, DrawG, Int.cast_ofNat_Int, seval, hz, getD_in _ _ _ hj, trpP]); (try (refine xsu ?_; try exact xtI))))
 refine callB (trp_ix _ [] [.fel 5 [dedPV d] 0 0] w.troops (isId d.who) (by omega) (fun t _ => rdc1_s t d) (fun _ => rfl) (fun _ => rfl)) (WkL.refl _) rfl ?_
 (iterate 2 ((try simp (etaStruct := .none) only [push_cast, DrawG, Int.cast_ofNat_Int, seval, hz, getD_in _ _ _ hj, trpP]); (try (refine xsu ?_; try exact xtI))))
 refine cond_i (fun h1 => ?_) (fun h1 => ?_)
 ·(try replace h1 := xhh h1)
  (iterate 2 ((try simp (etaStruct := .none) only [push_cast, DrawG, Int.cast_ofNat_Int, seval, hz, getD_in _ _ _ hj, trpP]); (try (refine xsu ?_; try exact xtI))))
  refine gcP (fun hcc => in_s' w.f d.c hw.f) ?_
  (iterate 2 ((try simp (etaStruct := .none) only [push_cast, DrawG, Int.cast_ofNat_Int, seval, hz, getD_in _ _ _ hj, trpP]); (try (refine xsu ?_; try exact xtI))))
  refine gcP (fun hcc => king_s (w.troops.getD j default).c d.c (by omega)) ?_
  (iterate 2 ((try simp (etaStruct := .none) only [push_cast, DrawG, Int.cast_ofNat_Int, seval, hz, getD_in _ _ _ hj, trpP]); (try (refine xsu ?_; try exact xtI))))
  (try (refine ⟨by kernel_rfl, ?_⟩))
  (iterate 2 ((try simp (etaStruct := .none) only [push_cast, DrawG, Int.cast_ofNat_Int, seval, hz, getD_in _ _ _ hj, trpP]); (try (refine xsu ?_; try exact xtI))))
  refine cond_i (fun h2 => ?_) (fun h2 => ?_)
  ·(try replace h2 := xhh h2)
   have e : mineOk w d j = false := by
    unfold mineOk
    simp only [Bool.and_eq_false_iff, decide_eq_false_iff_not]
    rcases h2 with ((h2 | h2) | h2) | h2
    ·exact .inl (.inl (.inl (.inl (by omega))))
    ·exact .inl (.inl (.inl (.inr (by omega))))
    ·exact .inl (.inr h2)
    ·exact .inl (.inl (.inr h2))
   obtain ⟨rfl, rfl⟩ := hW.2 e
   (iterate 2 ((try simp (etaStruct := .none) only [push_cast, DrawG, Int.cast_ofNat_Int, seval, hz, getD_in _ _ _ hj, trpP]); (try (refine xsu ?_; try exact xtI))))
   exact xrz rfl
  ·(try replace h2 := xhh h2)
   have hin : inF w.f d.c = true := h2.1.2
   obtain ⟨m1, m2, m3, m4⟩ := idx_in hw hin
   obtain ⟨m, hm⟩ : ∃ m, m = idxN w.f d.c := ⟨_, rfl⟩
   rw [← hm] at m1 m2
   have ew1 : IntKind.i64.wrap (IntKind.i64.wrap (d.c.y * w.f.w) + d.c.x) = (m : Int) := by rw [wrap_in (d.c.y * w.f.w) (by omega) (by omega), wrap_in _ (by omega) (by omega)]; exact m2
   have hmb := (hw.mine m m1).1
   (iterate 2 ((try simp (etaStruct := .none) only [push_cast, DrawG, Int.cast_ofNat_Int, seval, hz, getD_in _ _ _ hj, trpP, ew1, getD_in _ _ _ m1, i64P]); (try (refine xsu ?_; try exact xtI))))
   refine cond_i (fun h3 => ?_) (fun h3 => ?_)
   ·(try replace h3 := xhh h3)
    have e : mineOk w d j = false := by
     unfold mineOk
     simp only [Bool.and_eq_false_iff, decide_eq_false_iff_not]
     exact .inr (by rw [← hm]; omega)
    obtain ⟨rfl, rfl⟩ := hW.2 e
    (iterate 2 ((try simp (etaStruct := .none) only [push_cast, DrawG, Int.cast_ofNat_Int, seval, hz, getD_in _ _ _ hj, trpP, ew1, getD_in _ _ _ m1, i64P]); (try (refine xsu ?_; try exact xtI))))
    exact xrz rfl
   ·(try replace h3 := xhh h3)
    have e : mineOk w d j = true := by
     unfold mineOk
     simp only [Bool.and_eq_true, decide_eq_true_eq]
     exact ⟨⟨⟨⟨by omega, by omega⟩, h2.2⟩, hin⟩, by rw [← hm]; omega⟩
    obtain ⟨rfl, rfl⟩ := hW.1 e
    rw [← hm]
    (iterate 2 ((try simp (etaStruct := .none) only [push_cast, DrawG, Int.cast_ofNat_Int, seval, hz, getD_in _ _ _ hj, trpP, ew1, getD_in _ _ _ m1, i64P]); (try (refine xsu ?_; try exact xtI))))
    simp (etaStruct := .none) only [push_cast, DrawG, Int.cast_ofNat_Int, seval, mineAt, wldA, withLoad, List.map_set, i64P, trpP]
    exact ret0 rfl (by repeat' (first | exact trivial | exact rfl | refine ⟨?_, ?_⟩)) (Wk.refl _)
 ·(try replace h1 := xhh h1)
  exact absurd h h1
theorem rd_drop (w : Wld) (d : Ded) (j : Nat) (hw : Right w) (h : d.kind = 2) (hf : w.troops.findIdx? (isId d.who) = some j) (b : Bool) (W : Wld) (hW : (dropOk w j = true → W = dropAt w j ∧ b = decide (0 < dropN w j)) ∧ (dropOk w j = false → W = w ∧ b = false)) : Spec Tryz.prog 68 [wldA w, dedA d] [] (.tup [wldA W, B b]) [] := by
 have p1 := hw.places
 have p2 := hw.nb
 have p3 := hw.sl
 have p4 := hw.ml
 have p5 := hw.nt
 have hz : ixOf (isId d.who) w.troops = (j : Int) := by unfold ixOf; rw [hf]
 have hj := find_idx hf
 have ok := hw.trp j hj
 obtain ⟨o, eo, ho, hs⟩ := own_at hw hj
 have hn := dropN_b hw hj
 have hb := hw.base o ho
 have hbx := inF_iff.1 (ground_iff.1 hb.1).1
 have hfl := fldE_ok hw.f
 have hld := ok.load
 have eo2 : (w.troops.getD j default).owner.toNat = o := by omega
 have edN : dropN w j = min (w.troops.getD j default).load (1000000 - w.stocks.getD o default) := by unfold dropN; rw [eo2]
 rw [eo2] at hn
 obtain ⟨t, ht⟩ : ∃ t, t = w.troops.getD j default := ⟨_, rfl⟩
 rw [← ht] at ok eo hn hld eo2 edN
 obtain ⟨s, hsv⟩ : ∃ s, s = w.stocks.getD o default := ⟨_, rfl⟩
 have setg : ∀ x : List PV, ((w.troops.map trpP).set j x).getD j [] = x := fun x => by rw [getD_at' _ _ _ (by simpa using hj)]; simp
 have setg2 : ∀ x : List PV, ((w.stocks.map i64P).set o x).getD o [] = x := fun x => by rw [getD_at' _ _ _ (by simpa using hs)]; simp
 have sets : ∀ x y : List PV, ((w.troops.map trpP).set j x).set j y = (w.troops.map trpP).set j y := fun x y => List.set_set _
 have sets2 : ∀ x y : List PV, ((w.stocks.map i64P).set o x).set o y = (w.stocks.map i64P).set o y := fun x y => List.set_set _
 have hset : w.troops.set j (withLoad t t.load) = w.troops := by
  have : withLoad t t.load = w.troops.getD j default := by rw [← ht]; rfl
  rw [this, set_same _ _ hj]
 have hset2 : w.stocks.set o s = w.stocks := by rw [hsv, set_same _ _ hs]
 refine spec_am Tryz.func68 rfl rfl mix 292 rfl [.cell 4 28, .tmp 5] Tryz.results68 (Nat.le_of_ble_eq_true rfl) ?_
 (iterate 2 ((try simp (etaStruct := .none) only [push_cast, DrawG, Int.cast_ofNat_Int, seval, hz, eo, List.map_set, withLoad, setg, setg2, sets, sets2, getD_in _ _ _ hj, ← ht, trpP, getD_in _ _ _ ho, celP, getD_in _ _ _ hs, ← hsv, i64P]); (try (refine xsu ?_; try exact xtI))))
 refine caM [] (int_clone w.stocks (by omega)) ?_
 (iterate 2 ((try simp (etaStruct := .none) only [push_cast, DrawG, Int.cast_ofNat_Int, seval, hz, eo, List.map_set, withLoad, setg, setg2, sets, sets2, getD_in _ _ _ hj, ← ht, trpP, getD_in _ _ _ ho, celP, getD_in _ _ _ hs, ← hsv, i64P]); (try (refine xsu ?_; try exact xtI))))
 refine caM [] (int_clone w.mines (by omega)) ?_
 (iterate 2 ((try simp (etaStruct := .none) only [push_cast, DrawG, Int.cast_ofNat_Int, seval, hz, eo, List.map_set, withLoad, setg, setg2, sets, sets2, getD_in _ _ _ hj, ← ht, trpP, getD_in _ _ _ ho, celP, getD_in _ _ _ hs, ← hsv, i64P]); (try (refine xsu ?_; try exact xtI))))
 refine caM [] (trp_clone w.troops (by omega)) ?_
 (iterate 2 ((try simp (etaStruct := .none) only [push_cast, DrawG, Int.cast_ofNat_Int, seval, hz, eo, List.map_set, withLoad, setg, setg2, sets, sets2, getD_in _ _ _ hj, ← ht, trpP, getD_in _ _ _ ho, celP, getD_in _ _ _ hs, ← hsv, i64P]); (try (refine xsu ?_; try exact xtI))))
 (try (refine ⟨by kernel_rfl, ?_⟩))
 (iterate 2 ((try simp (etaStruct := .none) only [push_cast, DrawG, Int.cast_ofNat_Int, seval, hz, eo, List.map_set, withLoad, setg, setg2, sets, sets2, getD_in _ _ _ hj, ← ht, trpP, getD_in _ _ _ ho, celP, getD_in _ _ _ hs, ← hsv, i64P]); (try (refine xsu ?_; try exact xtI))))
 refine callB (trp_ix _ [] [.fel 5 [dedPV d] 0 0] w.troops (isId d.who) (by omega) (fun t _ => rdc1_s t d) (fun _ => rfl) (fun _ => rfl)) (WkL.refl _) rfl ?_
 (iterate 2 ((try simp (etaStruct := .none) only [push_cast, DrawG, Int.cast_ofNat_Int, seval, hz, eo, List.map_set, withLoad, setg, setg2, sets, sets2, getD_in _ _ _ hj, ← ht, trpP, getD_in _ _ _ ho, celP, getD_in _ _ _ hs, ← hsv, i64P]); (try (refine xsu ?_; try exact xtI))))
 refine cond_i (fun h1 => ?_) (fun h1 => ?_)
 ·(try replace h1 := xhh h1)
  exfalso; omega
 ·(try replace h1 := xhh h1)
  (iterate 2 ((try simp (etaStruct := .none) only [push_cast, DrawG, Int.cast_ofNat_Int, seval, hz, eo, List.map_set, withLoad, setg, setg2, sets, sets2, getD_in _ _ _ hj, ← ht, trpP, getD_in _ _ _ ho, celP, getD_in _ _ _ hs, ← hsv, i64P]); (try (refine xsu ?_; try exact xtI))))
  refine cond_i (fun h2 => ?_) (fun h2 => ?_)
  ·(try replace h2 := xhh h2)
   (iterate 2 ((try simp (etaStruct := .none) only [push_cast, DrawG, Int.cast_ofNat_Int, seval, hz, eo, List.map_set, withLoad, setg, setg2, sets, sets2, getD_in _ _ _ hj, ← ht, trpP, getD_in _ _ _ ho, celP, getD_in _ _ _ hs, ← hsv, i64P]); (try (refine xsu ?_; try exact xtI))))
   refine gcP (fun hcc => king_s (w.bases.getD o default) t.c (by omega)) ?_
   (iterate 2 ((try simp (etaStruct := .none) only [push_cast, DrawG, Int.cast_ofNat_Int, seval, hz, eo, List.map_set, withLoad, setg, setg2, sets, sets2, getD_in _ _ _ hj, ← ht, trpP, getD_in _ _ _ ho, celP, getD_in _ _ _ hs, ← hsv, i64P]); (try (refine xsu ?_; try exact xtI))))
   (try (refine ⟨by kernel_rfl, ?_⟩))
   (iterate 2 ((try simp (etaStruct := .none) only [push_cast, DrawG, Int.cast_ofNat_Int, seval, hz, eo, List.map_set, withLoad, setg, setg2, sets, sets2, getD_in _ _ _ hj, ← ht, trpP, getD_in _ _ _ ho, celP, getD_in _ _ _ hs, ← hsv, i64P]); (try (refine xsu ?_; try exact xtI))))
   refine cond_i (fun h3 => ?_) (fun h3 => ?_)
   ·(try replace h3 := xhh h3)
    obtain ⟨rfl, rfl⟩ := hW.2 (by unfold dropOk; rw [← ht, eo2]; exact h3.resolve_left (by omega))
    (iterate 2 ((try simp (etaStruct := .none) only [push_cast, DrawG, Int.cast_ofNat_Int, seval, hz, eo, List.map_set, withLoad, setg, setg2, sets, sets2, getD_in _ _ _ hj, ← ht, trpP, getD_in _ _ _ ho, celP, getD_in _ _ _ hs, ← hsv, i64P]); (try (refine xsu ?_; try exact xtI))))
    exact xrz rfl
   ·(try replace h3 := xhh h3)
    obtain ⟨rfl, rfl⟩ := hW.1 (by unfold dropOk; rw [← ht, eo2]; exact h3.2)
    (iterate 2 ((try simp (etaStruct := .none) only [push_cast, DrawG, Int.cast_ofNat_Int, seval, hz, eo, List.map_set, withLoad, setg, setg2, sets, sets2, getD_in _ _ _ hj, ← ht, trpP, getD_in _ _ _ ho, celP, getD_in _ _ _ hs, ← hsv, i64P]); (try (refine xsu ?_; try exact xtI))))
    refine loopI (fun k : Nat => ⟨[(8, I .i64 k), (6, I .i64 j), (4, .ptr 1 0 0), (2, .ptr 0 0 0)], [(0, .blk 28 (shpC w 2 3 4)), (1, .blk 28 [I .i64 0, I .i64 0, .c (.v (.slice none 0 0)), .c (.v (.slice none 0 0)), .c (.v (.slice none 0 0)), .c (.v (.slice none 0 0)), .c (.v (.slice none 0 0)), I .i64 0, I .i64 0]), (2, .row 3 1 ((w.stocks.set o (s + k)).map i64P)), (3, miR w), (4, .row 89 7 ((w.troops.set j (withLoad t (t.load - k))).map trpP))], 5⟩) (fun k : Nat => (k : Int) ≤ dropN w j) (fun k : Nat => (dropN w j).toNat - k) (0) (by have := hn.1; simpa using this) (To.mk [0, 2, 11, 23, 35] rfl rfl (by decide) ?_ ?_) ?_
    ·simp (etaStruct := .none) only [push_cast, DrawG, Int.cast_ofNat_Int, seval, Int.natCast_zero, Int.add_zero, Int.sub_zero, hset, hset2]
    ·simp (etaStruct := .none) only [push_cast, DrawG, Int.cast_ofNat_Int, seval]
    rintro k hk
    have kt : t.kind = 1 ∨ t.kind = 2 := ok.kind
    (iterate 2 ((try simp (etaStruct := .none) only [push_cast, DrawG, Int.cast_ofNat_Int, seval, hz, eo, List.map_set, withLoad, setg, setg2, sets, sets2, getD_in _ _ _ hj, ← ht, trpP, getD_in _ _ _ ho, celP, getD_in _ _ _ hs, ← hsv, i64P]); (try (refine xsu ?_; try exact xtI))))
    (try (refine ⟨by kernel_rfl, ?_⟩))
    (iterate 2 ((try simp (etaStruct := .none) only [push_cast, DrawG, Int.cast_ofNat_Int, seval, hz, eo, List.map_set, withLoad, setg, setg2, sets, sets2, getD_in _ _ _ hj, ← ht, trpP, getD_in _ _ _ ho, celP, getD_in _ _ _ hs, ← hsv, i64P]); (try (refine xsu ?_; try exact xtI))))
    refine cond_i (fun h4 => ?_) (fun h4 => ?_)
    ·(try replace h4 := xhh h4)
     have hk2 : (k : Int) + 1 ≤ dropN w j := by rw [edN]; omega
     (iterate 2 ((try simp (etaStruct := .none) only [push_cast, DrawG, Int.cast_ofNat_Int, seval, hz, eo, List.map_set, withLoad, setg, setg2, sets, sets2, getD_in _ _ _ hj, ← ht, trpP, getD_in _ _ _ ho, celP, getD_in _ _ _ hs, ← hsv, i64P]); (try (refine xsu ?_; try exact xtI))))
     (try (refine ⟨by kernel_rfl, ?_⟩))
     (iterate 2 ((try simp (etaStruct := .none) only [push_cast, DrawG, Int.cast_ofNat_Int, seval, hz, eo, List.map_set, withLoad, setg, setg2, sets, sets2, getD_in _ _ _ hj, ← ht, trpP, getD_in _ _ _ ho, celP, getD_in _ _ _ hs, ← hsv, i64P]); (try (refine xsu ?_; try exact xtI))))
     refine ⟨k + 1, by omega, by omega, To.mk [0, 1, 2, 3, 4] rfl rfl (by decide) ?_ ?_⟩
     ·(iterate 2 ((try simp (etaStruct := .none) only [push_cast, DrawG, Int.cast_ofNat_Int, seval, List.map_set, withLoad, eo, setg, setg2, sets, sets2, trpP, i64P, Int.sub_sub, Int.add_assoc]); (try (refine xsu ?_; try exact xtI))))
     ·(iterate 2 ((try simp (etaStruct := .none) only [push_cast, DrawG, Int.cast_ofNat_Int, seval, hz, eo, List.map_set, withLoad, setg, setg2, sets, sets2, getD_in _ _ _ hj, ← ht, trpP, getD_in _ _ _ ho, celP, getD_in _ _ _ hs, ← hsv, i64P]); (try (refine xsu ?_; try exact xtI))))
    ·(try replace h4 := xhh h4)
     have hk3 : dropN w j = (k : Int) := by rw [edN] at hk ⊢; omega
     (iterate 2 ((try simp (etaStruct := .none) only [push_cast, DrawG, Int.cast_ofNat_Int, seval, hz, eo, List.map_set, withLoad, setg, setg2, sets, sets2, getD_in _ _ _ hj, ← ht, trpP, getD_in _ _ _ ho, celP, getD_in _ _ _ hs, ← hsv, i64P]); (try (refine xsu ?_; try exact xtI))))
     simp (etaStruct := .none) only [push_cast, DrawG, Int.cast_ofNat_Int, seval, dropAt, wldA, ← ht, eo2, ← hsv, hk3, withLoad, List.map_set, i64P, trpP, eo]
     exact ret0 rfl (by repeat' (first | exact trivial | exact rfl | refine ⟨?_, ?_⟩)) (Wk.refl _)
  ·(try replace h2 := xhh h2)
   exact absurd h h2
end Go.Proofs.YthiddmncjafklaaGreat
namespace Go.Proofs.YthiddmncjafklaaGreat
set_option linter.all false
open Go.RowKit
set_option maxRecDepth 100000
set_option maxHeartbeats 2000000
theorem around_m (b : Cel) {m : Nat} (hm : m < 9) : (around b).getD (m + 1) default = ⟨b.x + ((m % 3 : Nat) : Int) - 1, b.y + ((m / 3 : Nat) : Int) - 1⟩ := by
 have e : m + 1 = 1 + 3 * (m / 3) + m % 3 := by omega
 rw [e, around_at b (by omega) (by omega)]
 congr 1 <;> omega
theorem rd_hout (w : Wld) (d : Ded) (hw : Right w) (h : d.kind = 3) (hge : w.stocks.length ≤ d.who.toNat) : Spec Tryz.prog 68 [wldA w, dedA d] [] (.tup [wldA w, B false]) [] := by
 have p1 := hw.places
 have p2 := hw.nb
 have p3 := hw.sl
 have p4 := hw.ml
 have p5 := hw.nt
 have hg : (w.stocks.map i64P).getD d.who.toNat [] = [] := by
  simp only [List.getD_eq_getElem?_getD]; rw [List.getElem?_eq_none (by rw [List.length_map]; exact hge)]; rfl
 have hwf : within d.who 0 ((w.bases.length : Int) - 1) = false := by rw [within_f]; omega
 refine spec_am Tryz.func68 rfl rfl mix 292 rfl [.cell 4 28, .tmp 5] Tryz.results68 (Nat.le_of_ble_eq_true rfl) ?_
 (iterate 2 ((try simp (etaStruct := .none) only [push_cast, DrawG, Int.cast_ofNat_Int, seval, hg]); (try (refine xsu ?_; try exact xtI))))
 refine caM [] (int_clone w.stocks (by omega)) ?_
 (iterate 2 ((try simp (etaStruct := .none) only [push_cast, DrawG, Int.cast_ofNat_Int, seval, hg]); (try (refine xsu ?_; try exact xtI))))
 refine caM [] (int_clone w.mines (by omega)) ?_
 (iterate 2 ((try simp (etaStruct := .none) only [push_cast, DrawG, Int.cast_ofNat_Int, seval, hg]); (try (refine xsu ?_; try exact xtI))))
 refine caM [] (trp_clone w.troops (by omega)) ?_
 (iterate 2 ((try simp (etaStruct := .none) only [push_cast, DrawG, Int.cast_ofNat_Int, seval, hg]); (try (refine xsu ?_; try exact xtI))))
 (try (refine ⟨by kernel_rfl, ?_⟩))
 (iterate 2 ((try simp (etaStruct := .none) only [push_cast, DrawG, Int.cast_ofNat_Int, seval, hg]); (try (refine xsu ?_; try exact xtI))))
 refine callB (trp_ix _ [] [.fel 5 [dedPV d] 0 0] w.troops (isId d.who) (by omega) (fun t _ => rdc1_s t d) (fun _ => rfl) (fun _ => rfl)) (WkL.refl _) rfl ?_
 (iterate 2 ((try simp (etaStruct := .none) only [push_cast, DrawG, Int.cast_ofNat_Int, seval, hg]); (try (refine xsu ?_; try exact xtI))))
 refine cond_i (fun h1 => ?_) (fun h1 => ?_)
 ·(try replace h1 := xhh h1)
  exfalso; omega
 ·(try replace h1 := xhh h1)
  (iterate 2 ((try simp (etaStruct := .none) only [push_cast, DrawG, Int.cast_ofNat_Int, seval, hg]); (try (refine xsu ?_; try exact xtI))))
  refine cond_i (fun h2 => ?_) (fun h2 => ?_)
  ·(try replace h2 := xhh h2)
   exfalso; omega
  ·(try replace h2 := xhh h2)
   (iterate 2 ((try simp (etaStruct := .none) only [push_cast, DrawG, Int.cast_ofNat_Int, seval, hg]); (try (refine xsu ?_; try exact xtI))))
   refine cond_i (fun h3 => ?_) (fun h3 => ?_)
   ·(try replace h3 := xhh h3)
    (iterate 2 ((try simp (etaStruct := .none) only [push_cast, DrawG, Int.cast_ofNat_Int, seval, hg]); (try (refine xsu ?_; try exact xtI))))
    refine caP (between_s d.who 0 ((w.bases.length : Int) - 1)) ?_
    (iterate 2 ((try simp (etaStruct := .none) only [push_cast, DrawG, Int.cast_ofNat_Int, seval, hg]); (try (refine xsu ?_; try exact xtI))))
    refine gcP (fun hcc => between_s d.what 1 2) ?_
    (iterate 2 ((try simp (etaStruct := .none) only [push_cast, DrawG, Int.cast_ofNat_Int, seval, hg]); (try (refine xsu ?_; try exact xtI))))
    repeat (with_reducible refine And.intro ?_ ?_; · (simp [hwf]; done))
    refine gcallN ?_ ?_
    ·simp [hwf]
    (iterate 2 ((try simp (etaStruct := .none) only [push_cast, DrawG, Int.cast_ofNat_Int, seval, hg]); (try (refine xsu ?_; try exact xtI))))
    repeat (with_reducible refine And.intro ?_ ?_; · (simp [hwf]; done))
    (try (refine ⟨by kernel_rfl, ?_⟩))
    (iterate 2 ((try simp (etaStruct := .none) only [push_cast, DrawG, Int.cast_ofNat_Int, seval, hg]); (try (refine xsu ?_; try exact xtI))))
    refine cond_i (fun h4 => ?_) (fun h4 => ?_)
    ·(try replace h4 := xhh h4)
     (iterate 2 ((try simp (etaStruct := .none) only [push_cast, DrawG, Int.cast_ofNat_Int, seval, hg]); (try (refine xsu ?_; try exact xtI))))
     exact xrz rfl
    ·(try replace h4 := xhh h4)
     simp [hwf] at h4
   ·(try replace h3 := xhh h3)
    exact absurd h h3
theorem rd_hire (w : Wld) (d : Ded) (hw : Right w) (h : d.kind = 3) (hs : d.who.toNat < w.stocks.length) (b : Bool) (W : Wld) (hW1 : hireOk w d = false → W = w ∧ b = false) (hW2 : hireOk w d = true → freeV w (w.bases.getD d.who.toNat default) = none → W = w ∧ b = false)
 (hW3 : ∀ c, hireOk w d = true → freeV w (w.bases.getD d.who.toNat default) = some c → W = hireAt w d c ∧ b = true) : Spec Tryz.prog 68 [wldA w, dedA d] [] (.tup [wldA W, B b]) [] := by
 have p1 := hw.places
 have p2 := hw.nb
 have p3 := hw.sl
 have p4 := hw.ml
 have p5 := hw.nt
 have hb : d.who.toNat < w.bases.length := by omega
 have hbb := base_box hw hb
 have hnx := hw.nx
 have hst := (hw.base _ hb).2.1
 obtain ⟨a, ha⟩ : ∃ a, a = w.bases.getD d.who.toNat default := ⟨_, rfl⟩
 have hal : (around a).length = 10 := rfl
 rw [← ha] at hbb hW2 hW3
 refine spec_am Tryz.func68 rfl rfl mix 292 rfl [.cell 4 28, .tmp 5] Tryz.results68 (Nat.le_of_ble_eq_true rfl) ?_
 (iterate 2 ((try simp (etaStruct := .none) (maxSteps := 1000000) only [push_cast, DrawG, Int.cast_ofNat_Int, seval, getD_in _ _ _ hs, getD_in _ _ _ hb, ← ha, i64P, celP]); (try (refine xsu ?_; try exact xtI))))
 refine caM [] (int_clone w.stocks (by omega)) ?_
 (iterate 2 ((try simp (etaStruct := .none) (maxSteps := 1000000) only [push_cast, DrawG, Int.cast_ofNat_Int, seval, getD_in _ _ _ hs, getD_in _ _ _ hb, ← ha, i64P, celP]); (try (refine xsu ?_; try exact xtI))))
 refine caM [] (int_clone w.mines (by omega)) ?_
 (iterate 2 ((try simp (etaStruct := .none) (maxSteps := 1000000) only [push_cast, DrawG, Int.cast_ofNat_Int, seval, getD_in _ _ _ hs, getD_in _ _ _ hb, ← ha, i64P, celP]); (try (refine xsu ?_; try exact xtI))))
 refine caM [] (trp_clone w.troops (by omega)) ?_
 (iterate 2 ((try simp (etaStruct := .none) (maxSteps := 1000000) only [push_cast, DrawG, Int.cast_ofNat_Int, seval, getD_in _ _ _ hs, getD_in _ _ _ hb, ← ha, i64P, celP]); (try (refine xsu ?_; try exact xtI))))
 (try (refine ⟨by kernel_rfl, ?_⟩))
 (iterate 2 ((try simp (etaStruct := .none) (maxSteps := 1000000) only [push_cast, DrawG, Int.cast_ofNat_Int, seval, getD_in _ _ _ hs, getD_in _ _ _ hb, ← ha, i64P, celP]); (try (refine xsu ?_; try exact xtI))))
 refine callB (trp_ix _ [] [.fel 5 [dedPV d] 0 0] w.troops (isId d.who) (by omega) (fun t _ => rdc1_s t d) (fun _ => rfl) (fun _ => rfl)) (WkL.refl _) rfl ?_
 (iterate 2 ((try simp (etaStruct := .none) (maxSteps := 1000000) only [push_cast, DrawG, Int.cast_ofNat_Int, seval, getD_in _ _ _ hs, getD_in _ _ _ hb, ← ha, i64P, celP]); (try (refine xsu ?_; try exact xtI))))
 refine cond_i (fun h1 => ?_) (fun h1 => ?_)
 ·(try replace h1 := xhh h1)
  exfalso; omega
 ·(try replace h1 := xhh h1)
  (iterate 2 ((try simp (etaStruct := .none) (maxSteps := 1000000) only [push_cast, DrawG, Int.cast_ofNat_Int, seval, getD_in _ _ _ hs, getD_in _ _ _ hb, ← ha, i64P, celP]); (try (refine xsu ?_; try exact xtI))))
  refine cond_i (fun h2 => ?_) (fun h2 => ?_)
  ·(try replace h2 := xhh h2)
   exfalso; omega
  ·(try replace h2 := xhh h2)
   (iterate 2 ((try simp (etaStruct := .none) (maxSteps := 1000000) only [push_cast, DrawG, Int.cast_ofNat_Int, seval, getD_in _ _ _ hs, getD_in _ _ _ hb, ← ha, i64P, celP]); (try (refine xsu ?_; try exact xtI))))
   refine cond_i (fun h3 => ?_) (fun h3 => ?_)
   ·(try replace h3 := xhh h3)
    (iterate 2 ((try simp (etaStruct := .none) (maxSteps := 1000000) only [push_cast, DrawG, Int.cast_ofNat_Int, seval, getD_in _ _ _ hs, getD_in _ _ _ hb, ← ha, i64P, celP]); (try (refine xsu ?_; try exact xtI))))
    refine caP (between_s d.who 0 ((w.bases.length : Int) - 1)) ?_
    (iterate 2 ((try simp (etaStruct := .none) (maxSteps := 1000000) only [push_cast, DrawG, Int.cast_ofNat_Int, seval, getD_in _ _ _ hs, getD_in _ _ _ hb, ← ha, i64P, celP]); (try (refine xsu ?_; try exact xtI))))
    refine gcP (fun hcc => between_s d.what 1 2) ?_
    (iterate 2 ((try simp (etaStruct := .none) (maxSteps := 1000000) only [push_cast, DrawG, Int.cast_ofNat_Int, seval, getD_in _ _ _ hs, getD_in _ _ _ hb, ← ha, i64P, celP]); (try (refine xsu ?_; try exact xtI))))
    refine ⟨fun hh => ⟨hh, by have := (within_iff).1 hh.1; omega⟩, fun hh => ⟨hh, hs⟩, ?_⟩
    refine gcP (fun hcc => kindOf_s d.what (by simp at hcc; have := (within_iff).1 hcc.2; omega)) ?_
    (iterate 2 ((try simp (etaStruct := .none) (maxSteps := 1000000) only [push_cast, DrawG, Int.cast_ofNat_Int, seval, getD_in _ _ _ hs, getD_in _ _ _ hb, ← ha, i64P, celP]); (try (refine xsu ?_; try exact xtI))))
    (try (refine ⟨by kernel_rfl, ?_⟩))
    (iterate 2 ((try simp (etaStruct := .none) (maxSteps := 1000000) only [push_cast, DrawG, Int.cast_ofNat_Int, seval, getD_in _ _ _ hs, getD_in _ _ _ hb, ← ha, i64P, celP]); (try (refine xsu ?_; try exact xtI))))
    refine cond_i (fun h4 => ?_) (fun h4 => ?_)
    ·(try replace h4 := xhh h4)
     have hno : hireOk w d = false := by
      cases hh : hireOk w d with
      | false => rfl
      | true =>
       exfalso
       have hi := hireOk_iff.1 hh
       rcases h4 with (((h4 | h4) | h4) | h4) | h4
       ·rw [within_f] at h4; omega
       ·rw [within_f] at h4; omega
       ·omega
       ·omega
       ·omega
     obtain ⟨rfl, rfl⟩ := hW1 hno
     (iterate 2 ((try simp (etaStruct := .none) (maxSteps := 1000000) only [push_cast, DrawG, Int.cast_ofNat_Int, seval, getD_in _ _ _ hs, getD_in _ _ _ hb, ← ha, i64P, celP]); (try (refine xsu ?_; try exact xtI))))
     exact xrz rfl
    ·(try replace h4 := xhh h4)
     have hyes : hireOk w d = true := by
      rw [hireOk_iff]
      have q1 := (within_iff).1 h4.1.1.1.1
      have q2 := (within_iff).1 h4.1.1.1.2
      exact ⟨⟨⟨⟨⟨by omega, by omega⟩, by omega⟩, by omega⟩, by omega⟩, by omega⟩
     have q1 := (within_iff).1 h4.1.1.1.1
     have q2 := (within_iff).1 h4.1.1.1.2
     have hwk : d.what = 1 ∨ d.what = 2 := by omega
     have hpr : 0 ≤ (kindV d.what).price ∧ (kindV d.what).price ≤ 12 := by rcases hwk with e | e <;> rw [e] <;> decide
     (iterate 2 ((try simp (etaStruct := .none) (maxSteps := 1000000) only [push_cast, DrawG, Int.cast_ofNat_Int, seval, getD_in _ _ _ hs, getD_in _ _ _ hb, ← ha, i64P, celP]); (try (refine xsu ?_; try exact xtI))))
     refine loopI (fun i : Nat => ⟨[(10, I .i64 ((i : Int) - 1)), (9, .ptr 3 0 0), (4, .ptr 2 0 0), (3, .ptr 1 0 0), (2, .ptr 0 0 0)], [(0, .blk 28 (shpC w 4 5 6)), (1, .blk 119 [I .i64 d.kind, I .i64 d.who, I .i64 d.c.x, I .i64 d.c.y, I .i64 d.what]), (2, .blk 28 [I .i64 0, I .i64 0, .c (.v (.slice none 0 0)), .c (.v (.slice none 0 0)), .c (.v (.slice none 0 0)), .c (.v (.slice none 0 0)), .c (.v (.slice none 0 0)), I .i64 0, I .i64 0]), (3, .blk 85 [I .i64 a.x, I .i64 a.y]), (4, stR w), (5, miR w), (6, trR w)], 7⟩) (fun i : Nat => i ≤ 10 ∧ ∀ j, j < i → freeB w ((around a).getD j default) = false) (fun i : Nat => 10 - i) (0) (⟨Nat.zero_le _, fun j h => absurd h (Nat.not_lt_zero _)⟩) (To.mk [0, 1, 2, 215, 11, 23, 35] rfl rfl (by decide) ?_ ?_) ?_
     ·simp (etaStruct := .none) only [push_cast, DrawG, Int.cast_ofNat_Int, seval]
     ·simp (etaStruct := .none) only [push_cast, DrawG, Int.cast_ofNat_Int, seval, Int.zero_sub]
     rintro i ⟨hi, hn⟩
     (iterate 2 ((try simp (etaStruct := .none) (maxSteps := 1000000) only [push_cast, DrawG, Int.cast_ofNat_Int, seval, getD_in _ _ _ hs, getD_in _ _ _ hb, ← ha, i64P, celP]); (try (refine xsu ?_; try exact xtI))))
     refine cond_i (fun h5 => ?_) (fun h5 => ?_)
     ·(try replace h5 := xhh h5)
      have hi9 : i < 10 := by omega
      obtain ⟨x, hx⟩ : ∃ x, x = (around a).getD i default := ⟨_, rfl⟩
      (iterate 2 ((try simp (etaStruct := .none) (maxSteps := 1000000) only [push_cast, DrawG, Int.cast_ofNat_Int, seval, getD_in _ _ _ hs, getD_in _ _ _ hb, ← ha, i64P, celP]); (try (refine xsu ?_; try exact xtI))))
      refine cond_j (fun _u : Unit => ⟨[(11, .ptr 7 0 0), (10, I .i64 ((i : Int) - 1)), (9, .ptr 3 0 0), (4, .ptr 2 0 0), (3, .ptr 1 0 0), (2, .ptr 0 0 0)], [(0, .blk 28 (shpC w 4 5 6)), (1, .blk 119 [I .i64 d.kind, I .i64 d.who, I .i64 d.c.x, I .i64 d.c.y, I .i64 d.what]), (2, .blk 28 [I .i64 0, I .i64 0, .c (.v (.slice none 0 0)), .c (.v (.slice none 0 0)), .c (.v (.slice none 0 0)), .c (.v (.slice none 0 0)), .c (.v (.slice none 0 0)), I .i64 0, I .i64 0]), (3, .blk 85 [I .i64 a.x, I .i64 a.y]), (4, stR w), (5, miR w), (6, trR w), (7, .blk 85 [I .i64 x.x, I .i64 x.y])], 8⟩) (fun _u : Unit => Tr) (fun h6 => ?_) (fun h6 => ?_) ?_
      ·(try replace h6 := xhh h6)
       obtain ⟨m, hm⟩ : ∃ m : Nat, i = m + 1 := ⟨i - 1, by omega⟩
       have hxm := around_m a (m := m) (by omega)
       rw [← hm, ← hx] at hxm
       have em : ((i : Int) - 1).tmod 3 = ((m % 3 : Nat) : Int) := by rw [hm, show (((m + 1 : Nat) : Int) - 1) = (m : Int) from by omega, Int.tmod_eq_emod_of_nonneg (by omega)]; rfl
       have ed : IntKind.i64.wrap (((i : Int) - 1).tdiv 3) = ((m / 3 : Nat) : Int) := by rw [hm, show (((m + 1 : Nat) : Int) - 1) = (m : Int) from by omega, Int.tdiv_eq_ediv_of_nonneg (by omega)]; exact wrap_in _ (by omega) (by omega)
       (iterate 2 ((try simp (etaStruct := .none) (maxSteps := 1000000) only [push_cast, DrawG, Int.cast_ofNat_Int, seval, getD_in _ _ _ hs, getD_in _ _ _ hb, ← ha, i64P, celP, em, ed]); (try (refine xsu ?_; try exact xtI))))
       refine ⟨(), trI, To.mk [0, 1, 2, 3, 4, 5, 6, 7] rfl rfl (by decide) ?_ ?_⟩
       ·(iterate 2 ((try simp (etaStruct := .none) only [push_cast, DrawG, Int.cast_ofNat_Int, seval, hxm, em, ed]); (try (refine xsu ?_; try exact xtI))))
       ·(iterate 2 ((try simp (etaStruct := .none) (maxSteps := 1000000) only [push_cast, DrawG, Int.cast_ofNat_Int, seval, getD_in _ _ _ hs, getD_in _ _ _ hb, ← ha, i64P, celP, em, ed]); (try (refine xsu ?_; try exact xtI))))
      ·(try replace h6 := xhh h6)
       obtain rfl : i = 0 := by omega
       have hxa : x = a := hx
       (iterate 2 ((try simp (etaStruct := .none) (maxSteps := 1000000) only [push_cast, DrawG, Int.cast_ofNat_Int, seval, getD_in _ _ _ hs, getD_in _ _ _ hb, ← ha, i64P, celP]); (try (refine xsu ?_; try exact xtI))))
       refine ⟨(), trI, To.mk [0, 1, 2, 3, 4, 5, 6, 7] rfl rfl (by decide) ?_ ?_⟩
       ·(iterate 2 ((try simp (etaStruct := .none) only [push_cast, DrawG, Int.cast_ofNat_Int, seval, hxa]); (try (refine xsu ?_; try exact xtI))))
       ·(iterate 2 ((try simp (etaStruct := .none) (maxSteps := 1000000) only [push_cast, DrawG, Int.cast_ofNat_Int, seval, getD_in _ _ _ hs, getD_in _ _ _ hb, ← ha, i64P, celP]); (try (refine xsu ?_; try exact xtI))))
      ·rintro _ _
       skip
       (iterate 2 ((try simp (etaStruct := .none) (maxSteps := 1000000) only [push_cast, DrawG, Int.cast_ofNat_Int, seval, getD_in _ _ _ hs, getD_in _ _ _ hb, ← ha, i64P, celP]); (try (refine xsu ?_; try exact xtI))))
       refine caP (ground_s w.f x hw.f) ?_
       (iterate 2 ((try simp (etaStruct := .none) (maxSteps := 1000000) only [push_cast, DrawG, Int.cast_ofNat_Int, seval, getD_in _ _ _ hs, getD_in _ _ _ hb, ← ha, i64P, celP]); (try (refine xsu ?_; try exact xtI))))
       refine gcallB (fun hcc => trp_any _ [] [.fel 2 [[pI x.x, pI x.y]] 0 0] w.troops (fun t => decide (t.c = x)) (by omega) (fun t _ => rdc2_s t x) (fun _ => rfl) (fun _ => rfl)) (WkL.refl _) rfl (by intro hc; (try simp (etaStruct := .none) only [push_cast, DrawG, Int.cast_ofNat_Int, seval]); (try simp_all)) ?_
       (iterate 2 ((try simp (etaStruct := .none) (maxSteps := 1000000) only [push_cast, DrawG, Int.cast_ofNat_Int, seval, getD_in _ _ _ hs, getD_in _ _ _ hb, ← ha, i64P, celP]); (try (refine xsu ?_; try exact xtI))))
       refine cond_i (fun h7 => ?_) (fun h7 => ?_)
       ·(try replace h7 := xhh h7)
        have hfb : freeB w x = true := by unfold freeB; rw [h7.1, h7.2]; rfl
        obtain ⟨rfl, rfl⟩ := hW3 x hyes (by unfold freeV; rw [hx]; exact find_hit _ _ i (by rw [hal]; exact hi9) (by rw [← hx]; exact hfb) hn)
        (iterate 2 ((try simp (etaStruct := .none) (maxSteps := 1000000) only [push_cast, DrawG, Int.cast_ofNat_Int, seval, getD_in _ _ _ hs, getD_in _ _ _ hb, ← ha, i64P, celP]); (try (refine xsu ?_; try exact xtI))))
        refine caP (kindOf_s d.what hwk) ?_
        (iterate 2 ((try simp (etaStruct := .none) (maxSteps := 1000000) only [push_cast, DrawG, Int.cast_ofNat_Int, seval, getD_in _ _ _ hs, getD_in _ _ _ hb, ← ha, i64P, celP]); (try (refine xsu ?_; try exact xtI))))
        (try (refine ⟨by kernel_rfl, ?_⟩))
        (iterate 2 ((try simp (etaStruct := .none) (maxSteps := 1000000) only [push_cast, DrawG, Int.cast_ofNat_Int, seval, getD_in _ _ _ hs, getD_in _ _ _ hb, ← ha, i64P, celP]); (try (refine xsu ?_; try exact xtI))))
        refine caP (kindOf_s d.what hwk) ?_
        (iterate 2 ((try simp (etaStruct := .none) (maxSteps := 1000000) only [push_cast, DrawG, Int.cast_ofNat_Int, seval, getD_in _ _ _ hs, getD_in _ _ _ hb, ← ha, i64P, celP]); (try (refine xsu ?_; try exact xtI))))
        (try (refine ⟨by kernel_rfl, ?_⟩))
        (iterate 2 ((try simp (etaStruct := .none) (maxSteps := 1000000) only [push_cast, DrawG, Int.cast_ofNat_Int, seval, getD_in _ _ _ hs, getD_in _ _ _ hb, ← ha, i64P, celP]); (try (refine xsu ?_; try exact xtI))))
        simp (etaStruct := .none) only [push_cast, DrawG, Int.cast_ofNat_Int, seval, hireAt, wldA, List.map_set, List.map_append, i64P, trpP]
        exact ret0 rfl (by repeat' (first | exact trivial | exact rfl | refine ⟨?_, ?_⟩)) (Wk.refl _)
       ·(try replace h7 := xhh h7)
        have hfb : freeB w x = false := by
         unfold freeB
         rcases h7 with h7 | h7
         ·rw [h7]; rfl
         ·rw [h7]; simp
        (iterate 2 ((try simp (etaStruct := .none) (maxSteps := 1000000) only [push_cast, DrawG, Int.cast_ofNat_Int, seval, getD_in _ _ _ hs, getD_in _ _ _ hb, ← ha, i64P, celP]); (try (refine xsu ?_; try exact xtI))))
        refine ⟨i + 1, ⟨by omega, fun j hj => by
 rcases Nat.lt_or_ge j i with h' | h'
 ·exact hn j h'
 ·rw [show j = i by omega, ← hx]; exact hfb⟩, by omega, To.mk [0, 1, 2, 3, 4, 5, 6] rfl rfl (by decide) ?_ ?_⟩
        ·(iterate 2 ((try simp (etaStruct := .none) (maxSteps := 1000000) only [push_cast, DrawG, Int.cast_ofNat_Int, seval, getD_in _ _ _ hs, getD_in _ _ _ hb, ← ha, i64P, celP]); (try (refine xsu ?_; try exact xtI))))
        ·(iterate 2 ((try simp (etaStruct := .none) only [push_cast, DrawG, Int.cast_ofNat_Int, seval, Int.add_sub_cancel, Int.sub_add_cancel]); (try (refine xsu ?_; try exact xtI))))
     ·(try replace h5 := xhh h5)
      obtain ⟨rfl, rfl⟩ := hW2 hyes (find_miss _ _ (fun j hj => hn j (by rw [hal] at hj; omega)))
      (iterate 2 ((try simp (etaStruct := .none) (maxSteps := 1000000) only [push_cast, DrawG, Int.cast_ofNat_Int, seval, getD_in _ _ _ hs, getD_in _ _ _ hb, ← ha, i64P, celP]); (try (refine xsu ?_; try exact xtI))))
      exact xrz rfl
   ·(try replace h3 := xhh h3)
    exact absurd h h3
end Go.Proofs.YthiddmncjafklaaGreat
namespace Go.Proofs.YthiddmncjafklaaGreat
set_option linter.all false
open Go.RowKit
set_option maxRecDepth 100000
set_option maxHeartbeats 1000000
theorem deeded_s (w : Wld) (d : Ded) (hw : Right w) : Spec Tryz.prog 68 [wldA w, dedA d] [] (.tup [wldA (deedV w d).1, B (deedV w d).2]) [] := by
 have none : d.kind = 1 ∨ d.kind = 2 → w.troops.findIdx? (isId d.who) = none → Spec Tryz.prog 68 [wldA w, dedA d] [] (.tup [wldA w, B false]) [] := fun h hf => by
  rcases Nat.eq_zero_or_pos w.troops.length with h3 | h3
  ·exact rd_empty w d hw h (List.eq_nil_of_length_eq_zero h3)
  ·exact rd_none w d hw h hf h3
 unfold deedV
 split
 ·rename_i h
  split
  ·rename_i i hi
   split
   ·rename_i ho; exact rd_mine w d i hw h hi true _ ⟨fun _ => ⟨rfl, rfl⟩, fun h2 => by rw [ho] at h2; simp at h2⟩
   ·rename_i ho; exact rd_mine w d i hw h hi false _ ⟨fun h2 => absurd h2 ho, fun _ => ⟨rfl, rfl⟩⟩
  ·rename_i hi; exact none (.inl h) hi
 ·split
  ·rename_i h
   split
   ·rename_i i hi
    split
    ·rename_i ho; exact rd_drop w d i hw h hi _ _ ⟨fun _ => ⟨rfl, rfl⟩, fun h2 => by rw [ho] at h2; simp at h2⟩
    ·rename_i ho; exact rd_drop w d i hw h hi false _ ⟨fun h2 => absurd h2 ho, fun _ => ⟨rfl, rfl⟩⟩
   ·rename_i hi; exact none (.inr h) hi
  ·split
   ·rename_i h
    split
    ·rename_i ho
     have hoi := hireOk_iff.1 ho
     have hs : d.who.toNat < w.stocks.length := by have := hw.sl; omega
     split
     ·rename_i c hc; exact rd_hire w d hw h hs true _ (fun h2 => by rw [ho] at h2; simp at h2) (fun _ h2 => by rw [hc] at h2; simp at h2) (fun c' _ h2 => by rw [hc] at h2; rw [Option.some.inj h2]; exact ⟨rfl, rfl⟩)
     ·rename_i hc; exact rd_hire w d hw h hs false _ (fun h2 => by rw [ho] at h2; simp at h2) (fun _ _ => ⟨rfl, rfl⟩) (fun c' _ h2 => by rw [hc] at h2; simp at h2)
    ·rename_i ho
     rcases Nat.lt_or_ge d.who.toNat w.stocks.length with h2 | h2
     ·exact rd_hire w d hw h h2 false _ (fun _ => ⟨rfl, rfl⟩) (fun h3 => absurd h3 ho) (fun c' h3 => absurd h3 ho)
     ·exact rd_hout w d hw h h2
   ·exact rd_0 w d hw ⟨by assumption, by assumption, by assumption⟩
theorem deededAll_s (w : Wld) (l : List Ded) (hw : Right w) (hll : l.length ≤ 200) : Spec Tryz.prog 34 [wldA w, .c (.sl 5 (l.map dedP))] [] (.tup [wldA (deedsA w l).1, .c (.sl 1 ((deedsA w l).2.map boolP))]) [] := by
 refine spec_am Tryz.func34 rfl rfl mix 29 rfl [.cell 4 28, .tmp 5] Tryz.results34 (Nat.le_of_ble_eq_true rfl) ?_
 (try (refine xst ?_; try exact xtI))
 refine loopI (fun k : Nat => ⟨[(12, I .i64 k), (11, I .i64 l.length), (10, .c (.sl 5 (l.map dedP))), (6, .own 2), (4, .ptr 1 0 0), (2, .ptr 0 0 0)], [(0, .blk 28 (wldC (deedsA w (l.take k)).1)), (1, .blk 28 [I .i64 0, I .i64 0, .c (.v (.slice none 0 0)), .c (.v (.slice none 0 0)), .c (.v (.slice none 0 0)), .c (.v (.slice none 0 0)), .c (.v (.slice none 0 0)), I .i64 0, I .i64 0]), (2, .row 4 1 ((deedsA w (l.take k)).2.map boolP))], 3⟩) (fun k : Nat => k ≤ l.length) (fun k : Nat => l.length - k) (0) (Nat.zero_le _) ((To.nil 6 4 1 rfl).trans (To.mk [0, 1, 2] rfl rfl (by decide) ?_ ?_)) ?_
 ·simp (etaStruct := .none) only [push_cast, DrawG, Int.cast_ofNat_Int, seval, List.take_zero, deedsA]
 ·simp (etaStruct := .none) only [push_cast, DrawG, Int.cast_ofNat_Int, seval]
 rintro k hk
 (try (refine xst ?_; try exact xtI))
 refine cond_i (fun h1 => ?_) (fun h1 => ?_)
 ·(try replace h1 := xhh h1)
  have hlt : k < l.length := by omega
  obtain ⟨d, hd⟩ : ∃ d, d = l.getD k default := ⟨_, rfl⟩
  have hst : deedsA w (l.take (k + 1)) = ((deedV (deedsA w (l.take k)).1 d).1, (deedsA w (l.take k)).2 ++ [(deedV (deedsA w (l.take k)).1 d).2]) := by rw [take_snoc _ _ hlt, ← hd, deedsA_snoc]
  have hR := right_deeds (l.take k) hw
  have hbl := deedsA_len (l.take k) w
  rw [List.length_take] at hbl
  generalize (deedsA w (l.take k)).1 = W at *
  generalize (deedsA w (l.take k)).2 = bs at *
  (iterate 2 ((try simp (etaStruct := .none) only [push_cast, DrawG, Int.cast_ofNat_Int, seval, getD_in _ _ _ hlt, ← hd, dedP, boolP]); (try (refine xsu ?_; try exact xtI))))
  refine caP (deeded_s W d hR) ?_
  (iterate 2 ((try simp (etaStruct := .none) only [push_cast, DrawG, Int.cast_ofNat_Int, seval, getD_in _ _ _ hlt, ← hd, dedP, boolP]); (try (refine xsu ?_; try exact xtI))))
  refine ⟨k + 1, by omega, by omega, To.mk [0, 1, 5] rfl rfl (by decide) ?_ ?_⟩
  ·(iterate 2 ((try simp (etaStruct := .none) only [push_cast, DrawG, Int.cast_ofNat_Int, seval, hst, List.map_append, boolP]); (try (refine xsu ?_; try exact xtI))))
  ·(iterate 2 ((try simp (etaStruct := .none) only [push_cast, DrawG, Int.cast_ofNat_Int, seval, getD_in _ _ _ hlt, ← hd, dedP, boolP]); (try (refine xsu ?_; try exact xtI))))
 ·(try replace h1 := xhh h1)
  obtain rfl : k = l.length := by omega
  (iterate 2 ((try simp (etaStruct := .none) only [push_cast, DrawG, Int.cast_ofNat_Int, seval, List.take_length]); (try (refine xsu ?_; try exact xtI))))
  exact xrz rfl
end Go.Proofs.YthiddmncjafklaaGreat
namespace Go.Proofs.YthiddmncjafklaaGreat
set_option linter.all false
open Go.RowKit
set_option maxRecDepth 100000
set_option maxHeartbeats 1000000
theorem splitE_o {l : List Ord} {w : Wld} (h : ordsE l = 0) : splitE l w = worldE w := by unfold splitE; rw [if_neg (by simp [h])]
theorem splitE_n {l : List Ord} {w : Wld} (h : ordsE l ≠ 0) : splitE l w = ordsE l := by unfold splitE; rw [if_pos h]
theorem rturn_k (w : Wld) (l : List Ord) (WR : Cel → List Int) (hWR : ∀ a, FloodIs w.f [a] (WR a)) (hll : l.length ≤ 9223372036854775807) (h : turnE l w = 0) : Spec Tryz.prog 8 [wldA w, .c (.sl 6 (l.map ordP))] [] (.tup [wldA (turnV WR w l), repA (turnG w l) (turnM WR w l) (turnD WR w l), I .i64 0]) [] := by
 have hs : splitE l w = 0 := by unfold turnE at h; split at h; rename_i h1; exact absurd h h1; rename_i h1; simpa using h1
 have hn : w.now < 1000000 := by unfold turnE at h; rw [if_neg (by simp [hs])] at h; split at h; exact absurd h (by decide); omega
 obtain ⟨ho, hw⟩ := splitE_ok hs
 have R0 := right_of hw
 have RA := right_tkA R0 l
 have RB := right_tkB R0 hWR l
 have RC := right_tkC R0 hWR l
 obtain ⟨o1, o2⟩ := ordsE_ok ho
 obtain ⟨n1, n2, n3⟩ := split_lens (w := w) ho
 have hnow : (tkC WR w l).now = w.now := tkC_now WR w l
 have hnw := R0.nw
 have OR := orights_s l hll
 rw [ho] at OR
 have WRI := wright_s w R0.l
 rw [hw] at WRI
 have HK := struckw_s w (blowsV l w) R0.l hw (by omega)
 rw [show struckW w (blowsV l w) = tkA w l from rfl, show goneV w (blowsV l w) = turnG w l from rfl] at HK
 have hfo := fldE_ok RA.f
 have hb := right_b RA
 have MK := marched_s (tkA w l) (goesV l w) WR hWR (by omega) (by omega) (by omega)
 rw [show setT (tkA w l) (marchV (tkA w l).f WR (goesV l w) (tkA w l).troops).1 = tkB WR w l from rfl, show (marchV (tkA w l).f WR (goesV l w) (tkA w l).troops).2 = turnM WR w l from rfl] at MK
 have DK := deededAll_s (tkB WR w l) (deedsV l w) RB (by omega)
 rw [show (deedsA (tkB WR w l) (deedsV l w)).1 = tkC WR w l from rfl, show (deedsA (tkB WR w l) (deedsV l w)).2 = turnD WR w l from rfl] at DK
 have hup : IntKind.i64.wrap ((tkC WR w l).now + 1) = w.now + 1 := by rw [hnow]; exact wrap_in _ (by omega) (by omega)
 have htv : turnV WR w l = { tkC WR w l with now := w.now + 1 } := by unfold turnV nowUp; rw [hnow]
 rw [htv]
 refine spec_am Tryz.func8 rfl rfl mix 66 rfl [.cell 4 28, .cell 5 32, .tmp 6] Tryz.results8 (Nat.le_of_ble_eq_true rfl) ?_
 (try (refine xst ?_; try exact xtI))
 refine caP (OR) ?_
 (try (refine xst ?_; try exact xtI))
 refine cond_i (fun h1 => ?_) (fun h1 => ?_)
 ·(try replace h1 := xhh h1)
  (try (refine xst ?_; try exact xtI))
  refine caP (WRI) ?_
  (try (refine xst ?_; try exact xtI))
  refine cond_i (fun h2 => ?_) (fun h2 => ?_)
  ·(try replace h2 := xhh h2)
   omega
  ·(try replace h2 := xhh h2)
   (try (refine xst ?_; try exact xtI))
   refine cond_i (fun h3 => ?_) (fun h3 => ?_)
   ·(try replace h3 := xhh h3)
    simp at h3
   ·(try replace h3 := xhh h3)
    (iterate 2 ((try simp (etaStruct := .none) only [push_cast, DrawG, Int.cast_ofNat_Int, seval, hup]); (try (refine xsu ?_; try exact xtI))))
    refine caP (blows_s l w R0.l o1) ?_
    (iterate 2 ((try simp (etaStruct := .none) only [push_cast, DrawG, Int.cast_ofNat_Int, seval, hup]); (try (refine xsu ?_; try exact xtI))))
    refine caP (goes_s l w R0.l o1) ?_
    (iterate 2 ((try simp (etaStruct := .none) only [push_cast, DrawG, Int.cast_ofNat_Int, seval, hup]); (try (refine xsu ?_; try exact xtI))))
    refine caP (deeds_s l w R0.l o1 o2) ?_
    (iterate 2 ((try simp (etaStruct := .none) only [push_cast, DrawG, Int.cast_ofNat_Int, seval, hup]); (try (refine xsu ?_; try exact xtI))))
    (try (refine ⟨by kernel_rfl, ?_⟩))
    (iterate 2 ((try simp (etaStruct := .none) only [push_cast, DrawG, Int.cast_ofNat_Int, seval, hup]); (try (refine xsu ?_; try exact xtI))))
    refine caP (HK) ?_
    (iterate 2 ((try simp (etaStruct := .none) only [push_cast, DrawG, Int.cast_ofNat_Int, seval, hup]); (try (refine xsu ?_; try exact xtI))))
    refine caP (MK) ?_
    (iterate 2 ((try simp (etaStruct := .none) only [push_cast, DrawG, Int.cast_ofNat_Int, seval, hup]); (try (refine xsu ?_; try exact xtI))))
    refine caP (DK) ?_
    (iterate 2 ((try simp (etaStruct := .none) only [push_cast, DrawG, Int.cast_ofNat_Int, seval, hup]); (try (refine xsu ?_; try exact xtI))))
    (try (refine ⟨by kernel_rfl, ?_⟩))
    (iterate 2 ((try simp (etaStruct := .none) only [push_cast, DrawG, Int.cast_ofNat_Int, seval, hup]); (try (refine xsu ?_; try exact xtI))))
    exact xrz rfl
 ·(try replace h1 := xhh h1)
  simp at h1
theorem rturn_o (w : Wld) (l : List Ord) (hl : wldL w) (hll : l.length ≤ 9223372036854775807) (h : ordsE l ≠ 0) : Spec Tryz.prog 8 [wldA w, .c (.sl 6 (l.map ordP))] [] (.tup [wldA default, repA [] [] [], I .i64 (ordsE l)]) [] := by
 refine spec_am Tryz.func8 rfl rfl mix 66 rfl [.cell 4 28, .cell 5 32, .tmp 6] Tryz.results8 (Nat.le_of_ble_eq_true rfl) ?_
 (try (refine xst ?_; try exact xtI))
 refine caP (orights_s l hll) ?_
 (try (refine xst ?_; try exact xtI))
 refine cond_i (fun h1 => ?_) (fun h1 => ?_)
 ·(try replace h1 := xhh h1)
  exact absurd h1 h
 ·(try replace h1 := xhh h1)
  (try (refine xst ?_; try exact xtI))
  refine cond_i (fun h2 => ?_) (fun h2 => ?_)
  ·(try replace h2 := xhh h2)
   exact absurd h2.1 h
  ·(try replace h2 := xhh h2)
   (try (refine xst ?_; try exact xtI))
   refine cond_i (fun h3 => ?_) (fun h3 => ?_)
   ·(try replace h3 := xhh h3)
    (try (refine xst ?_; try exact xtI))
    exact xrz rfl
   ·(try replace h3 := xhh h3)
    exact absurd h3 h
theorem rturn_w (w : Wld) (l : List Ord) (hl : wldL w) (hll : l.length ≤ 9223372036854775807) (ho : ordsE l = 0) (h : worldE w ≠ 0) : Spec Tryz.prog 8 [wldA w, .c (.sl 6 (l.map ordP))] [] (.tup [wldA default, repA [] [] [], I .i64 (worldE w)]) [] := by
 have OR := orights_s l hll
 rw [ho] at OR
 refine spec_am Tryz.func8 rfl rfl mix 66 rfl [.cell 4 28, .cell 5 32, .tmp 6] Tryz.results8 (Nat.le_of_ble_eq_true rfl) ?_
 (try (refine xst ?_; try exact xtI))
 refine caP (OR) ?_
 (try (refine xst ?_; try exact xtI))
 refine cond_i (fun h1 => ?_) (fun h1 => ?_)
 ·(try replace h1 := xhh h1)
  (try (refine xst ?_; try exact xtI))
  refine caP (wright_s w hl) ?_
  (try (refine xst ?_; try exact xtI))
  refine cond_i (fun h2 => ?_) (fun h2 => ?_)
  ·(try replace h2 := xhh h2)
   exact absurd h2.1 h
  ·(try replace h2 := xhh h2)
   (try (refine xst ?_; try exact xtI))
   refine cond_i (fun h3 => ?_) (fun h3 => ?_)
   ·(try replace h3 := xhh h3)
    (try (refine xst ?_; try exact xtI))
    exact xrz rfl
   ·(try replace h3 := xhh h3)
    exact absurd h3 h
 ·(try replace h1 := xhh h1)
  simp at h1
theorem rturn_f (w : Wld) (l : List Ord) (hl : wldL w) (hll : l.length ≤ 9223372036854775807) (ho : ordsE l = 0) (hw : worldE w = 0) (hn : 1000000 ≤ w.now) : Spec Tryz.prog 8 [wldA w, .c (.sl 6 (l.map ordP))] [] (.tup [wldA default, repA [] [] [], I .i64 6]) [] := by
 have OR := orights_s l hll
 rw [ho] at OR
 have WRI := wright_s w hl
 rw [hw] at WRI
 have hnw := (right_of hw).nw
 refine spec_am Tryz.func8 rfl rfl mix 66 rfl [.cell 4 28, .cell 5 32, .tmp 6] Tryz.results8 (Nat.le_of_ble_eq_true rfl) ?_
 (try (refine xst ?_; try exact xtI))
 refine caP (OR) ?_
 (try (refine xst ?_; try exact xtI))
 refine cond_i (fun h1 => ?_) (fun h1 => ?_)
 ·(try replace h1 := xhh h1)
  (try (refine xst ?_; try exact xtI))
  refine caP (WRI) ?_
  (try (refine xst ?_; try exact xtI))
  refine cond_i (fun h2 => ?_) (fun h2 => ?_)
  ·(try replace h2 := xhh h2)
   (try (refine xst ?_; try exact xtI))
   refine cond_i (fun h3 => ?_) (fun h3 => ?_)
   ·(try replace h3 := xhh h3)
    (try (refine xst ?_; try exact xtI))
    exact xrz rfl
   ·(try replace h3 := xhh h3)
    simp at h3
  ·(try replace h2 := xhh h2)
   omega
 ·(try replace h1 := xhh h1)
  simp at h1
def turnW (WR : Cel → List Int) (w : Wld) (l : List Ord) : Wld := if turnE l w = 0 then turnV WR w l else default
def turnGR (w : Wld) (l : List Ord) : List Int := if turnE l w = 0 then turnG w l else []
def turnMR (WR : Cel → List Int) (w : Wld) (l : List Ord) : List Int := if turnE l w = 0 then turnM WR w l else []
def turnDR (WR : Cel → List Int) (w : Wld) (l : List Ord) : List Bool := if turnE l w = 0 then turnD WR w l else []
theorem tturn_s (w : Wld) (l : List Ord) (WR : Cel → List Int) (hWR : ∀ a, FloodIs w.f [a] (WR a)) (hl : wldL w) (hll : l.length ≤ 9223372036854775807) : Spec Tryz.prog 7 [wldA w, .c (.sl 6 (l.map ordP))] [] (.tup [wldA (turnW WR w l), repA (turnGR w l) (turnMR WR w l) (turnDR WR w l), I .i64 (turnE l w)]) [] := by
 unfold turnW turnGR turnMR turnDR
 by_cases h : turnE l w = 0
 ·rw [if_pos h, if_pos h, if_pos h, if_pos h, h]; exact tturn_k w l WR hWR hll h
 ·rw [if_neg h, if_neg h, if_neg h, if_neg h]
  by_cases hs : splitE l w = 0
  ·have hn : 1000000 ≤ w.now := by
    unfold turnE at h; rw [if_neg (by simp [hs])] at h; split at h; assumption; exact absurd rfl h
   rw [show turnE l w = 6 from by unfold turnE; rw [if_neg (by simp [hs]), if_pos hn]]; exact tturn_f w l hl hll hs hn
  ·rw [show turnE l w = splitE l w from by unfold turnE; rw [if_pos hs]]; exact tturn_e w l hl hll hs
theorem rturn_s (w : Wld) (l : List Ord) (WR : Cel → List Int) (hWR : ∀ a, FloodIs w.f [a] (WR a)) (hl : wldL w) (hll : l.length ≤ 9223372036854775807) : Spec Tryz.prog 8 [wldA w, .c (.sl 6 (l.map ordP))] [] (.tup [wldA (turnW WR w l), repA (turnGR w l) (turnMR WR w l) (turnDR WR w l), I .i64 (turnE l w)]) [] := by
 unfold turnW turnGR turnMR turnDR
 by_cases h : turnE l w = 0
 ·rw [if_pos h, if_pos h, if_pos h, if_pos h, h]; exact rturn_k w l WR hWR hll h
 ·rw [if_neg h, if_neg h, if_neg h, if_neg h]
  by_cases hs : splitE l w = 0
  ·have hn : 1000000 ≤ w.now := by
    unfold turnE at h; rw [if_neg (by simp [hs])] at h; split at h; assumption; exact absurd rfl h
   obtain ⟨ho, hw⟩ := splitE_ok hs
   rw [show turnE l w = 6 from by unfold turnE; rw [if_neg (by simp [hs]), if_pos hn]]; exact rturn_f w l hl hll ho hw hn
  ·rw [show turnE l w = splitE l w from by unfold turnE; rw [if_pos hs]]
   by_cases ho : ordsE l = 0
   ·rw [splitE_o ho] at hs ⊢; exact rturn_w w l hl hll ho hs
   ·rw [splitE_n ho]; exact rturn_o w l hl hll ho
end Go.Proofs.YthiddmncjafklaaGreat
namespace Go.Proofs.YthiddmncjafklaaGreat
set_option linter.all false
open Go.RowKit
theorem spec_any {P : Program} {f : FuncId} (hf : Enters P f) (args : List AV) (r : AV) (v : Value) (hr : ∀ (U : Nat → Prop) (w : World) (F : Nat → Prop) (β : Nat → Option Bind), RelA U w F β r v)
 (h : ∀ (w : World) (F : Nat → Prop) (β : Nat → Option Bind) (vs : List Value), (∀ b, F b → b < w.heap.size) → RelL (· < 0) w F β args vs → Calls P f vs.toArray w fun e w' => e = .returned v ∧ Below w.heap.size w w') : Spec P f args [] r [] := by
 refine ⟨hf, Nat.le_refl _, fun w F β vs M hv => ?_⟩
 refine (h w F β vs M.fin hv).mono ?_
 rintro e w' ⟨rfl, hb⟩
 obtain ⟨S1, S2⟩ := M.step (w' := w') (h' := nth []) (β' := β) (F' := F) (U' := (· < 0)) (fun _ => False) (fun _ _ => rfl) (fun _ _ => rfl) hb.os hb.tape hb.output hb.size (fun b h _ => hb.block b h) (fun _ h => h) (fun _ h => h)
  (fun b h => ⟨Nat.lt_of_lt_of_le (M.fin b h) hb.size, .inl h⟩) (fun _ _ h => h.elim) (fun _ _ h => h.elim) (fun _ _ _ _ _ h => h.elim) (fun _ _ h => h.elim)
 exact ⟨v, F, β, rfl, S1, hr _ _ _ _, fun _ h => h, fun _ h => .inl h, fun _ _ _ h => h⟩
theorem rel_els {α : Type} {w : World} {F : Nat → Prop} {u : Value} (enc : α → Value) (xs : List α) (hF : ∀ b, F b → b < w.heap.size) (h : RelP w F (.sl 1 (xs.map fun x => [.v (enc x)])) u) :
 ∃ a c, u = .slice a xs.length c ∧ xs.length ≤ c ∧ c ≤ maxLen ∧ Els w w.heap.size a 1 (fun x => [enc x]) xs := by
 simp only [RelP] at h
 obtain ⟨a, c, rfl, h1, h2, h3⟩ := h
 rw [List.length_map] at h1
 refine ⟨a, c, by rw [List.length_map], h1, h2, ?_⟩
 rcases h3 with h3 | ⟨b, o, rfl, hb, hE⟩
 ·exact .inl (by simpa using h3)
 ·refine .inr ⟨b, o, rfl, hF b hb, fun i j v hv => ?_⟩
  cases hx : xs[i]? with
  | none => rw [hx] at hv; simp at hv
  | some x =>
   rw [hx] at hv
   cases j with
   | succ j => simp at hv
   | zero =>
    have hv' : enc x = v := by simpa using hv
    obtain ⟨_, hc⟩ := RelE.at hE i [.v (enc x)] (by simp [hx])
    obtain ⟨u, hu, hr⟩ := RelC.at hc 0 _ rfl
    simp only [RelP] at hr
    rw [← hv', ← hr.1, ← hu]; rfl
theorem relL_one {w : World} {U F : Nat → Prop} {β : Nat → Option Bind} {p : PV} {vs : List Value} (h : RelL U w F β [.c p] vs) : ∃ u, vs = [u] ∧ RelP w F p u := by
 simp only [RelL, RelA] at h
 obtain ⟨u, us, rfl, h1, rfl⟩ := h
 exact ⟨u, rfl, h1⟩
end Go.Proofs.YthiddmncjafklaaGreat
namespace Go.Proofs.YthiddmncjafklaaGreat
set_option linter.all false
open Go.RowKit
def xsh (X s : Nat) : Nat := X ^^^ X / s
def mxA (n : Nat) : Nat := (n + 11400714819323198485) % 18446744073709551616
def mxB (n : Nat) : Nat := xsh (mxA n) 1073741824 * 13787848793156543929 % 18446744073709551616
def mxC (n : Nat) : Nat := xsh (mxB n) 134217728 * 10723151780598845931 % 18446744073709551616
def mx (n : Nat) : Nat := xsh (mxC n) 2147483648
theorem xsh_lt (X s : Nat) (h : X < 18446744073709551616) : xsh X s < 18446744073709551616 := by
 have hd : X / s ≤ X := Nat.div_le_self _ _
 exact Nat.xor_lt_two_pow (n := 64) h (by omega)
theorem mxA_lt (n : Nat) : mxA n < 18446744073709551616 := Nat.mod_lt _ (by decide)
theorem mxB_lt (n : Nat) : mxB n < 18446744073709551616 := Nat.mod_lt _ (by decide)
theorem mxC_lt (n : Nat) : mxC n < 18446744073709551616 := Nat.mod_lt _ (by decide)
theorem mx_lt (n : Nat) : mx n < 18446744073709551616 := xsh_lt _ _ (mxC_lt n)
theorem mxA_eq (n : Nat) : IntKind.u64.wrap ((n : Int) + 11400714819323198485) = (mxA n : Int) := by
 rw [IntKind.wrap_u64]; unfold mxA; rw [Int.natCast_emod, Int.natCast_add]; rfl
theorem xor_eq (X s : Nat) (h : X < 18446744073709551616) : bits .xor .u64 (X : Int) ((X : Int) / (s : Int)) = (xsh X s : Int) := xorShift_u64 X s h
theorem mxB_eq (n : Nat) : IntKind.u64.wrap (bits .xor .u64 (mxA n : Int) ((mxA n : Int) / 1073741824) * 13787848793156543929) = (mxB n : Int) := mixStep_u64 _ 1073741824 13787848793156543929 (mxA_lt n)
theorem mxC_eq (n : Nat) : IntKind.u64.wrap (bits .xor .u64 (mxB n : Int) ((mxB n : Int) / 134217728) * 10723151780598845931) = (mxC n : Int) := mixStep_u64 _ 134217728 10723151780598845931 (mxB_lt n)
theorem t64_step (a b P Q : Nat) (p : Int) (hp : p = (P : Int)) (hQ : Q = P * 65536) :
 IntKind.u64.wrap ((b : Int) * ((a : Int) % p) % 18446744073709551616 + IntKind.u64.wrap (IntKind.u64.wrap ((b : Int) * ((a : Int) / p % 65536)) * p)) = ((b * (a % Q) % 18446744073709551616 : Nat) : Int) := by
 subst hp hQ
 simp only [IntKind.wrap_u64]
 have e : ((b : Int) * ((a : Int) % (P : Int)) % 18446744073709551616 + ((b : Int) * ((a : Int) / (P : Int) % 65536)) % 18446744073709551616 * (P : Int) % 18446744073709551616) % 18446744073709551616 = (((b * (a % P) % 18446744073709551616 + (b * (a / P % 65536)) % 18446744073709551616 * P % 18446744073709551616) % 18446744073709551616 : Nat) : Int) := by simp only [Int.natCast_emod, Int.natCast_add, Int.natCast_mul, Int.natCast_ediv]; rfl
 rw [e]
 congr 1
 simp only [Nat.add_mod_mod, Nat.mod_add_mod, Nat.mod_mul_mod]
 congr 1
 rw [Nat.mod_mul, Nat.mul_add, Nat.mul_assoc, Nat.mul_comm P]
theorem t64_first (a b : Nat) : IntKind.u64.wrap (IntKind.u64.wrap (IntKind.u64.wrap ((b : Int) * ((a : Int) % 65536)))) = ((b * (a % 65536) % 18446744073709551616 : Nat) : Int) := by
 simp only [IntKind.wrap_u64, Int.emod_emod]
 simp only [Int.natCast_emod, Int.natCast_mul]; rfl
set_option maxHeartbeats 800000 in
theorem mix_any (n : Nat) (w : World) :
 Calls Tryz.prog 148 #[.int .u64 n] w fun e w' => e = .returned (.int .u64 (mx n)) ∧ w = w' := by
 go_enter Tryz.func148, Tryz.ntmps148
 go_wp2
 go_ret
 refine ⟨ret_u64 ?_, rfl⟩
 rw [mxA_eq, mxB_eq, mxC_eq]
 exact xor_eq (mxC n) 2147483648 (mxC_lt n)
set_option maxHeartbeats 800000 in
theorem times_any (a b : Nat) (ha : a < 18446744073709551616) (w : World) :
 Calls Tryz.prog 152 #[.int .u64 a, .int .u64 b] w fun e w' => e = .returned (.int .u64 (b * a % 18446744073709551616 : Nat)) ∧ w = w' := by
 go_enter Tryz.func152, Tryz.ntmps152
 go_wp2_with fail
 go_loop [5, 8] (fun o i => ∃ k : Nat, k ≤ 4 ∧ i = .int .i64 k ∧ o = .int .u64 (b * (a % 2 ^ (16 * k)) % 18446744073709551616 : Nat)) (fun _ i => 4 - (intOf i).toNat)
 case atStart => exact ⟨0, by omega, rfl, by simp [Nat.mod_one]⟩
 case round =>
  obtain ⟨k, hk, rfl, rfl⟩ := hrel
  by_cases h4 : k = 4
  ·subst h4
   go_wp2_with fail
   go_ret
   refine ⟨ret_u64 ?_, rfl⟩
   rfl
  ·have hk4 : k = 0 ∨ k = 1 ∨ k = 2 ∨ k = 3 := by omega
   clear hk h4
   rcases hk4 with rfl | rfl | rfl | rfl
   all_goals
    go_wp2_with fail
    go_round
    case measure => simp [intOf]
   case rel => exact ⟨1, by omega, rfl, congrArg (Value.int .u64) (t64_first a b)⟩
   case rel => exact ⟨2, by omega, rfl, congrArg (Value.int .u64) (t64_step a b 65536 _ _ rfl (by decide))⟩
   case rel => exact ⟨3, by omega, rfl, congrArg (Value.int .u64) (t64_step a b 4294967296 _ _ rfl (by decide))⟩
   case rel => exact ⟨4, by omega, rfl, congrArg (Value.int .u64) (t64_step a b 281474976710656 _ _ rfl (by decide))⟩
theorem xorq_eq (X S : Nat) (s : Int) (hs : s = (S : Int)) (h : X < 18446744073709551616) : bits .xor .u64 (X : Int) (IntKind.u64.wrap ((X : Int).tdiv s)) = (xsh X S : Int) := by
 subst hs
 have e : IntKind.u64.wrap ((X : Int).tdiv (S : Int)) = (X : Int) / (S : Int) := by
  rw [Int.tdiv_eq_ediv_of_nonneg (by omega), ← Int.natCast_ediv, IntKind.wrap_u64]
  have hd : X / S ≤ X := Nat.div_le_self _ _
  generalize X / S = q at hd
  omega
 rw [e]; exact xor_eq X S h
theorem xorw_eq (X S : Nat) (s : Int) (hs : s = (S : Int)) (h : X < 18446744073709551616) : bits .xor .u64 (X : Int) (IntKind.u64.wrap ((X : Int) / s)) = (xsh X S : Int) := by
 rw [← xorq_eq X S s hs h, Int.tdiv_eq_ediv_of_nonneg (by omega)]
set_option maxHeartbeats 800000 in
theorem mixed_any (n : Nat) (w : World) :
 Calls Tryz.prog 116 #[.int .u64 n] w fun e w' => e = .returned (.int .u64 (mx n)) ∧ w = w' := by
 go_enter Tryz.func116, Tryz.ntmps116
 go_wp2_with fail
 rw [mxA_eq, xorq_eq (mxA n) 1073741824 1073741824 rfl (mxA_lt n)]
 refine (times_any _ 13787848793156543929 (xsh_lt _ _ (mxA_lt n)) _).mono ?_
 rintro e w' ⟨rfl, rfl⟩
 rw [show (13787848793156543929 * xsh (mxA n) 1073741824 % 18446744073709551616) = mxB n from by rw [Nat.mul_comm]; rfl]
 go_wp2_with fail
 rw [xorw_eq (mxB n) 134217728 134217728 rfl (mxB_lt n)]
 refine (times_any _ 10723151780598845931 (xsh_lt _ _ (mxB_lt n)) _).mono ?_
 rintro e w' ⟨rfl, rfl⟩
 rw [show (10723151780598845931 * xsh (mxB n) 134217728 % 18446744073709551616) = mxC n from by rw [Nat.mul_comm]; rfl]
 go_wp2_with fail
 go_ret
 exact ⟨ret_u64 (xorw_eq (mxC n) 2147483648 2147483648 rfl (mxC_lt n)), rfl⟩
theorem xorN (a b : Nat) (ha : a < 18446744073709551616) (hb : b < 18446744073709551616) : bits .xor .u64 (a : Int) (b : Int) = ((a ^^^ b : Nat) : Int) := bits_xor_u64_nat a b ha hb
theorem xorN_lt (a b : Nat) (ha : a < 18446744073709551616) (hb : b < 18446744073709551616) : a ^^^ b < 18446744073709551616 := Nat.xor_lt_two_pow (n := 64) ha hb
set_option maxHeartbeats 800000 in
theorem turn_any (m n : Nat) (hm : m < 18446744073709551616) (w : World) :
 Calls Tryz.prog 149 #[.int .u64 m, .int .u64 n] w fun e w' => e = .returned (.int .u64 (m ^^^ mx n : Nat)) ∧ w = w' := by
 have h := xorN m (mx n) hm (mx_lt n)
 have H := Lib.hid h; clear h hm
 go_enter Tryz.func149, Tryz.ntmps149
 go_wp2_with (go_at_call 148; refine (mix_any _ _).mono ?_; rintro e w' ⟨rfl, rfl⟩)
 go_ret
 exact ⟨ret_u64 H.out, rfl⟩
end Go.Proofs.YthiddmncjafklaaGreat
namespace Go.Proofs.YthiddmncjafklaaGreat
set_option linter.all false
open Go.RowKit
def mb (m : Nat) (b : UInt8) : Nat := mx (m ^^^ b.toNat)
theorem mb_lt (m : Nat) (b : UInt8) : mb m b < 18446744073709551616 := mx_lt _
def lf (m : Nat) : List UInt8 → Nat
 | [] => m
 | b :: l => lf (mb m b) l
theorem lf_snoc (m : Nat) (l : List UInt8) (b : UInt8) : lf m (l ++ [b]) = mb (lf m l) b := by
 induction l generalizing m with
 | nil => simp only [List.nil_append, lf]
 | cons c l ih => simp only [List.cons_append, lf, ih]
theorem lf_lt (l : List UInt8) : ∀ m, m < 18446744073709551616 → lf m l < 18446744073709551616 := by
 induction l with
 | nil => intro m h; rw [lf]; exact h
 | cons b l ih => intro m _; rw [lf]; exact ih _ (mb_lt _ _)
def mz (n : Nat) : Nat := mx n
theorem mz_lt (n : Nat) : mz n < 18446744073709551616 := mx_lt _
def leafN (s : ByteArray) : Nat := lf (mz s.size) s.data.toList
theorem mix_z (n : Nat) (w : World) : Calls Tryz.prog 148 #[.int .u64 n] w fun e w' => e = .returned (.int .u64 (mz n : Nat)) ∧ w = w' := mix_any n w
theorem mix_b (m : Nat) (b : UInt8) (w : World) : Calls Tryz.prog 148 #[.int .u64 (m ^^^ b.toNat : Nat)] w fun e w' => e = .returned (.int .u64 (mb m b : Nat)) ∧ w = w' := mix_any _ w
theorem mixed_z (n : Nat) (w : World) : Calls Tryz.prog 116 #[.int .u64 n] w fun e w' => e = .returned (.int .u64 (mz n : Nat)) ∧ w = w' := mixed_any n w
theorem mixed_b (m : Nat) (b : UInt8) (w : World) : Calls Tryz.prog 116 #[.int .u64 (m ^^^ b.toNat : Nat)] w fun e w' => e = .returned (.int .u64 (mb m b : Nat)) ∧ w = w' := mixed_any _ w
set_option maxRecDepth 20000 in
set_option maxHeartbeats 1000000 in
theorem leaf_any (s : ByteArray) (w : World) (hs : s.size ≤ 140737488351232) :
 Calls Tryz.prog 112 #[.string s] w fun e w' => e = .returned (.int .u64 (leafN s : Nat)) ∧ w = w' := by
 have hu : IntKind.u64.wrap (s.size : Int) = s.size := by rw [IntKind.wrap_u64]; omega
 go_enter Tryz.func112, Tryz.ntmps112
 go_wp2_with fail
 refine (mix_z _ _).mono ?_
 rintro e w' ⟨rfl, rfl⟩
 clear hu
 go_wp2_with fail
 go_loop [3, 11] (fun mv iv => ∃ k : Nat, k ≤ s.size ∧ iv = .int .i64 k ∧ mv = .int .u64 (lf (mz s.size) (s.data.toList.take k) : Nat)) (fun _ iv => s.size - (intOf iv).toNat)
 case atStart => exact ⟨0, by omega, rfl, by rw [List.take_zero, lf]⟩
 case round =>
  obtain ⟨k, hk, rfl, rfl⟩ := hrel
  have hl := lf_lt (s.data.toList.take k) _ (mz_lt s.size)
  by_cases h8 : k < s.size
  ·have hs1 : lf (mz s.size) (s.data.toList.take (k + 1)) = mb (lf (mz s.size) (s.data.toList.take k)) s[k] := by rw [bytes_snoc s k h8, lf_snoc]
   generalize lf (mz s.size) (s.data.toList.take k) = y at *
   have HS := PLift.up hs1; clear hs1
   have hx := UInt8.toNat_lt s[k]
   have hc : IntKind.u64.wrap (s[k].toNat : Int) = (s[k].toNat : Int) := by rw [IntKind.wrap_u64]; omega
   have hxo := xorN y s[k].toNat hl (by omega)
   go_wp2_with fail
   refine (mix_b _ _ _).mono ?_
   rintro e w' ⟨rfl, rfl⟩
   rw [← HS.down]
   clear hxo hc
   go_wp2_with fail
   go_round
   case rel => exact ⟨k + 1, by omega, by go_num, rfl⟩
   case measure => simp [intOf]; omega
  ·obtain rfl : k = s.size := by omega
   have hf : lf (mz s.size) (s.data.toList.take s.size) = leafN s := by rw [take_all, leafN]
   rw [hf]
   clear hf hl
   go_wp2_with fail
   go_returns
   exact ⟨rfl, rfl⟩
set_option maxRecDepth 20000 in
set_option maxHeartbeats 1000000 in
theorem leafOf_any (s : ByteArray) (w : World) (hs : s.size ≤ 140737488351232) :
 Calls Tryz.prog 115 #[.string s] w fun e w' => e = .returned (.int .u64 (leafN s : Nat)) ∧ Below w.heap.size w w' := by
 have hu : IntKind.u64.wrap (s.size : Int) = s.size := by rw [IntKind.wrap_u64]; omega
 have hcv := fun w => Lib.run_convert_string_bytes (P := Tryz.prog) w 9 207 5 s Tryz.underlying9 Tryz.underlying207 Tryz.underlying5
 go_enter Tryz.func115, Tryz.ntmps115
 go_wp2_with fail
 refine (mixed_z _ _).mono ?_
 rintro e w' ⟨rfl, rfl⟩
 clear hu
 go_wp2_with fail
 have hcell := fun j hj => Lib.bytesWorld_cell w 5 s j hj
 have hbw : Below w.heap.size w (Lib.bytesWorld w 5 s) := ⟨rfl, rfl, rfl, by rw [Lib.bytesWorld_size]; omega, fun k hk => Lib.bytesWorld_at_old w _ s k hk⟩
 obtain ⟨W, hW⟩ : ∃ W, W = Lib.bytesWorld w 5 s := ⟨_, rfl⟩
 rw [← hW] at hcell hbw ⊢
 generalize grownCap w s.size 0 5 = cp
 have HC := PLift.up hcell
 have HB := PLift.up hbw
 clear hcell hbw hW hcv
 go_loop [3, 13] (fun mv iv => ∃ k : Nat, k ≤ s.size ∧ iv = .int .i64 k ∧ mv = .int .u64 (lf (mz s.size) (s.data.toList.take k) : Nat)) (fun _ iv => s.size - (intOf iv).toNat)
 case atStart => exact ⟨0, by omega, rfl, by rw [List.take_zero, lf]⟩
 case round =>
  obtain ⟨k, hk, rfl, rfl⟩ := hrel
  have hl := lf_lt (s.data.toList.take k) _ (mz_lt s.size)
  by_cases h8 : k < s.size
  ·have hs1 : lf (mz s.size) (s.data.toList.take (k + 1)) = mb (lf (mz s.size) (s.data.toList.take k)) s[k] := by rw [bytes_snoc s k h8, lf_snoc]
   generalize lf (mz s.size) (s.data.toList.take k) = y at *
   have HS := PLift.up hs1; clear hs1
   have hc := HC.down k h8
   have he : (s.data.toList.getD k 0) = s[k] := by
    rw [List.getD_eq_getElem?_getD, List.getElem?_eq_getElem (by simpa using h8)]; rfl
   rw [he] at hc
   have hx := UInt8.toNat_lt s[k]
   have hcu : IntKind.u64.wrap (s[k].toNat : Int) = (s[k].toNat : Int) := by rw [IntKind.wrap_u64]; omega
   have hxo := xorN y s[k].toNat hl (by omega)
   clear he
   go_wp2_with fail
   refine (mixed_b _ _ _).mono ?_
   rintro e w' ⟨rfl, rfl⟩
   rw [← HS.down]
   clear hxo hcu hc
   go_wp2_with fail
   go_round
   case rel => exact ⟨k + 1, by omega, by go_num, rfl⟩
   case measure => simp [intOf]; omega
  ·obtain rfl : k = s.size := by omega
   have hf : lf (mz s.size) (s.data.toList.take s.size) = leafN s := by rw [take_all, leafN]
   rw [hf]
   clear hf hl
   go_wp2_with fail
   go_returns
   exact ⟨rfl, HB.down⟩
end Go.Proofs.YthiddmncjafklaaGreat
namespace Go.Proofs
open Go.Shelf
def Tryz.lays169_ren : Go.Shelf.Ren := ⟨fun | 169 => 147 | n => n, fun | 70 => 206 | 9 => 9 | 0 => 0 | 72 => 209 | 37 => 207 | 127 => 232 | 3 => 3 | 5 => 5 | n => n, fun | n => n⟩
theorem Tryz.lays169 : Go.Proofs.Lays.n169 Tryz.prog Tryz.lays169_ren := {
 mixed := by kernel_rfl
 f169 := Tryz.func147.trans (congrArg some (by kernel_rfl))
 t0 := Tryz.underlying0
 a0 := Tryz.isAgg0
 z0 := Tryz.sizeOf0
 v0 := Tryz.zeroValue0
 t3 := Tryz.underlying3
 a3 := Tryz.isAgg3
 z3 := Tryz.sizeOf3
 v3 := Tryz.zeroValue3
 t9 := Tryz.underlying9
 a9 := Tryz.isAgg9
 z9 := Tryz.sizeOf9
 v9 := Tryz.zeroValue9
 t37 := Tryz.underlying207
 a37 := Tryz.isAgg207
 z37 := Tryz.sizeOf207
 v37 := Tryz.zeroValue207
 t70 := Tryz.underlying206
 a70 := Tryz.isAgg206
 z70 := Tryz.sizeOf206
 v70 := Tryz.zeroValue206
 t72 := Tryz.underlying209
 a72 := Tryz.isAgg209
 z72 := Tryz.sizeOf209
 v72 := Tryz.zeroValue209
 t127 := Tryz.underlying232
 a127 := Tryz.isAgg232
 z127 := Tryz.sizeOf232
 v127 := Tryz.zeroValue232 }
theorem Tryz.Builder_Extra_169 : Builder.Extra Tryz.prog Tryz.lays169_ren := {
 sizeBuilder := by kernel_rfl
 liesBuilder := by kernel_rfl
 t5 := Tryz.underlying5
 a5 := Tryz.isAgg5
 z5 := Tryz.sizeOf5
 v5 := Tryz.zeroValue5
 infoByte := by kernel_rfl
 cellsByte := by kernel_rfl
 sizeByte := by kernel_rfl
 neB5 := by decide }
open Go.RowKit in
theorem Tryz.Builder_String_any (B b : Nat) (l : List UInt8) (w : World) (h : Lib.IsBuilder 209 5 B b (Lib.byteCells l) w) (hBw : B ≤ w.heap.size) :
 Calls Tryz.prog 147 #[.pointer (some ⟨b, 0, none⟩)] w fun e w' => e = .returned (.string ⟨l.toArray⟩) ∧ Below B w w' := Any.Builder_String_any Tryz.lays169 Tryz.Builder_Extra_169 B b l w h hBw
end Go.Proofs
namespace Go.Proofs.YthiddmncjafklaaGreat
set_option linter.all false
open Go.RowKit
def sp (n : Nat) : Nat := Lib.bitLen (n - 1) - 1
end Go.Proofs.YthiddmncjafklaaGreat
namespace Go.Proofs.YthiddmncjafklaaGreat
set_option linter.all false
open Go.RowKit
set_option maxRecDepth 100000
set_option maxHeartbeats 1000000
theorem leaf_s (s : ByteArray) (hs : s.size ≤ 140737488351232) : Spec Tryz.prog 112 [S s] [] (.c (.v (.int .u64 (leafN s : Nat)))) [] :=
 spec_scal (enters Tryz.func112 rfl rfl) [.string s] _ rfl fun w => (leaf_any s w hs).mono fun e w' ⟨h1, h2⟩ => ⟨h1, h2 ▸ Below.refl _ _⟩
end Go.Proofs.YthiddmncjafklaaGreat
namespace Go.Proofs.YthiddmncjafklaaGreat
set_option linter.all false
open Go.RowKit
set_option maxRecDepth 100000
set_option maxHeartbeats 1000000
theorem leafOf_s (s : ByteArray) (hs : s.size ≤ 140737488351232) : Spec Tryz.prog 115 [S s] [] (.c (.v (.int .u64 (leafN s : Nat)))) [] :=
 spec_scal (enters Tryz.func115 rfl rfl) [.string s] _ rfl fun w => leafOf_any s w hs
end Go.Proofs.YthiddmncjafklaaGreat
namespace Go.Proofs.YthiddmncjafklaaGreat
set_option linter.all false
open Go.RowKit
def cs (n : Nat) : Nat := n / 2 ^^^ (if n % 2 = 1 then 3988292384 else 0)
end Go.Proofs.YthiddmncjafklaaGreat
namespace Go.Proofs.YthiddmncjafklaaGreat
set_option linter.all false
open Go.RowKit
def bcells (xs : List Nat) (k : Nat) : List Value := (xs.take k).map (fun x : Nat => Value.int .u8 x) ++ List.replicate (xs.length - k) (.int .u8 0)
theorem bcells_set (xs : List Nat) (k : Nat) (h : k < xs.length) : (bcells xs k).set k (.int .u8 (xs[k] : Nat)) = bcells xs (k + 1) := by
 unfold bcells
 have hl : ((xs.take k).map (fun x => Value.int .u8 (x : Nat))).length = k := by simp; omega
 rw [List.set_append_right _ _ (by omega), hl, Nat.sub_self]
 have e : xs.length - k = (xs.length - (k + 1)) + 1 := by omega
 rw [e, List.replicate_succ, List.set_cons_zero, take_snoc' xs k h, List.map_append]
 simp
set_option maxHeartbeats 1000000 in
set_option maxRecDepth 100000 in
theorem bytes_any (a : Option Addr) (c B : Nat) (xs : List Nat) (w : World) (hm : xs.length ≤ 1000) (hx : Els w B a 1 ei64 (xs.map fun x : Nat => (x : Int))) (hB : B ≤ w.heap.size) (hb : ∀ x ∈ xs, x < 256) :
 Calls Tryz.prog 155 #[.slice a xs.length c] w fun e w' => e = .returned (.string ⟨(xs.map UInt8.ofNat).toArray⟩) ∧ Below w.heap.size w w' := by
 have H := Lib.hid hx; clear hx
 have HB := Lib.hid hb; clear hb
 go_enter Tryz.func155, Tryz.ntmps155
 go_wp2_with (at_make; refine wpMake _ rfl _ _ _ rfl w.heap.size _ _ _ elT_u8 xs.length _ _ rfl rfl rfl rfl ?_ ?_ ?_ ?_)
 ·omega
 ·simp only [maxLen]; omega
 ·omega
 intro w1 hown hg
 have hb1 : Below w.heap.size w w1 := (Below.refl _ _).grown hg (Nat.le_refl _) (by simp)
 have hcells : List.replicate xs.length (Value.int .u8 0) = bcells xs 0 := by simp [bcells]
 rw [hcells] at hown
 have HO := Lib.hid hown
 have HB1 := Lib.hid hb1
 clear hown hb1 hcells hg
 go_wp2_with fail
 go_loopw [4, 5, 11] (fun _ _ i wr => ∃ k : Nat, k ≤ xs.length ∧ i = .int .i64 k ∧ Hid (wr.ownsRow w.heap.size 5 1 (.slice (some ⟨w.heap.size, 0, none⟩) xs.length xs.length) xs.length (bcells xs k) ∧ Below w.heap.size w wr)) (fun _ _ i _ => xs.length - (intOf i).toNat)
 case atStart => exact ⟨0, by omega, rfl, HO.out, HB1.out⟩
 case round =>
  obtain ⟨k, hk, rfl, hI⟩ := hrel
  by_cases hlt : k < xs.length
  ·obtain ⟨b, o, rfl, hbB, hc⟩ := (H.out.below hI.out.2 hB).i64 k (by simpa using hlt)
   have hge : (xs.map fun x : Nat => (x : Int))[k]'(by simpa using hlt) = ((xs[k] : Nat) : Int) := by simp
   rw [hge] at hc
   have hx256 := HB.out xs[k] (List.getElem_mem hlt)
   have hset := bcells_set xs k hlt
   generalize xs[k] = x at *
   have hst := hI.out.1.stored k (.int .u8 x)
   have hfr := hI.out.1.frozenAt k
   have hcc : ∃ u, wr.cell? ⟨w.heap.size, k, none⟩ = some u := by
    have h := hI.out.1.cellAt k (by omega)
    rw [h]
    have hl := hI.out.1.1
    exact ⟨_, List.getElem?_eq_getElem (by omega)⟩
   obtain ⟨u, hu⟩ := hcc
   have HST := Lib.hid hst; clear hst
   have HSET := Lib.hid hset; clear hset hge
   go_wp2_with fail
   go_roundw
   case rel =>
    refine ⟨k + 1, by omega, by go_num, ?_, ?_⟩
    ·rw [← HSET.out]; exact HST.out.1
    ·exact hI.out.2.grown HST.out.2 hI.out.2.size (by simp)
   case measure => simp [intOf]; omega
  ·obtain rfl : k = xs.length := by omega
   have hcv := run_convert_bytes_back (P := Tryz.prog) wr 207 9 5 ⟨w.heap.size, 0, none⟩ xs.length (xs.map UInt8.ofNat) Tryz.underlying207 Tryz.underlying5 Tryz.underlying9 (by
    intro j hj
    have hj' : j < xs.length := by simpa using hj
    rw [Addr.add_lit, Nat.zero_add, hI.out.1.cellAt j (by omega)]
    simp only [bcells, List.take_length, Nat.sub_self, List.replicate_zero, List.append_nil, List.getElem?_map, List.getElem_map, List.getElem?_eq_getElem hj', Option.map_some, u8_ofNat_toNat _ (HB.out _ (List.getElem_mem hj'))])
   rw [List.length_map] at hcv
   go_wp2_with fail
   go_ret
   exact ⟨rfl, hI.out.2⟩
end Go.Proofs.YthiddmncjafklaaGreat
namespace Go.Proofs.YthiddmncjafklaaGreat
set_option linter.all false
open Go.RowKit
def packF : Nat → Nat → List UInt8
 | 0, n => [UInt8.ofNat n]
 | f + 1, n => if n < 128 then [UInt8.ofNat n] else UInt8.ofNat (128 + n % 128) :: packF f (n / 128)
def packB (n : Nat) : List UInt8 := packF 9 n
def packS (n : Nat) : ByteArray := ⟨(packB n).toArray⟩
theorem packF_len (f n : Nat) : 1 ≤ (packF f n).length ∧ (packF f n).length ≤ f + 1 := by
 induction f generalizing n with
 | zero => simp [packF]
 | succ f ih =>
  have := ih (n / 128)
  simp only [packF]; split <;> simp <;> omega
theorem packS_size (n : Nat) : 1 ≤ (packS n).size ∧ (packS n).size ≤ 10 := by
 have := packF_len 9 n
 show 1 ≤ (packF 9 n).toArray.size ∧ (packF 9 n).toArray.size ≤ 10
 simpa using this
theorem packF_small (f n : Nat) (h : n < 128) : packF f n = [UInt8.ofNat n] := by cases f <;> simp [packF, h]
def foldN (n : Int) : Nat := if 0 ≤ n then (2 * n).toNat else (2 * (-(n + 1)) + 1).toNat
theorem foldN_lt (n : Int) (h : I64 n) : foldN n < 18446744073709551616 := by unfold I64 at h; unfold foldN; split <;> omega
theorem xor_ones (a : Nat) (h : a < 18446744073709551616) : bits .xor .u64 (a : Int) (18446744073709551615 : Int) = ((18446744073709551615 - a : Nat) : Int) := by
 have e1 : (18446744073709551615 : Int) = ((18446744073709551615 : Nat) : Int) := rfl
 rw [e1, u64_xor_nat a _ h (by decide)]
 congr 1
 have e3 := congrArg BitVec.toNat (BitVec.xor_allOnes (x := BitVec.ofNat 64 a))
 rw [BitVec.toNat_xor, BitVec.toNat_not, BitVec.toNat_ofNat, BitVec.toNat_allOnes, Nat.mod_eq_of_lt (show a < 2 ^ 64 from h)] at e3
 exact e3
theorem xor_zero64 (a : Nat) (h : a < 18446744073709551616) : bits .xor .u64 (a : Int) (0 : Int) = (a : Int) := by
 have e1 : (0 : Int) = ((0 : Nat) : Int) := rfl
 rw [e1, u64_xor_nat a _ h (by decide)]
 simp
set_option maxHeartbeats 800000 in
theorem fold_any (n : Int) (h : I64 n) (w : World) :
 Calls Tryz.prog 146 #[.int .i64 n] w fun e w' => e = .returned (.int .u64 (foldN n : Nat)) ∧ w = w' := by
 unfold I64 at h
 go_enter Tryz.func146, Tryz.ntmps146
 go_wp2_with fail
 go_returns
 refine ⟨ret_u64 ?_, rfl⟩
 unfold foldN
 simp only [IntKind.wrap_u64]
 by_cases h0 : 0 ≤ n
 ·rw [if_pos h0, show n / 9223372036854775808 % 18446744073709551616 = 0 from by omega, show n % 18446744073709551616 * 2 % 18446744073709551616 = (((2 * n).toNat : Nat) : Int) from by omega, xor_zero64 _ (by omega)]
 ·rw [if_neg h0, show n / 9223372036854775808 % 18446744073709551616 = 18446744073709551615 from by omega, show n % 18446744073709551616 * 2 % 18446744073709551616 = (((2 * n + 18446744073709551616).toNat : Nat) : Int) from by omega, xor_ones _ (by omega)]
  omega
set_option maxHeartbeats 800000 in
theorem folded_any (n : Int) (h : I64 n) (w : World) :
 Calls Tryz.prog 151 #[.int .i64 n] w fun e w' => e = .returned (.int .u64 (foldN n : Nat)) ∧ w = w' := by
 unfold I64 at h
 by_cases h0 : 0 ≤ n
 ·go_enter Tryz.func151, Tryz.ntmps151
  go_wp2_with fail
  go_returns
  refine ⟨ret_u64 ?_, rfl⟩
  unfold foldN; rw [if_pos h0]; omega
 ·go_enter Tryz.func151, Tryz.ntmps151
  go_wp2_with fail
  go_returns
  refine ⟨ret_u64 ?_, rfl⟩
  unfold foldN; rw [if_neg (by omega)]; omega
end Go.Proofs.YthiddmncjafklaaGreat
namespace Go.Proofs.YthiddmncjafklaaGreat
set_option linter.all false
open Go.RowKit
set_option maxHeartbeats 1000000 in
set_option maxRecDepth 20000 in
theorem packed_any (f : Nat) : f ≤ 9 → ∀ (n : Nat) (w : World), n < 18446744073709551616 → n < 128 ^ (f + 1) →
 Calls Tryz.prog 150 #[.int .u64 n] w fun e w' => e = .returned (.string ⟨(packF f n).toArray⟩) ∧ Below w.heap.size w w' := by
 induction f with
 | zero =>
  intro _ n w h hf
  have h1 : n < 128 := by simpa using hf
  clear hf
  rw [packF_small 0 n h1]
  go_enter Tryz.func150, Tryz.ntmps150
  go_wp2_with fail
  refine (bytes_any _ _ (w.heap.size + 1) [n] _ (by simp) ?_ (by simp) (by simp; omega)).mono ?_
  ·refine .inr ⟨w.heap.size, 0, rfl, by omega, fun i j v hv => ?_⟩
   match i, j, hv with
   | 0, 0, hv => simp [ei64] at hv; subst hv; simp [go_sem]
   | 0, j + 1, hv => simp [ei64] at hv
   | i + 1, j, hv => simp at hv
  rintro e w1 ⟨rfl, hb⟩
  have HB := PLift.up (((below_lit w _).trans (hb.mono (by simp))))
  clear hb
  go_wp2_with fail
  go_returns
  exact ⟨rfl, HB.down⟩
 | succ f ih =>
  intro hf9 n w h hf
  by_cases h1 : n < 128
  ·clear ih hf
   rw [packF_small _ n h1]
   go_enter Tryz.func150, Tryz.ntmps150
   go_wp2_with fail
   refine (bytes_any _ _ (w.heap.size + 1) [n] _ (by simp) ?_ (by simp) (by simp; omega)).mono ?_
   ·refine .inr ⟨w.heap.size, 0, rfl, by omega, fun i j v hv => ?_⟩
    match i, j, hv with
    | 0, 0, hv => simp [ei64] at hv; subst hv; simp [go_sem]
    | 0, j + 1, hv => simp [ei64] at hv
    | i + 1, j, hv => simp at hv
   rintro e w1 ⟨rfl, hb⟩
   have HB := PLift.up (((below_lit w _).trans (hb.mono (by simp))))
   clear hb
   go_wp2_with fail
   go_returns
   exact ⟨rfl, HB.down⟩
  ·have hq : n / 128 < 128 ^ (f + 1) := by rw [Nat.pow_succ] at hf; exact Nat.div_lt_of_lt_mul (by omega)
   have IH := PLift.up (fun w => ih (by omega) (n / 128) w (by omega) hq)
   have hp : packF (f + 1) n = UInt8.ofNat (128 + n % 128) :: packF f (n / 128) := by simp [packF, h1]
   have HP := PLift.up hp
   have hl := (packF_len f (n / 128)).2
   clear ih hf hq hp
   go_enter Tryz.func150, Tryz.ntmps150
   go_wp2_with fail
   refine (bytes_any _ _ (w.heap.size + 1) [128 + n % 128] _ (by simp) ?_ (by simp) (by simp; omega)).mono ?_
   ·refine .inr ⟨w.heap.size, 0, rfl, by omega, fun i j v hv => ?_⟩
    match i, j, hv with
    | 0, 0, hv => simp [ei64] at hv; subst hv; simp [go_sem]
    | 0, j + 1, hv => simp [ei64] at hv
    | i + 1, j, hv => simp at hv
   rintro e w1 ⟨rfl, hb⟩
   have HB := PLift.up (((below_lit w _).trans (hb.mono (by simp))))
   clear hb
   have hsz := HB.down.size
   obtain ⟨T1, hT1⟩ : ∃ T1, T1 = ByteArray.mk (List.map UInt8.ofNat [128 + n % 128]).toArray := ⟨_, rfl⟩
   have hs1 : T1.size = 1 := by rw [hT1]; rfl
   have HQ : PLift (T1 ++ ByteArray.mk (packF f (n / 128)).toArray = ByteArray.mk (packF (f + 1) n).toArray) := PLift.up (by rw [HP.down, hT1]; rfl)
   rw [← hT1]
   clear hT1
   go_wp2_with fail
   refine (IH.down _).mono ?_
   rintro e w2 ⟨rfl, hb2⟩
   have HB2 := PLift.up (HB.down.trans (hb2.mono hsz))
   clear hb2
   have hpl : (ByteArray.mk (packF f (n / 128)).toArray).size ≤ f + 1 := by show (packF f (n / 128)).toArray.size ≤ f + 1; simpa using hl
   generalize ByteArray.mk (packF f (n / 128)).toArray = T at *
   clear hl
   go_wp2_with fail
   go_returns
   exact ⟨congrArg (fun s => Ending.returned (.string s)) HQ.down, HB2.down⟩
def bC (l : List UInt8) : List Value := l.map fun b => .int .u8 (b.toNat : Int)
theorem or128 (m : Nat) : bits .or .u8 ((m : Int) % 256) 128 = ((128 + m % 128 : Nat) : Int) := by
 rw [Lib.u8_or128_any _ (by omega) (by omega)]; omega
set_option maxHeartbeats 1000000 in
set_option maxRecDepth 20000 in
theorem put_any (n : Nat) (h : n < 18446744073709551616) (w : World) :
 Calls Tryz.prog 145 #[.int .u64 n] w fun e w' => e = .returned (.string (packS n)) ∧ Below w.heap.size w w' := by
 go_enter Tryz.func145, Tryz.ntmps145
 go_wp2_with fail
 go_loopw [0, 3] (fun mv v wr => ∃ (m f : Nat) (done : List UInt8), mv = .int .u64 m ∧ m < 18446744073709551616 ∧ Hid (m < 128 ^ (f + 1) ∧ done ++ packF f m = packB n ∧ done.length + f = 9 ∧ wr.ownsRow w.heap.size 5 1 v done.length (bC done) ∧ Below w.heap.size w wr)) (fun mv _ _ => (intOf mv).toNat)
 case atStart => exact ⟨n, 9, [], rfl, h, by simpa using Nat.lt_of_lt_of_le h (by decide), rfl, rfl, ⟨by simp [bC], .inl ⟨rfl, rfl⟩⟩, Below.refl _ _⟩
 case round =>
  obtain ⟨m, f, done, rfl, hm, hI⟩ := hrel
  have hor := or128 m
  have hdl : done.length ≤ 9 := by have := hI.out.2.2.1; omega
  have hB := hI.out.2.2.2.2.size
  by_cases h8 : 128 ≤ m
  ·obtain ⟨f, rfl⟩ : ∃ f', f = f' + 1 := by
    cases f with
    | zero => have := hI.out.1; simp at this; omega
    | succ f => exact ⟨f, rfl⟩
   have HI := PLift.up hI.out
   clear hI
   go_wp2_with (at_builtin; refine wpApp _ rfl _ _ _ rfl w.heap.size _ _ _ elT_u8 _ done.length (bC done) rfl (HI.down.2.2.2.1.alloc _) (some ⟨wr.heap.size, 0, none⟩) 1 1 [.int .u8 ((128 + m % 128 : Nat) : Int)] rfl ?_ ?_ ?_ ?_ ?_ ?_ ?_ ?_)
   ·rfl
   ·simp
   ·intro ad had j u hu
    obtain rfl := Option.some.inj had
    match j, hu with
    | 0, hu => simp at hu; subst hu; simp [Addr.add_lit, go_sem]
    | j + 1, hu => simp at hu
   ·simp [Value.oneCell']
   ·simp only [maxLen]; omega
   ·omega
   ·simp; omega
   ·intro v' w2 hown hg _
    have hbb : Below w.heap.size w w2 := (HI.down.2.2.2.2.alloc (by omega) _).grown hg (by simp; omega) (fun q hq => (HI.down.2.2.2.1.lt q hq).1)
    have HO := PLift.up hown
    have HBB := PLift.up hbb
    clear hown hbb hg
    go_wp2_with fail
    go_roundw
    case rel =>
     have hp : packF (f + 1) m = UInt8.ofNat (128 + m % 128) :: packF f (m / 128) := by simp [packF]; omega
     refine ⟨m / 128, f, done ++ [UInt8.ofNat (128 + m % 128)], ?_, by omega, ?_, ?_, ?_, ?_, HBB.down⟩
     ·simp
     ·have := HI.down.1; rw [Nat.pow_succ] at this; exact Nat.div_lt_of_lt_mul (by omega)
     ·have := HI.down.2.1; rw [hp] at this; simpa using this
     ·have := HI.down.2.2.1; simp; omega
     ·have := HO.down
      have e : bC (done ++ [UInt8.ofNat (128 + m % 128)]) = bC done ++ [.int .u8 ((128 + m % 128 : Nat) : Int)] := by
       simp only [bC, List.map_append, List.map_cons, List.map_nil]
       rw [u8_ofNat_toNat _ (by omega)]
      rw [e]; simpa using this
    case measure => simp [intOf]; omega
  ·have HI := PLift.up hI.out
   clear hI
   go_wp2_with (at_builtin; refine wpApp _ rfl _ _ _ rfl w.heap.size _ _ _ elT_u8 _ done.length (bC done) rfl (HI.down.2.2.2.1.alloc _) (some ⟨wr.heap.size, 0, none⟩) 1 1 [.int .u8 (m : Int)] rfl ?_ ?_ ?_ ?_ ?_ ?_ ?_ ?_)
   ·rfl
   ·simp
   ·intro ad had j u hu
    obtain rfl := Option.some.inj had
    match j, hu with
    | 0, hu => simp at hu; subst hu; simp [Addr.add_lit, go_sem]
    | j + 1, hu => simp at hu
   ·simp [Value.oneCell']
   ·simp only [maxLen]; omega
   ·omega
   ·simp; omega
   ·intro v' w2 hown hg _
    have hbb : Below w.heap.size w w2 := (HI.down.2.2.2.2.alloc (by omega) _).grown hg (by simp; omega) (fun q hq => (HI.down.2.2.2.1.lt q hq).1)
    have hfin : done ++ [UInt8.ofNat m] = packB n := by have := HI.down.2.1; rw [packF_small f m (by omega)] at this; exact this
    have e : bC done ++ [.int .u8 (m : Int)] = bC (packB n) := by
     rw [← hfin]
     simp only [bC, List.map_append, List.map_cons, List.map_nil]
     rw [u8_ofNat_toNat _ (by omega)]
    have hlen : done.length + 1 = (packB n).length := by rw [← hfin]; simp
    rw [e, hlen] at hown
    rcases hown.2 with ⟨_, h0⟩ | ⟨g, cap, cur, rfl, _, hgc, _⟩
    ·omega
    have hcell := hown.cells (g := g) rfl
    have hcv := run_convert_bytes_back (P := Tryz.prog) w2 207 9 5 ⟨g, 0, none⟩ cap (packB n) Tryz.underlying207 Tryz.underlying5 Tryz.underlying9 (by
     intro j hj
     exact hcell j _ (by simp only [bC, List.getElem?_map, List.getElem?_eq_getElem hj, Option.map_some]))
    have HBB := PLift.up hbb
    clear hown hbb hg hcell e hfin HI hgc
    generalize hq : (packB n).length = q at *
    clear hlen hdl hB
    go_wp2_with fail
    go_returns
    exact ⟨rfl, HBB.down⟩
end Go.Proofs.YthiddmncjafklaaGreat
namespace Go.Proofs.YthiddmncjafklaaGreat
set_option linter.all false
open Go.RowKit
def vals (l : List UInt8) : Nat := l.foldr (fun b a => b.toNat % 128 + 128 * a) 0
def valT (s : ByteArray) (i : Nat) : Nat := vals (s.data.toList.take i) % 18446744073709551616
def getR (s : ByteArray) : Nat × ByteArray × Int :=
 match s.data.toList.findIdx? (fun b => b < 128) with
 | some i => if i < 10 ∧ packS (valT s (i + 1)) = s.extract 0 (i + 1) then (valT s (i + 1), s.extract (i + 1) s.size, 0) else (0, ⟨#[]⟩, 4)
 | none => (0, ⟨#[]⟩, if s.size < 10 then 3 else 4)
structure Ends (s : ByteArray) (e : Nat) (r : Nat × ByteArray × Int) : Prop where
 le : e ≤ s.size
 big : ∀ j (hj : j < s.size), j < e → 128 ≤ s[j].toNat
 small : ∀ (h : e < s.size), s[e].toNat < 128
 res : getR s = r
end Go.Proofs.YthiddmncjafklaaGreat
namespace Go.Proofs.YthiddmncjafklaaGreat
set_option linter.all false
open Go.RowKit
theorem packedS_any (n : Nat) (w : World) (h : n < 18446744073709551616) :
 Calls Tryz.prog 150 #[.int .u64 n] w fun e w' => e = .returned (.string (packS n)) ∧ Below w.heap.size w w' := packed_any 9 (Nat.le_refl _) n w h (Nat.lt_of_lt_of_le h (by decide))
end Go.Proofs.YthiddmncjafklaaGreat
namespace Go.Proofs.YthiddmncjafklaaGreat
set_option linter.all false
open Go.RowKit
theorem bldSize : (Tryz.prog.info? 209).map (·.size) = some 2 := by kernel_rfl
set_option maxHeartbeats 1000000 in
set_option maxRecDepth 100000 in
theorem bld_check_used (b : Nat) (w : World) (h0 : w.cell? ⟨b, 0, none⟩ = some (.pointer (some ⟨b, 0, none⟩))) :
 Calls Tryz.prog 168 #[.pointer (some ⟨b, 0, none⟩)] w fun e w' => e = .returned (.tuple #[]) ∧ w' = w := by
 obtain ⟨j, hj, _⟩ := Option.map_eq_some_iff.1 bldSize
 go_enter Tryz.func168, Tryz.ntmps168
 go_wp2
 rw [Lib.run_neq_ptr_same w _ Tryz.underlying206 hj]
 go_wp2
 go_end0
 exact ⟨rfl, rfl⟩
set_option maxHeartbeats 1000000 in
set_option maxRecDepth 100000 in
theorem bld_check_fresh (b : Nat) (w : World) (h0 : w.cell? ⟨b, 0, none⟩ = some (.pointer none)) (hsh : w.shape? b = some (209, 2)) (hfz : w.frozen? ⟨b, 0, none⟩ = false) :
 Calls Tryz.prog 168 #[.pointer (some ⟨b, 0, none⟩)] w fun e w' => e = .returned (.tuple #[]) ∧ w' = w.setCell ⟨b, 0, none⟩ (.pointer (some ⟨b, 0, none⟩)) := by
 obtain ⟨j, hj, hjs⟩ := Option.map_eq_some_iff.1 bldSize
 go_enter Tryz.func168, Tryz.ntmps168
 go_wp2
 rw [Lib.run_to_unsafe w ⟨b, 0, none⟩ Tryz.underlying206 Tryz.underlying245 hj (by rw [hjs]; decide) hsh (Nat.zero_lt_succ 1)]
 simp only [Result.andThen]
 rw [Oper.upon_value]
 go_wp2
 rw [run_callFunc_extern Tryz.func177 (by kernel_rfl) (by kernel_rfl) (by kernel_rfl) (e := Extern.AbiNoEscape.same) (by kernel_rfl)]
 rw [Lib.run_noEscape]
 simp only [Result.andThen]
 rw [Oper.upon_value]
 go_wp2
 rw [Lib.run_from_unsafe w ⟨b, 0, none⟩ Tryz.underlying245 Tryz.underlying206 hj hsh (by kernel_rfl)]
 simp only [Result.andThen]
 rw [Oper.upon_value]
 go_wp2
 go_end0
 exact ⟨rfl, rfl⟩
theorem bld_check (B b : Nat) (bs : List Value) (w : World) (h : Lib.IsBuilder 209 5 B b bs w) :
 Calls Tryz.prog 168 #[.pointer (some ⟨b, 0, none⟩)] w fun e w' => e = .returned (.tuple #[]) ∧ (Lib.BuilderAt 209 5 B b (.pointer (some ⟨b, 0, none⟩)) bs w' ∧ Below B w w') := by
 rcases h with h | h
 ·refine (bld_check_fresh b w h.cell0 h.shape h.frozen0).mono ?_
  rintro e w' ⟨rfl, rfl⟩
  exact ⟨rfl, h.used _, (Below.refl B w).setCell (p := ⟨b, 0, none⟩) h.1 _⟩
 ·refine (bld_check_used b w h.cell0).mono ?_
  rintro e w' ⟨rfl, rfl⟩
  exact ⟨rfl, h, Below.refl B _⟩
set_option maxHeartbeats 2000000 in
set_option maxRecDepth 100000 in
theorem bld_write (B b : Nat) (bs : List Value) (s : ByteArray) (w : World) (h : Lib.IsBuilder 209 5 B b bs w) (hlen : bs.length + s.size ≤ 140737488355328) (hBw : B ≤ w.heap.size) :
 Calls Tryz.prog 144 #[.pointer (some ⟨b, 0, none⟩), .string s] w fun e w' => e = .returned (.tuple #[.int .i64 s.size, .nilIface]) ∧ (Lib.BuilderAt 209 5 B b (.pointer (some ⟨b, 0, none⟩)) (bs ++ Lib.strCells s) w' ∧ Below B w w') := by
 obtain ⟨i0, hi, hz0, hz1, hz2⟩ := info_parts (show (Tryz.prog.info? 5).map (fun i => (i.zero, i.size, i.bytes)) = some (some (.int .u8 0), 1, 1) by kernel_rfl)
 go_enter Tryz.func144, Tryz.ntmps144
 go_wp2_with (go_at_call 168; refine (bld_check B b bs _ h).mono ?_)
 rintro e w1 ⟨rfl, h1, hb1⟩
 obtain ⟨hB, v, hbk, hown, hne⟩ := h1
 have c0 : w1.cell? ⟨b, 0, none⟩ = some (.pointer (some ⟨b, 0, none⟩)) := by rw [Lib.cell_of_heap hbk]; rfl
 have c1 : w1.cell? ⟨b, 1, none⟩ = some v := by rw [Lib.cell_of_heap hbk]; rfl
 go_wp2_with (at_builtin; refine Lib.wpList_append_own_string _ rfl _ _ 207 9 rfl B 5 i0 Tryz.underlying207 Tryz.underlying9 hi hz0 hz1 hz2 _ _ _ rfl hown s rfl ?c3 ?c4 ?c5 ?_)
 case c3 => unfold maxLen; omega
 case c4 => omega
 case c5 => have := hb1.size; omega
 intro v' w2 hown' hgrow _
 have hlt : b < w1.heap.size := by
  rcases Nat.lt_or_ge b w1.heap.size with h' | h'
  ·exact h'
  ·simp [Array.getElem?_eq_none h'] at hbk
 have hb2 : w2.heap[b]? = some (.cells #[.pointer (some ⟨b, 0, none⟩), v] 209 (0, 0)) := by
  rw [hgrow.block b hlt (fun e => hne e.symm)]
  exact hbk
 have d0 : w2.cell? ⟨b, 0, none⟩ = some (.pointer (some ⟨b, 0, none⟩)) := by rw [Lib.cell_of_heap hb2]; rfl
 have d1 : w2.cell? ⟨b, 1, none⟩ = some v := by rw [Lib.cell_of_heap hb2]; rfl
 have f1 : w2.frozen? ⟨b, 1, none⟩ = false := Lib.frozen_of_heap hb2 1
 obtain ⟨ao, n', cap, rfl⟩ : ∃ ao n' cap, v' = .slice ao n' cap := by
  rcases hown'.2 with ⟨hv, _⟩ | ⟨g, cap, cur, hv, _⟩
  ·exact ⟨_, _, _, hv⟩
  ·exact ⟨_, _, _, hv⟩
 go_wp2
 go_ret2
 refine ⟨rfl, ?_, ?_⟩
 ·exact Lib.BuilderAt.put (T := 209) (e := 5) hB hb2 (bs' := bs ++ Lib.strCells s) (by simpa [Lib.strCells_length] using hown') (by decide)
 ·exact (hb1.grown hgrow (by have := hb1.size; omega) (fun k hk => (hown.lt k hk).1)).setCell (p := ⟨b, 1, none⟩) hB _
theorem bld_keep {w w' : World} {B b : Nat} {bs : List Value} (h : Lib.IsBuilder 209 5 B b bs w) (hb : Below w.heap.size w w') : Lib.IsBuilder 209 5 B b bs w' := by
 have key : ∀ p, Lib.BuilderAt 209 5 B b p bs w → Lib.BuilderAt 209 5 B b p bs w' := by
  rintro p ⟨h1, v, h2, ho, h3⟩
  refine ⟨h1, v, (hb.block b (Array.getElem?_eq_some_iff.1 h2).1).trans h2, ?_, h3⟩
  refine ⟨ho.1, ?_⟩
  rcases ho.2 with ⟨g1, g2⟩ | ⟨g, cap, cur, g1, g2, g3, g4⟩
  ·exact .inl ⟨g1, g2⟩
  ·exact .inr ⟨g, cap, cur, g1, g2, (hb.block g (Array.getElem?_eq_some_iff.1 g3).1).trans g3, g4⟩
 exact h.imp (key _) (key _)
end Go.Proofs.YthiddmncjafklaaGreat
namespace Go.Proofs.YthiddmncjafklaaGreat
set_option linter.all false
open Go.RowKit
def paN (n : Int) : List UInt8 := packB (foldN n)
def paK (xs : List Int) (k : Nat) : List UInt8 := packB xs.length ++ (xs.take k).flatMap paN
def paR (xs : List Int) : ByteArray × Int := if 1000 < xs.length then (⟨#[]⟩, 2) else (⟨(paK xs xs.length).toArray⟩, 0)
theorem packB_len (n : Nat) : (packB n).length ≤ 10 := (packF_len 9 n).2
theorem paK_len (xs : List Int) (k : Nat) : (paK xs k).length ≤ 10 + 10 * k := by
 unfold paK
 rw [List.length_append]
 have h1 := packB_len xs.length
 have h2 : ∀ l : List Int, (l.flatMap paN).length ≤ 10 * l.length := by
  intro l
  induction l with
  | nil => simp
  | cons x l ih =>
   have := packB_len (foldN x)
   have e : paN x = packB (foldN x) := rfl
   rw [List.flatMap_cons, List.length_append, List.length_cons, e]; omega
 have h3 := h2 (xs.take k)
 have h4 : (xs.take k).length ≤ k := List.length_take_le _ _
 omega
theorem paK_succ (xs : List Int) (k : Nat) (h : k < xs.length) : paK xs (k + 1) = paK xs k ++ packB (foldN xs[k]) := by
 unfold paK
 rw [take_snoc' xs k h, List.flatMap_append, List.append_assoc]; simp [paN]
set_option maxHeartbeats 2000000 in
set_option maxRecDepth 20000 in
theorem packedAll_any (a : Option Addr) (c B : Nat) (xs : List Int) (w : World) (hE : Els w B a 1 ei64 xs) (hx : ∀ x ∈ xs, I64 x) (hl : xs.length ≤ 140737488351232) (hB : B ≤ w.heap.size) :
 Calls Tryz.prog 114 #[.slice a xs.length c] w fun e w' => e = .returned (.tuple #[.string (paR xs).1, .int .i64 (paR xs).2]) ∧ Below w.heap.size w w' := by
 have HE := PLift.up hE
 have HX := PLift.up hx
 clear hE hx
 by_cases hn : 1000 < xs.length
 ·rw [show paR xs = (⟨#[]⟩, 2) from if_pos hn]
  go_enter Tryz.func114, Tryz.ntmps114
  go_wp2_with fail
  go_returns
  exact ⟨rfl, Below.refl _ _⟩
 ·rw [show paR xs = (⟨(paK xs xs.length).toArray⟩, 0) from if_neg hn]
  go_enter Tryz.func114, Tryz.ntmps114
  go_wp2_with fail
  refine (packedS_any xs.length _ (by omega)).mono ?_
  rintro e w1 ⟨rfl, hb1⟩
  have HB1 := PLift.up hb1
  clear hb1
  have hp0 : packS xs.length = ⟨(paK xs 0).toArray⟩ := by simp [paK, packS]
  rw [hp0]
  clear hp0
  go_wp2_with fail
  go_loopw [4, 16] (fun ov iv wr => ∃ (k : Nat) (T : ByteArray), k ≤ xs.length ∧ iv = .int .i64 k ∧ ov = .string T ∧ T.size ≤ 10 + 10 * k ∧ Hid (T = ⟨(paK xs k).toArray⟩ ∧ Below w.heap.size w wr)) (fun _ iv _ => xs.length - (intOf iv).toNat)
  case atStart => exact ⟨0, _, by omega, rfl, rfl, by rw [bs_size]; exact paK_len xs 0, rfl, HB1.down⟩
  case round =>
   obtain ⟨k, T, hk, rfl, rfl, hT, hI⟩ := hrel
   have hBw := hI.out.2.size
   by_cases hlt : k < xs.length
   ·obtain ⟨b, o, rfl, hb, hc⟩ := (HE.down.below hI.out.2 hB).i64 k hlt
    have hxk := HX.down xs[k] (List.getElem_mem hlt)
    have hs := paK_succ xs k hlt
    generalize xs[k] = x at *
    have hf := foldN_lt x hxk
    have hps := packS_size (foldN x)
    have HS : PLift (T ++ packS (foldN x) = ⟨(paK xs (k + 1)).toArray⟩) := PLift.up (by rw [hI.out.1, hs]; exact bs_append _ _)
    have F := PLift.up (folded_any x hxk)
    have Q := PLift.up (fun w => packedS_any (foldN x) w hf)
    generalize foldN x = y at *
    generalize packS y = Y at *
    have HI := PLift.up hI.out.2
    clear hI hs hxk
    go_wp2_with fail
    refine (F.down _).mono ?_
    rintro e w2 ⟨rfl, rfl⟩
    go_wp2_with fail
    refine (Q.down _).mono ?_
    rintro e w2 ⟨rfl, hb2⟩
    have HB2 := PLift.up (HI.down.trans (hb2.mono hBw))
    clear hb2
    go_wp2_with fail
    go_roundw
    case rel => exact ⟨k + 1, _, by omega, by go_num, rfl, by rw [ByteArray.size_append]; omega, HS.down, HB2.down⟩
    case measure => simp [intOf]; omega
   ·obtain rfl : k = xs.length := by omega
    have HI := PLift.up hI.out
    clear hI
    go_wp2_with fail
    go_returns
    refine ⟨?_, HI.down.2⟩
    rw [← HI.down.1]; rfl
set_option maxHeartbeats 2000000 in
set_option maxRecDepth 20000 in
theorem putAll_any (a : Option Addr) (c B : Nat) (xs : List Int) (w : World) (hE : Els w B a 1 ei64 xs) (hx : ∀ x ∈ xs, I64 x) (hl : xs.length ≤ 140737488351232) (hB : B ≤ w.heap.size) :
 Calls Tryz.prog 111 #[.slice a xs.length c] w fun e w' => e = .returned (.tuple #[.string (paR xs).1, .int .i64 (paR xs).2]) ∧ Below w.heap.size w w' := by
 have HE := PLift.up hE
 have HX := PLift.up hx
 clear hE hx
 by_cases hn : 1000 < xs.length
 ·rw [show paR xs = (⟨#[]⟩, 2) from if_pos hn]
  go_enter Tryz.func111, Tryz.ntmps111
  go_wp2_with fail
  go_returns
  exact ⟨rfl, Below.refl _ _⟩
 ·rw [show paR xs = (⟨(paK xs xs.length).toArray⟩, 0) from if_neg hn]
  go_enter Tryz.func111, Tryz.ntmps111
  go_wp2_with fail
  refine (put_any xs.length (by omega) _).mono ?_
  rintro e w1 ⟨rfl, hb1⟩
  have BL : PLift (Lib.IsBuilder 209 5 w.heap.size w.heap.size [] w1) := PLift.up (bld_keep (Lib.fresh_isBuilder 209 5 w) hb1)
  have HB1 : PLift (Below w.heap.size w w1) := PLift.up ((below_lit w _).trans (hb1.mono (by simp)))
  have hs1 := HB1.down.size
  clear hb1
  have hp0 : packS xs.length = ⟨(paK xs 0).toArray⟩ := by simp [paK, packS]
  rw [hp0]
  clear hp0
  go_wp2_with fail
  refine (bld_write w.heap.size w.heap.size [] _ w1 BL.down (by rw [bs_size]; have := paK_len xs 0; simp; omega) hs1).mono ?_
  rintro e w2 ⟨rfl, hw2, hb2⟩
  have BL2 : PLift (Lib.IsBuilder 209 5 w.heap.size w.heap.size (Lib.byteCells (paK xs 0)) w2) := PLift.up (.inr hw2)
  have HB2 := PLift.up (HB1.down.trans hb2)
  clear hw2 hb2 BL HB1 hs1
  go_wp2_with fail
  go_loopw [17] (fun iv wr => ∃ (k : Nat), k ≤ xs.length ∧ iv = .int .i64 k ∧ Hid (Lib.IsBuilder 209 5 w.heap.size w.heap.size (Lib.byteCells (paK xs k)) wr ∧ Below w.heap.size w wr)) (fun iv _ => xs.length - (intOf iv).toNat)
  case atStart => exact ⟨0, by omega, rfl, BL2.down, HB2.down⟩
  case round =>
   obtain ⟨k, hk, rfl, hI⟩ := hrel
   have hBw := hI.out.2.size
   by_cases hlt : k < xs.length
   ·obtain ⟨b, o, rfl, hb, hc⟩ := (HE.down.below hI.out.2 hB).i64 k hlt
    have hxk := HX.down xs[k] (List.getElem_mem hlt)
    have hs := paK_succ xs k hlt
    have hkl := paK_len xs k
    generalize xs[k] = x at *
    have hf := foldN_lt x hxk
    have hps := packS_size (foldN x)
    have F := PLift.up (fold_any x hxk)
    have Q := PLift.up (fun w => put_any (foldN x) hf w)
    have HS : PLift (Lib.byteCells (paK xs k) ++ Lib.strCells (packS (foldN x)) = Lib.byteCells (paK xs (k + 1))) := PLift.up (by rw [hs]; simp [Lib.byteCells, Lib.strCells, packS])
    generalize foldN x = y at *
    generalize packS y = Y at *
    have HI := PLift.up hI.out
    clear hI hs hxk
    go_wp2_with fail
    refine (F.down _).mono ?_
    rintro e w2 ⟨rfl, rfl⟩
    go_wp2_with fail
    refine (Q.down _).mono ?_
    rintro e w2 ⟨rfl, hb2⟩
    have BL3 := PLift.up (bld_keep HI.down.1 hb2)
    have HB3 := PLift.up (HI.down.2.trans (hb2.mono hBw))
    have hBw3 := HB3.down.size
    clear hb2
    go_wp2_with fail
    refine (bld_write w.heap.size w.heap.size _ _ w2 BL3.down (by simp [Lib.byteCells]; omega) hBw3).mono ?_
    rintro e w3 ⟨rfl, hw3, hb3⟩
    have HB4 := PLift.up (HB3.down.trans hb3)
    have HW3 := PLift.up hw3
    clear hw3 hb3
    go_wp2_with fail
    go_roundw
    case rel => exact ⟨k + 1, by omega, by go_num, by rw [← HS.down]; exact .inr HW3.down, HB4.down⟩
    case measure => simp [intOf]; omega
   ·obtain rfl : k = xs.length := by omega
    have HI := PLift.up hI.out
    clear hI
    go_wp2_with fail
    refine (Tryz.Builder_String_any w.heap.size w.heap.size (paK xs xs.length) wr HI.down.1 hBw).mono ?_
    rintro e w2 ⟨rfl, hb2⟩
    have HB2 := PLift.up (HI.down.2.trans hb2)
    clear hb2
    go_wp2_with fail
    go_returns
    exact ⟨rfl, HB2.down⟩
end Go.Proofs.YthiddmncjafklaaGreat
namespace Go.Proofs.YthiddmncjafklaaGreat
set_option linter.all false
open Go.RowKit
def mk (m : Nat) (xs : List Nat) : Nat := xs.foldl (fun m n => m ^^^ mx n) m
theorem mk_lt (xs : List Nat) : ∀ m, m < 18446744073709551616 → mk m xs < 18446744073709551616 := by
 induction xs with
 | nil => intro m h; exact h
 | cons x xs ih => intro m h; exact ih _ (xorN_lt _ _ h (mx_lt x))
theorem mk_snoc (m : Nat) (xs : List Nat) (x : Nat) : mk m (xs ++ [x]) = mk m xs ^^^ mx x := by simp [mk]
structure U64s where
 a : Option Addr
 c : Nat
 xs : List Nat
def U64s.val (u : U64s) : Value := .slice u.a u.xs.length u.c
def U64s.enc (u : U64s) : List Value := [u.val]
end Go.Proofs.YthiddmncjafklaaGreat
namespace Go.Proofs.YthiddmncjafklaaGreat
set_option linter.all false
open Go.RowKit
theorem mk_xor (m : Nat) (xs : List Nat) : mk m xs = m ^^^ mk 0 xs := by
 induction xs generalizing m with
 | nil => simp [mk]
 | cons x xs ih =>
  show mk (m ^^^ mx x) xs = m ^^^ mk (0 ^^^ mx x) xs
  rw [ih, ih (0 ^^^ mx x), Nat.zero_xor, Nat.xor_assoc]
theorem mk_cons (x : Nat) (xs : List Nat) : mk 0 (x :: xs) = mx x ^^^ mk 0 xs := by
 show mk (0 ^^^ mx x) xs = _
 rw [mk_xor, Nat.zero_xor]
def frst (l : List Nat) (i : Nat) : Bool := decide (∀ j, j < i → l.getD j 0 ≠ l.getD i 0)
def oddAt (l : List Nat) (i : Nat) : Bool := (l.count (l.getD i 0)) % 2 == 1
def moTo (l : List Nat) : Nat → Nat
 | 0 => 0
 | i + 1 => if frst l i && oddAt l i then moTo l i ^^^ mx (l.getD i 0) else moTo l i
theorem moTo_succ (l : List Nat) (i : Nat) : moTo l (i + 1) = if frst l i && oddAt l i then moTo l i ^^^ mx (l.getD i 0) else moTo l i := rfl
theorem moTo_lt (l : List Nat) : ∀ i, moTo l i < 18446744073709551616 := by
 intro i
 induction i with
 | zero => show (0 : Nat) < _; decide
 | succ i ih => rw [moTo_succ]; split; exact xorN_lt _ _ ih (mx_lt _); exact ih
theorem mk_filter_part (p : Nat → Bool) (n : Nat) (hp : p n = true) (l : List Nat) :
 mk 0 (l.filter p) = mk 0 (l.filter fun x => p x && x != n) ^^^ (if l.count n % 2 == 1 then mx n else 0) := by
 induction l with
 | nil => simp [mk]
 | cons x l ih =>
  by_cases hx : x = n
  ·subst hx
   simp only [List.filter_cons, hp, if_true, bne_self_eq_false, Bool.and_false, Bool.false_eq_true, if_false, List.count_cons_self, mk_cons, ih]
   rcases Nat.mod_two_eq_zero_or_one (l.count x) with h | h
   ·have h2 : (l.count x + 1) % 2 = 1 := by omega
    simp [h, h2, Nat.xor_comm]
   ·have h2 : (l.count x + 1) % 2 = 0 := by omega
    simp only [h, h2, beq_self_eq_true, if_true]
    rw [Nat.xor_comm (mk 0 _), ← Nat.xor_assoc, Nat.xor_self]; simp
  ·have hb : (x != n) = true := by simpa using hx
   have hc : (x :: l).count n = l.count n := List.count_cons_of_ne hx
   rw [hc]
   by_cases hpx : p x = true
   ·simp only [List.filter_cons, hpx, hb, Bool.and_self, if_true, mk_cons, ih, Nat.xor_assoc]
   ·have hpf : p x = false := by simpa using hpx
    simp only [List.filter_cons, hpf, Bool.false_and, Bool.false_eq_true, if_false, ih]
def unseen (l : List Nat) (i : Nat) (x : Nat) : Bool := !((l.take i).contains x)
theorem moTo_eq (l : List Nat) : ∀ i, i ≤ l.length → mk 0 l = moTo l i ^^^ mk 0 (l.filter (unseen l i)) := by
 intro i
 induction i with
 | zero =>
  intro _
  have : l.filter (unseen l 0) = l := List.filter_eq_self.2 (fun x _ => by simp [unseen])
  rw [this]; simp [moTo]
 | succ i ih =>
  intro hi
  rw [ih (by omega)]
  have hlt : i < l.length := by omega
  have hg : l.getD i 0 = l[i] := by simp [List.getD, hlt]
  have hun : ∀ x, unseen l (i + 1) x = (unseen l i x && x != l[i]) := by
   intro x
   unfold unseen
   rw [take_snoc' l i hlt]
   by_cases hx : x = l[i] <;> simp [hx, -List.take_append_getElem]
  have hfun : (unseen l (i + 1)) = fun x => unseen l i x && x != l[i] := funext hun
  by_cases hs : unseen l i l[i] = true
  ·have hf : frst l i = true := by
    simp only [frst, decide_eq_true_eq, hg]
    intro j hj he
    simp only [unseen, Bool.not_eq_true'] at hs
    have : l[i] ∈ l.take i := by
     have hjl : j < l.length := by omega
     have e2 : l.getD j 0 = l[j] := by simp [List.getD, hjl]
     rw [e2] at he
     rw [← he]
     exact List.mem_take_iff_getElem.2 ⟨j, by omega, rfl⟩
    simp [this] at hs
   rw [mk_filter_part (unseen l i) l[i] hs l, hfun]
   rw [moTo_succ]
   simp only [hf, Bool.true_and, oddAt, hg]
   by_cases ho : (l.count l[i] % 2 == 1) = true
   ·simp only [ho, if_true]
    rw [Nat.xor_assoc (moTo l i) (mx l[i]), Nat.xor_comm (mx l[i])]
   ·simp only [ho, if_false, Bool.false_eq_true]; simp
  ·have hf : frst l i = false := by
    simp only [frst, decide_eq_false_iff_not, hg]
    intro hall
    apply hs
    simp only [unseen, Bool.not_eq_true']
    cases hc : (l.take i).contains l[i] with
    | false => rfl
    | true =>
     have hm : l[i] ∈ l.take i := by simpa using hc
     obtain ⟨j, hj, he⟩ := List.mem_take_iff_getElem.1 hm
     have e2 : l.getD j 0 = l[j] := by simp [List.getD, show j < l.length by omega]
     exact absurd (e2.trans he) (hall j (by omega))
   have hsf : unseen l i l[i] = false := by simpa using hs
   have hfil : l.filter (unseen l (i + 1)) = l.filter (unseen l i) := by
    rw [hfun]
    apply List.filter_congr
    intro x _
    by_cases hx : x = l[i]
    ·simp [hx, hsf]
    ·simp [hx]
   rw [moTo_succ]
   simp [hf, hfil]
theorem moTo_mk (l : List Nat) : moTo l l.length = mk 0 l := by
 rw [moTo_eq l l.length (Nat.le_refl _)]
 have : l.filter (unseen l l.length) = [] := List.filter_eq_nil_iff.2 (fun x hx => by simp [unseen, hx])
 rw [this]; simp [mk]
def cnt (l : List Nat) (i k : Nat) : Nat := (l.take k).count (l.getD i 0)
def fst' (l : List Nat) (i k : Nat) : Bool := decide (∀ j, j < k → l.getD j 0 = l.getD i 0 → i ≤ j)
theorem cnt_le (l : List Nat) (i k : Nat) : cnt l i k ≤ k := Nat.le_trans List.count_le_length (List.length_take_le _ _)
theorem cnt_hit (l : List Nat) (i k : Nat) (hk : k < l.length) (he : l[k] = l.getD i 0) : cnt l i (k + 1) = cnt l i k + 1 := by
 unfold cnt; rw [take_snoc' l k hk, List.count_append, he]; simp
theorem cnt_miss (l : List Nat) (i k : Nat) (hk : k < l.length) (he : l[k] ≠ l.getD i 0) : cnt l i (k + 1) = cnt l i k := by
 unfold cnt; rw [take_snoc' l k hk, List.count_append, List.count_singleton]; simp only [beq_iff_eq, he, if_false, Nat.add_zero]
theorem fst_hit (l : List Nat) (i k : Nat) (hk : k < l.length) (he : l[k] = l.getD i 0) : fst' l i (k + 1) = (fst' l i k && decide (i ≤ k)) := by
 have e2 : l.getD k 0 = l[k] := by simp [List.getD, hk]
 rw [Bool.eq_iff_iff]
 simp only [fst', decide_eq_true_eq, Bool.and_eq_true]
 constructor
 ·intro h
  exact ⟨fun j hj => h j (by omega), h k (by omega) (e2.trans he)⟩
 ·rintro ⟨h, h2⟩ j hj h3
  rcases Nat.lt_succ_iff_lt_or_eq.1 hj with hl | rfl
  ·exact h j hl h3
  ·exact h2
theorem fst_miss (l : List Nat) (i k : Nat) (hk : k < l.length) (he : l[k] ≠ l.getD i 0) : fst' l i (k + 1) = fst' l i k := by
 have e2 : l.getD k 0 = l[k] := by simp [List.getD, hk]
 rw [Bool.eq_iff_iff]
 simp only [fst', decide_eq_true_eq]
 constructor
 ·intro h j hj; exact h j (by omega)
 ·intro h j hj h3
  rcases Nat.lt_succ_iff_lt_or_eq.1 hj with hl | rfl
  ·exact h j hl h3
  ·exact absurd (e2.symm.trans h3) he
theorem fst_end (l : List Nat) (i : Nat) (hi : i < l.length) : fst' l i l.length = frst l i := by
 rw [Bool.eq_iff_iff]
 simp only [fst', frst, decide_eq_true_eq]
 constructor
 ·intro h j hj he; have := h j (by omega) he; omega
 ·intro h j hj he
  rcases Nat.lt_or_ge j i with hl | hl
  ·exact absurd he (h j hl)
  ·exact hl
set_option maxHeartbeats 1000000 in
theorem markOf_any (a : Option Addr) (c B : Nat) (xs : List Nat) (w : World) (hm : xs.length ≤ 1000000) (hx : Els w B a 1 e64 xs) :
 Calls Tryz.prog 72 #[.slice a xs.length c] w fun e w' => e = .returned (.int .u64 (mk 0 xs : Nat)) ∧ w = w' := by
 have H := Lib.hid hx; clear hx
 rw [← moTo_mk]
 go_enter Tryz.func72, Tryz.ntmps72
 go_wp2_with fail
 go_loop [3, 12] (fun m i => ∃ k : Nat, k ≤ xs.length ∧ i = .int .i64 k ∧ m = .int .u64 (moTo xs k : Nat)) (fun _ i => xs.length - (intOf i).toNat)
 case atStart => exact ⟨0, by omega, rfl, rfl⟩
 case round =>
  obtain ⟨k, hk, rfl, rfl⟩ := hrel
  by_cases hlt : k < xs.length
  ·obtain ⟨b, o, rfl, hb, hc⟩ := H.out.u64 k hlt
   have hgd : xs.getD k 0 = xs[k] := by simp [List.getD, hlt]
   generalize hxk : xs[k] = x at hc hgd
   have HX := Lib.hid hxk; clear hxk
   have HG := Lib.hid hgd; clear hgd
   go_wp2_with fail
   go_loop [6, 7, 8, 9, 19] (fun t f _ _ j => ∃ q : Nat, q ≤ xs.length ∧ j = .int .i64 q ∧ t = .int .i64 (cnt xs k q : Nat) ∧ f = .bool (fst' xs k q)) (fun _ _ _ _ j => xs.length - (intOf j).toNat)
   case atStart => exact ⟨0, by omega, rfl, by simp [cnt], by simp [fst']⟩
   case round =>
    obtain ⟨q, hq, rfl, rfl, rfl⟩ := hrel
    have hcl := cnt_le xs k q
    by_cases hlt2 : q < xs.length
    ·obtain ⟨b2, o2, he2, hb2, hc2⟩ := H.out.u64 q hlt2
     have hpp : b = b2 ∧ o = o2 := by simpa using he2
     obtain ⟨rfl, rfl⟩ := hpp
     clear he2 hb2
     by_cases hxy : xs[q] = x
     ·have h1 := cnt_hit xs k q hlt2 (by rw [HG.out]; exact hxy)
      have h2 := fst_hit xs k q hlt2 (by rw [HG.out]; exact hxy)
      have H1 := Lib.hid h1; have H2 := Lib.hid h2
      clear h1 h2
      rw [hxy] at hc2
      have HXY := Lib.hid hxy; clear hxy
      cases hf : fst' xs k q with
      | false =>
       have HF := Lib.hid hf; clear hf
       go_wp2_with fail
       go_round
       case rel => exact ⟨q + 1, by omega, by go_num, by rw [H1.out]; go_num, by rw [H2.out, HF.out]; rfl⟩
       case measure => simp [intOf]; omega
      | true =>
       have HF := Lib.hid hf; clear hf
       go_wp2_with fail
       go_round
       case rel => exact ⟨q + 1, by omega, by go_num, by rw [H1.out]; go_num, by rw [H2.out, HF.out]; simp⟩
       case measure => simp [intOf]; omega
     ·have h1 := cnt_miss xs k q hlt2 (by rw [HG.out]; exact hxy)
      have h2 := fst_miss xs k q hlt2 (by rw [HG.out]; exact hxy)
      have hne : (((xs[q] : Nat) : Int) == (x : Int)) = false := by simp; omega
      have H1 := Lib.hid h1; have H2 := Lib.hid h2
      clear h1 h2
      have HXY := Lib.hid hxy; clear hxy
      go_wp2_with fail
      go_round
      case rel => exact ⟨q + 1, by omega, by go_num, by rw [H1.out], by rw [H2.out]⟩
      case measure => simp [intOf]; omega
    ·have hq2 : q = xs.length := by omega
     subst hq2
     have hfe := fst_end xs k hlt
     have hce : cnt xs k xs.length = xs.count x := by unfold cnt; rw [List.take_length, HG.out]
     have hst : moTo xs (k + 1) = if frst xs k && (xs.count x % 2 == 1) then moTo xs k ^^^ mx x else moTo xs k := by rw [moTo_succ, oddAt, HG.out]
     have hxo := xorN (moTo xs k) (mx x) (moTo_lt _ _) (mx_lt _)
     rw [hfe, hce]
     rw [hce] at hcl
     clear hfe hce hlt2
     have HST := Lib.hid hst; clear hst
     have HXO := Lib.hid hxo; clear hxo
     generalize frst xs k = f at *
     generalize xs.count x = C at *
     cases f with
     | false =>
      go_wp2_with fail
      go_round
      case rel => exact ⟨k + 1, by omega, by go_num, by rw [HST.out]; rfl⟩
      case measure => simp [intOf]; omega
     | true =>
      by_cases ho : C % 2 = 1
      ·have ho' : (((C : Nat) : Int) % 2 == 1) = true := by simp; omega
       have HS : moTo xs (k + 1) = moTo xs k ^^^ mx x := by rw [HST.out]; simp [ho]
       have HS := Lib.hid HS
       clear HST ho
       go_wp2_with (go_at_call 116; refine (mixed_any _ _).mono ?_; rintro e w' ⟨rfl, rfl⟩)
       go_round
       case rel => exact ⟨k + 1, by omega, by go_num, by rw [HS.out, HXO.out]⟩
       case measure => simp [intOf]; omega
      ·have ho' : (((C : Nat) : Int) % 2 == 1) = false := by simp; omega
       have HS : moTo xs (k + 1) = moTo xs k := by rw [HST.out]; simp [ho]
       have HS := Lib.hid HS
       clear HST ho
       go_wp2_with fail
       go_round
       case rel => exact ⟨k + 1, by omega, by go_num, by rw [HS.out]⟩
       case measure => simp [intOf]; omega
  ·have hke : k = xs.length := by omega
   go_wp2_with fail
   go_ret
   exact ⟨rfl, rfl⟩
end Go.Proofs.YthiddmncjafklaaGreat
namespace Go.Proofs.YthiddmncjafklaaGreat
set_option linter.all false
open Go.RowKit
set_option maxRecDepth 100000
set_option maxHeartbeats 1000000
theorem rel_strInt {s : ByteArray} {n : Int} {U : Nat → Prop} {w : World} {F : Nat → Prop} {β : Nat → Option Bind} : RelA U w F β (.tup [S s, I .i64 n]) (.tuple #[.string s, .int .i64 n]) := by
 simp only [RelA]
 refine ⟨_, rfl, ?_⟩
 simp [RelL, RelA, RelP, Value.oneCell']
theorem putAll_s (xs : List Int) (hx : ∀ x ∈ xs, I64 x) (hl : xs.length ≤ 140737488351232) : Spec Tryz.prog 111 [.c (.sl 1 (xs.map i64P))] [] (.tup [S (paR xs).1, I .i64 (paR xs).2]) [] :=
 spec_any (enters Tryz.func111 rfl rfl) _ _ (.tuple #[.string (paR xs).1, .int .i64 (paR xs).2]) (fun _ _ _ _ => rel_strInt) fun w F β vs hF hv => by
  obtain ⟨u, rfl, hu⟩ := relL_one hv
  obtain ⟨a, c, rfl, _, _, hE⟩ := rel_els (fun n : Int => Value.int .i64 n) xs hF hu
  exact putAll_any a c w.heap.size xs w hE hx hl (Nat.le_refl _)
theorem packedAll_s (xs : List Int) (hx : ∀ x ∈ xs, I64 x) (hl : xs.length ≤ 140737488351232) : Spec Tryz.prog 114 [.c (.sl 1 (xs.map i64P))] [] (.tup [S (paR xs).1, I .i64 (paR xs).2]) [] :=
 spec_any (enters Tryz.func114 rfl rfl) _ _ (.tuple #[.string (paR xs).1, .int .i64 (paR xs).2]) (fun _ _ _ _ => rel_strInt) fun w F β vs hF hv => by
  obtain ⟨u, rfl, hu⟩ := relL_one hv
  obtain ⟨a, c, rfl, _, _, hE⟩ := rel_els (fun n : Int => Value.int .i64 n) xs hF hu
  exact packedAll_any a c w.heap.size xs w hE hx hl (Nat.le_refl _)
theorem markOf_s (xs : List Nat) (hl : xs.length ≤ 1000000) : Spec Tryz.prog 72 [.c (.sl 1 (xs.map u64P))] [] (.c (.v (.int .u64 (mk 0 xs : Nat)))) [] :=
 spec_any (enters Tryz.func72 rfl rfl) _ _ (.int .u64 (mk 0 xs : Nat)) (fun _ _ _ _ => relC.2 ⟨rfl, rfl⟩) fun w F β vs hF hv => by
  obtain ⟨u, rfl, hu⟩ := relL_one hv
  obtain ⟨a, c, rfl, _, _, hE⟩ := rel_els (fun n : Nat => Value.int .u64 n) xs hF hu
  exact (markOf_any a c w.heap.size xs w hl hE).mono fun e w' h => ⟨h.1, h.2 ▸ Below.refl _ _⟩
theorem mturn_s (m n : Nat) (hm : m < 18446744073709551616) : Spec Tryz.prog 149 [.c (.v (.int .u64 m)), .c (.v (.int .u64 n))] [] (.c (.v (.int .u64 (m ^^^ mx n : Nat)))) [] :=
 spec_scal (enters Tryz.func149 rfl rfl) [.int .u64 m, .int .u64 n] _ rfl fun w => (turn_any m n hm w).mono fun e w' h => ⟨h.1, h.2 ▸ Below.refl _ _⟩
theorem mk_nil (m : Nat) : mk m [] = m := rfl
theorem mkl (l : List Nat) (m : Nat) (k : Nat) (h : k < l.length) : mk m (l.take (k + 1)) = mk m (l.take k) ^^^ mx (l.getD k default) := by rw [take_snoc l k h, mk_snoc]
theorem mall_s (l : List Nat) (hl : l.length ≤ 1000000) : Spec Tryz.prog 113 [.c (.sl 1 [[.sl 1 (l.map u64P)]])] [] (.c (.v (.int .u64 (mk 0 l : Nat)))) [] := by
 refine spec_am Tryz.func113 rfl rfl mix 26 rfl [.tmp 2] Tryz.results113 (Nat.le_of_ble_eq_true rfl) ?_
 (try (refine xst ?_; try exact xtI))
 refine loopI (fun k : Nat => ⟨[(10, I .i64 k), (9, I .i64 1), (8, .c (.sl 1 [[.sl 1 (l.map u64P)]])), (3, .c (.v (.int .u64 ((if k = 0 then 0 else mk 0 l : Nat) : Int))))], [], 0⟩) (fun k : Nat => k ≤ 1) (fun k : Nat => 1 - k) (0) (Nat.zero_le _) (To.mk [] rfl rfl List.nodup_nil trivial ?_) ?_
 ·simp (etaStruct := .none) only [push_cast, DrawG, Int.cast_ofNat_Int, seval, if_pos trivial]
 rintro k hk
 (try (refine xst ?_; try exact xtI))
 refine cond_i (fun h1 => ?_) (fun h1 => ?_)
 ·(try replace h1 := xhh h1)
  obtain rfl : k = 0 := by omega
  (try (refine xst ?_; try exact xtI))
  refine loopI (fun k : Nat => ⟨[(16, I .i64 k), (15, I .i64 l.length), (14, .c (.sl 1 (l.map u64P))), (10, I .i64 0), (9, I .i64 1), (8, .c (.sl 1 [[.sl 1 (l.map u64P)]])), (3, .c (.v (.int .u64 (mk 0 (l.take k) : Nat))))], [], 0⟩) (fun k : Nat => k ≤ l.length) (fun k : Nat => l.length - k) (0) (Nat.zero_le _) (To.mk [] rfl rfl List.nodup_nil trivial ?_) ?_
  ·simp (etaStruct := .none) only [push_cast, DrawG, Int.cast_ofNat_Int, seval, List.take_zero, mk_nil]
  rintro k hk
  (try (refine xst ?_; try exact xtI))
  refine cond_i (fun h2 => ?_) (fun h2 => ?_)
  ·(try replace h2 := xhh h2)
   have hlt : k < l.length := by omega
   have ml := mkl l 0 k hlt
   (iterate 2 ((try simp (etaStruct := .none) only [push_cast, DrawG, Int.cast_ofNat_Int, seval, getD_in _ _ _ hlt, u64P]); (try (refine xsu ?_; try exact xtI))))
   refine caP (mturn_s (mk 0 (l.take k)) (l.getD k default) (mk_lt _ 0 (by decide))) ?_
   (iterate 2 ((try simp (etaStruct := .none) only [push_cast, DrawG, Int.cast_ofNat_Int, seval, getD_in _ _ _ hlt, u64P]); (try (refine xsu ?_; try exact xtI))))
   refine ⟨k + 1, by omega, by omega, To.mk [] rfl rfl List.nodup_nil trivial ?_⟩
   ·(iterate 2 ((try simp (etaStruct := .none) only [push_cast, DrawG, Int.cast_ofNat_Int, seval, ml]); (try (refine xsu ?_; try exact xtI))))
  ·(try replace h2 := xhh h2)
   obtain rfl : k = l.length := by omega
   (iterate 2 ((try simp (etaStruct := .none) only [push_cast, DrawG, Int.cast_ofNat_Int, seval, List.take_length]); (try (refine xsu ?_; try exact xtI))))
   refine ⟨1, by omega, by omega, To.mk [] rfl rfl List.nodup_nil trivial ?_⟩
   ·(iterate 2 ((try simp (etaStruct := .none) only [push_cast, DrawG, Int.cast_ofNat_Int, seval, if_neg (show ¬ (1 : Nat) = 0 by decide), Int.zero_add]); (try (refine xsu ?_; try exact xtI))))
 ·(try replace h1 := xhh h1)
  obtain rfl : k = 1 := by omega
  (try (refine xst ?_; try exact xtI))
  exact xrz rfl
theorem mof_s (l : List Nat) (hl : l.length ≤ 1000000) : Spec Tryz.prog 70 [.c (.sl 1 (l.map u64P))] [] (.c (.v (.int .u64 (mk 0 l : Nat)))) [] := by
 refine spec_am Tryz.func70 rfl rfl mix 6 rfl [.tmp 2] Tryz.results70 (Nat.le_of_ble_eq_true rfl) ?_
 (try (refine xst ?_; try exact xtI))
 refine callB (mall_s l hl) (WkL.refl _) rfl ?_
 (try (refine xst ?_; try exact xtI))
 exact xrz rfl
def leafI (l : List Int) : Nat := leafN (paR l).1
theorem paR_size (l : List Int) : (paR l).1.size ≤ 20000 := by
 unfold paR
 split
 ·show 0 ≤ 20000; omega
 ·show ByteArray.size ⟨(paK l l.length).toArray⟩ ≤ 20000
  rw [bs_size]; have := paK_len l l.length; omega
theorem tleaf_s (l : List Int) (hx : ∀ x ∈ l, I64 x) (hl : l.length ≤ 1000000) : Spec Tryz.prog 69 [.c (.sl 1 (l.map i64P))] [] (.c (.v (.int .u64 (leafI l : Nat)))) [] := by
 have := paR_size l
 refine spec_am Tryz.func69 rfl rfl mix 12 rfl [.tmp 2] Tryz.results69 (Nat.le_of_ble_eq_true rfl) ?_
 (try (refine xst ?_; try exact xtI))
 refine caP (putAll_s l hx (by omega)) ?_
 (try (refine xst ?_; try exact xtI))
 refine caP (leaf_s (paR l).1 (by omega)) ?_
 (try (refine xst ?_; try exact xtI))
 (first | (refine retA rfl (Wk.of ?_); (try simp (etaStruct := .none) only [push_cast, DrawG, Int.cast_ofNat_Int, seval]); first | done | (simp [leafI, *]; done) | (simp_all [leafI]; done)) | (refine retA rfl ?_; (try simp (etaStruct := .none) only [push_cast, DrawG, Int.cast_ofNat_Int, seval]); (try simp [leafI, *]); (try exact wkc)))
theorem rleaf_s (l : List Int) (hx : ∀ x ∈ l, I64 x) (hl : l.length ≤ 1000000) : Spec Tryz.prog 71 [.c (.sl 1 (l.map i64P))] [] (.c (.v (.int .u64 (leafI l : Nat)))) [] := by
 have := paR_size l
 refine spec_am Tryz.func71 rfl rfl mix 12 rfl [.tmp 2] Tryz.results71 (Nat.le_of_ble_eq_true rfl) ?_
 (try (refine xst ?_; try exact xtI))
 refine caP (packedAll_s l hx (by omega)) ?_
 (try (refine xst ?_; try exact xtI))
 refine caP (leafOf_s (paR l).1 (by omega)) ?_
 (try (refine xst ?_; try exact xtI))
 (first | (refine retA rfl (Wk.of ?_); (try simp (etaStruct := .none) only [push_cast, DrawG, Int.cast_ofNat_Int, seval]); first | done | (simp [leafI, *]; done) | (simp_all [leafI]; done)) | (refine retA rfl ?_; (try simp (etaStruct := .none) only [push_cast, DrawG, Int.cast_ofNat_Int, seval]); (try simp [leafI, *]); (try exact wkc)))
end Go.Proofs.YthiddmncjafklaaGreat
namespace Go.Proofs.YthiddmncjafklaaGreat
set_option linter.all false
open Go.RowKit
set_option maxRecDepth 100000
set_option maxHeartbeats 1000000
def hdI (w : Wld) : List Int := [1, w.f.w, w.f.h, w.next, w.now] ++ w.f.p
def basI (w : Wld) (i : Nat) : List Int := [2, (i : Int), (w.bases.getD i default).x, (w.bases.getD i default).y, w.stocks.getD i default]
def minI (w : Wld) (i : Nat) : List Int := [3, (i : Int), w.mines.getD i default]
def trpI (w : Wld) (i : Nat) : List Int := [4, (w.troops.getD i default).id, (w.troops.getD i default).owner, (w.troops.getD i default).kind, (w.troops.getD i default).c.x, (w.troops.getD i default).c.y, (w.troops.getD i default).life, (w.troops.getD i default).load]
def wl1 (w : Wld) (k : Nat) : List Nat := leafI (hdI w) :: (List.range k).map fun i => leafI (basI w i)
def wl2 (w : Wld) (k : Nat) : List Nat := wl1 w w.bases.length ++ (List.range k).flatMap fun i => if w.mines.getD i default = 0 then [] else [leafI (minI w i)]
def wl3 (w : Wld) (k : Nat) : List Nat := wl2 w w.mines.length ++ (List.range k).map fun i => leafI (trpI w i)
theorem wl1_0 (w : Wld) : wl1 w 0 = [leafI (hdI w)] := rfl
theorem wl2_0 (w : Wld) : wl2 w 0 = wl1 w w.bases.length := by simp [wl2]
theorem wl3_0 (w : Wld) : wl3 w 0 = wl2 w w.mines.length := by simp [wl3]
theorem wl1_s (w : Wld) (k : Nat) : wl1 w (k + 1) = wl1 w k ++ [leafI (basI w k)] := by simp [wl1, List.range_succ]
theorem wl2_s (w : Wld) (k : Nat) : wl2 w (k + 1) = wl2 w k ++ (if w.mines.getD k default = 0 then [] else [leafI (minI w k)]) := by
 unfold wl2; rw [List.range_succ, List.flatMap_append, ← List.append_assoc]; congr 1; exact List.flatMap_singleton ..
theorem wl3_s (w : Wld) (k : Nat) : wl3 w (k + 1) = wl3 w k ++ [leafI (trpI w k)] := by simp [wl3, List.range_succ]
theorem wl1_len (w : Wld) : ∀ k, (wl1 w k).length = k + 1 := by intro k; simp [wl1]
theorem wl2_len (w : Wld) : ∀ k, (wl2 w k).length ≤ w.bases.length + 1 + k
 | 0 => by rw [wl2_0, wl1_len]; omega
 | k + 1 => by
  have := wl2_len w k
  rw [wl2_s, List.length_append]; split <;> simp <;> omega
theorem wl3_len (w : Wld) (k : Nat) : (wl3 w k).length ≤ w.bases.length + 1 + w.mines.length + k := by
 have := wl2_len w w.mines.length
 unfold wl3; rw [List.length_append, List.length_map, List.length_range]; omega
def wmarkV (w : Wld) : Nat := mk 0 (wl3 w w.troops.length)
theorem world_b {w : Wld} (h : worldE w = 0) : (1 ≤ w.f.w ∧ w.f.w ≤ 40) ∧ (1 ≤ w.f.h ∧ w.f.h ≤ 40) ∧ (w.f.p.length ≤ 1600 ∧ ∀ p ∈ w.f.p, 0 ≤ p ∧ p < 4) ∧ w.bases.length ≤ 8 ∧ w.troops.length ≤ 100 ∧ w.stocks.length = w.bases.length ∧ w.mines.length = w.f.p.length ∧ (1 ≤ w.next ∧ w.next ≤ 1000000) ∧ (0 ≤ w.now ∧ w.now ≤ 1000000) ∧
 (∀ k, k < w.bases.length → (0 ≤ (w.bases.getD k default).x ∧ (w.bases.getD k default).x ≤ 39) ∧ (0 ≤ (w.bases.getD k default).y ∧ (w.bases.getD k default).y ≤ 39) ∧ 0 ≤ w.stocks.getD k default ∧ w.stocks.getD k default ≤ 1000000) ∧
 (∀ k, k < w.mines.length → 0 ≤ w.mines.getD k default ∧ w.mines.getD k default ≤ 1000000) := by
 obtain ⟨h1, h2, h3, h4, h5⟩ := worldE_ok h
 obtain ⟨g1, g2, g3, g4⟩ := fldE_ok h1
 obtain ⟨f1, f2, f3, f4⟩ := worldF_ok h4
 have hm2 : w.f.w * w.f.h ≤ 40 * 40 := Int.mul_le_mul g1.2 g2.2 (by omega) (by omega)
 unfold worldB at h5
 simp only [Bool.and_eq_true] at h5
 refine ⟨g1, g2, ⟨by omega, g4⟩, h2, h3, f1, f2, f3, f4, fun k hk => ?_, fun k hk => ?_⟩
 ·have := (allN_iff _ _).1 h5.1.1 k hk
  unfold baseB at this
  simp only [Bool.and_eq_true, within_iff] at this
  have hi := inF_iff.1 (ground_iff.1 this.1.1).1
  omega
 ·have := (allN_iff _ _).1 h5.1.2 k hk
  unfold mineB at this
  simp only [Bool.and_eq_true, within_iff] at this
  omega
theorem hdI_ok {w : Wld} (h : worldE w = 0) : (∀ x ∈ hdI w, I64 x) ∧ (hdI w).length ≤ 1000000 := by
 obtain ⟨b1, b2, b3, b4, b5, b6, b7, b8, b9, b10, b11⟩ := world_b h
 refine ⟨fun x hx => ?_, by simp [hdI]; omega⟩
 simp only [hdI, List.mem_append, List.mem_cons, List.not_mem_nil, or_false] at hx
 unfold I64
 rcases hx with (rfl | rfl | rfl | rfl | rfl) | hx
 ·omega
 ·omega
 ·omega
 ·omega
 ·omega
 ·have := b3.2 x hx; omega
theorem basI_ok {w : Wld} (h : worldE w = 0) {k : Nat} (hk : k < w.bases.length) : (∀ x ∈ basI w k, I64 x) ∧ (basI w k).length ≤ 1000000 := by
 obtain ⟨b1, b2, b3, b4, b5, b6, b7, b8, b9, b10, b11⟩ := world_b h
 have := b10 k hk
 refine ⟨fun x hx => ?_, by simp [basI]⟩
 simp only [basI, List.mem_cons, List.not_mem_nil, or_false] at hx
 unfold I64
 rcases hx with rfl | rfl | rfl | rfl | rfl <;> omega
theorem minI_ok {w : Wld} (h : worldE w = 0) {k : Nat} (hk : k < w.mines.length) : (∀ x ∈ minI w k, I64 x) ∧ (minI w k).length ≤ 1000000 := by
 obtain ⟨b1, b2, b3, b4, b5, b6, b7, b8, b9, b10, b11⟩ := world_b h
 have := b11 k hk
 refine ⟨fun x hx => ?_, by simp [minI]⟩
 simp only [minI, List.mem_cons, List.not_mem_nil, or_false] at hx
 unfold I64
 rcases hx with rfl | rfl | rfl <;> omega
theorem kindV_le {k : Int} : (kindV k).life ≤ 20 := by unfold kindV; split; decide; split <;> decide
theorem trpI_ok {w : Wld} (h : worldE w = 0) {k : Nat} (hk : k < w.troops.length) : (∀ x ∈ trpI w k, I64 x) ∧ (trpI w k).length ≤ 1000000 := by
 obtain ⟨b1, b2, b3, b4, b5, b6, b7, b8, b9, b10, b11⟩ := world_b h
 obtain ⟨t1, t2, t3, t4, t5, t6, t7, t8⟩ := (troop_ok h hk).1
 have kl := @kindV_le (w.troops.getD k default).kind
 refine ⟨fun x hx => ?_, by simp [trpI]⟩
 simp only [trpI, List.mem_cons, List.not_mem_nil, or_false] at hx
 unfold I64
 rcases hx with rfl | rfl | rfl | rfl | rfl | rfl | rfl | rfl <;> omega
theorem worldMark_s (w : Wld) (hw : worldE w = 0) : Spec Tryz.prog 41 [wldA w] [] (.c (.v (.int .u64 (wmarkV w : Nat)))) [] := by
 obtain ⟨b1, b2, b3, b4, b5, b6, b7, b8, b9, b10, b11⟩ := world_b hw
 have h0 := hdI_ok hw
 refine spec_am Tryz.func41 rfl rfl mix 102 rfl [.tmp 2] Tryz.results41 (Nat.le_of_ble_eq_true rfl) ?_
 (try (refine xst ?_; try exact xtI))
 refine callB (rleaf_s (hdI w) h0.1 h0.2) (WkL.refl _) rfl ?_
 (try (refine xst ?_; try exact xtI))
 refine loopI (fun k : Nat => ⟨[(32, I .i64 k), (31, I .i64 w.bases.length), (30, .c (.sl 2 (w.bases.map celP))), (4, .own 1), (1, .ptr 0 0 0)], [(0, .blk 28 (wldC w)), (1, .row 44 1 ((wl1 w k).map u64P))], 2⟩) (fun k : Nat => k ≤ w.bases.length) (fun k : Nat => w.bases.length - k) (0) (Nat.zero_le _) (To.mk [0, 3] rfl rfl (by decide) ?_ ?_) ?_
 ·simp (etaStruct := .none) only [push_cast, DrawG, Int.cast_ofNat_Int, seval, wl1_0, u64P]
 ·simp (etaStruct := .none) only [push_cast, DrawG, Int.cast_ofNat_Int, seval]
 rintro k hk
 (try (refine xst ?_; try exact xtI))
 refine cond_i (fun h1 => ?_) (fun h1 => ?_)
 ·(try replace h1 := xhh h1)
  have hlt : k < w.bases.length := by omega
  have hlt2 : k < w.stocks.length := by omega
  have ok := basI_ok hw hlt
  have ln := wl1_len w k
  (iterate 2 ((try simp (etaStruct := .none) only [push_cast, DrawG, Int.cast_ofNat_Int, seval, getD_in _ _ _ hlt, getD_in _ _ _ hlt2, celP, i64P]); (try (refine xsu ?_; try exact xtI))))
  refine callB (rleaf_s (basI w k) ok.1 ok.2) (WkL.refl _) rfl ?_
  (iterate 2 ((try simp (etaStruct := .none) only [push_cast, DrawG, Int.cast_ofNat_Int, seval, getD_in _ _ _ hlt, getD_in _ _ _ hlt2, celP, i64P]); (try (refine xsu ?_; try exact xtI))))
  (try (refine ⟨by kernel_rfl, ?_⟩))
  (iterate 2 ((try simp (etaStruct := .none) only [push_cast, DrawG, Int.cast_ofNat_Int, seval, getD_in _ _ _ hlt, getD_in _ _ _ hlt2, celP, i64P]); (try (refine xsu ?_; try exact xtI))))
  refine ⟨k + 1, by omega, by omega, To.mk [0, 59] rfl rfl (by decide) ?_ ?_⟩
  ·(iterate 2 ((try simp (etaStruct := .none) only [push_cast, DrawG, Int.cast_ofNat_Int, seval, wl1_s, List.map_append, u64P]); (try (refine xsu ?_; try exact xtI))))
  ·(iterate 2 ((try simp (etaStruct := .none) only [push_cast, DrawG, Int.cast_ofNat_Int, seval, getD_in _ _ _ hlt, getD_in _ _ _ hlt2, celP, i64P]); (try (refine xsu ?_; try exact xtI))))
 ·(try replace h1 := xhh h1)
  obtain rfl : k = w.bases.length := by omega
  (try (refine xst ?_; try exact xtI))
  refine loopI (fun k : Nat => ⟨[(56, I .i64 k), (55, I .i64 w.mines.length), (54, .c (.sl 1 (w.mines.map i64P))), (4, .own 1), (1, .ptr 0 0 0)], [(0, .blk 28 (wldC w)), (1, .row 44 1 ((wl2 w k).map u64P))], 2⟩) (fun k : Nat => k ≤ w.mines.length) (fun k : Nat => w.mines.length - k) (0) (Nat.zero_le _) (To.mk [0, 1] rfl rfl (by decide) ?_ ?_) ?_
  ·simp (etaStruct := .none) only [push_cast, DrawG, Int.cast_ofNat_Int, seval, wl2_0]
  ·simp (etaStruct := .none) only [push_cast, DrawG, Int.cast_ofNat_Int, seval]
  rintro k hk
  (try (refine xst ?_; try exact xtI))
  refine cond_i (fun h2 => ?_) (fun h2 => ?_)
  ·(try replace h2 := xhh h2)
   have hlt : k < w.mines.length := by omega
   have ok := minI_ok hw hlt
   have ln := wl2_len w k
   have bm := b11 k hlt
   have st := wl2_s w k
   (iterate 2 ((try simp (etaStruct := .none) only [push_cast, DrawG, Int.cast_ofNat_Int, seval, getD_in _ _ _ hlt, i64P]); (try (refine xsu ?_; try exact xtI))))
   refine cond_i (fun h3 => ?_) (fun h3 => ?_)
   ·(try replace h3 := xhh h3)
    rw [if_neg (by omega)] at st
    (iterate 2 ((try simp (etaStruct := .none) only [push_cast, DrawG, Int.cast_ofNat_Int, seval, getD_in _ _ _ hlt, i64P]); (try (refine xsu ?_; try exact xtI))))
    refine callB (rleaf_s (minI w k) ok.1 ok.2) (WkL.refl _) rfl ?_
    (iterate 2 ((try simp (etaStruct := .none) only [push_cast, DrawG, Int.cast_ofNat_Int, seval, getD_in _ _ _ hlt, i64P]); (try (refine xsu ?_; try exact xtI))))
    refine ⟨k + 1, by omega, by omega, To.mk [0, 4] rfl rfl (by decide) ?_ ?_⟩
    ·(iterate 2 ((try simp (etaStruct := .none) only [push_cast, DrawG, Int.cast_ofNat_Int, seval, st, List.map_append, u64P]); (try (refine xsu ?_; try exact xtI))))
    ·(iterate 2 ((try simp (etaStruct := .none) only [push_cast, DrawG, Int.cast_ofNat_Int, seval, getD_in _ _ _ hlt, i64P]); (try (refine xsu ?_; try exact xtI))))
   ·(try replace h3 := xhh h3)
    rw [if_pos (by omega), List.append_nil] at st
    (iterate 2 ((try simp (etaStruct := .none) only [push_cast, DrawG, Int.cast_ofNat_Int, seval, getD_in _ _ _ hlt, i64P]); (try (refine xsu ?_; try exact xtI))))
    refine ⟨k + 1, by omega, by omega, To.mk [0, 1] rfl rfl (by decide) ?_ ?_⟩
    ·(iterate 2 ((try simp (etaStruct := .none) only [push_cast, DrawG, Int.cast_ofNat_Int, seval, st]); (try (refine xsu ?_; try exact xtI))))
    ·(iterate 2 ((try simp (etaStruct := .none) only [push_cast, DrawG, Int.cast_ofNat_Int, seval, getD_in _ _ _ hlt, i64P]); (try (refine xsu ?_; try exact xtI))))
  ·(try replace h2 := xhh h2)
   obtain rfl : k = w.mines.length := by omega
   (try (refine xst ?_; try exact xtI))
   refine loopI (fun k : Nat => ⟨[(74, I .i64 k), (73, I .i64 w.troops.length), (72, .c (.sl 7 (w.troops.map trpP))), (4, .own 0)], [(0, .row 44 1 ((wl3 w k).map u64P))], 1⟩) (fun k : Nat => k ≤ w.troops.length) (fun k : Nat => w.troops.length - k) (0) (Nat.zero_le _) (To.mk [1] rfl rfl (by decide) ?_ ?_) ?_
   ·simp (etaStruct := .none) only [push_cast, DrawG, Int.cast_ofNat_Int, seval, wl3_0]
   ·simp (etaStruct := .none) only [push_cast, DrawG, Int.cast_ofNat_Int, seval]
   rintro k hk
   (try (refine xst ?_; try exact xtI))
   refine cond_i (fun h4 => ?_) (fun h4 => ?_)
   ·(try replace h4 := xhh h4)
    have hlt : k < w.troops.length := by omega
    have ok := trpI_ok hw hlt
    have ln := wl3_len w k
    (iterate 2 ((try simp (etaStruct := .none) only [push_cast, DrawG, Int.cast_ofNat_Int, seval, getD_in _ _ _ hlt, trpP]); (try (refine xsu ?_; try exact xtI))))
    refine callB (rleaf_s (trpI w k) ok.1 ok.2) (WkL.refl _) rfl ?_
    (iterate 2 ((try simp (etaStruct := .none) only [push_cast, DrawG, Int.cast_ofNat_Int, seval, getD_in _ _ _ hlt, trpP]); (try (refine xsu ?_; try exact xtI))))
    refine ⟨k + 1, by omega, by omega, To.mk [4] rfl rfl (by decide) ?_ ?_⟩
    ·(iterate 2 ((try simp (etaStruct := .none) only [push_cast, DrawG, Int.cast_ofNat_Int, seval, wl3_s, List.map_append, u64P]); (try (refine xsu ?_; try exact xtI))))
    ·(iterate 2 ((try simp (etaStruct := .none) only [push_cast, DrawG, Int.cast_ofNat_Int, seval, getD_in _ _ _ hlt, trpP]); (try (refine xsu ?_; try exact xtI))))
   ·(try replace h4 := xhh h4)
    obtain rfl : k = w.troops.length := by omega
    have ln := wl3_len w w.troops.length
    (try (refine xst ?_; try exact xtI))
    refine callB (markOf_s (wl3 w w.troops.length) (by omega)) (WkL.refl _) rfl ?_
    (try (refine xst ?_; try exact xtI))
    (first | (refine retA rfl (Wk.of ?_); (try simp (etaStruct := .none) only [push_cast, DrawG, Int.cast_ofNat_Int, seval]); first | done | (simp [wmarkV, *]; done) | (simp_all [wmarkV]; done)) | (refine retA rfl ?_; (try simp (etaStruct := .none) only [push_cast, DrawG, Int.cast_ofNat_Int, seval]); (try simp [wmarkV, *]); (try exact wkc)))
theorem tmark_s (w : Wld) (hl : wldL w) (hw : worldE w = 0) : Spec Tryz.prog 40 [wldA w] [] (.tup [.c (.v (.int .u64 (wmarkV w : Nat))), I .i64 0]) [] := by
 obtain ⟨b1, b2, b3, b4, b5, b6, b7, b8, b9, b10, b11⟩ := world_b hw
 have h0 := hdI_ok hw
 refine spec_am Tryz.func40 rfl rfl mix 107 rfl [.tmp 2, .tmp 3] Tryz.results40 (Nat.le_of_ble_eq_true rfl) ?_
 (try (refine xst ?_; try exact xtI))
 refine caP (tcheck_s w hl) ?_
 (try (refine xst ?_; try exact xtI))
 refine cond_i (fun h1 => ?_) (fun h1 => ?_)
 ·(try replace h1 := xhh h1)
  exact absurd hw h1
 ·(try replace h1 := xhh h1)
  (try (refine xst ?_; try exact xtI))
  refine callB (tleaf_s (hdI w) h0.1 h0.2) (WkL.refl _) rfl ?_
  (try (refine xst ?_; try exact xtI))
  refine loopI (fun k : Nat => ⟨[(37, I .i64 k), (36, I .i64 w.bases.length), (35, .c (.sl 2 (w.bases.map celP))), (5, .own 1), (1, .ptr 0 0 0)], [(0, .blk 28 (wldC w)), (1, .row 44 1 ((wl1 w k).map u64P))], 2⟩) (fun k : Nat => k ≤ w.bases.length) (fun k : Nat => w.bases.length - k) (0) (Nat.zero_le _) (To.mk [0, 3] rfl rfl (by decide) ?_ ?_) ?_
  ·simp (etaStruct := .none) only [push_cast, DrawG, Int.cast_ofNat_Int, seval, wl1_0, u64P]
  ·simp (etaStruct := .none) only [push_cast, DrawG, Int.cast_ofNat_Int, seval]
  rintro k hk
  (try (refine xst ?_; try exact xtI))
  refine cond_i (fun h2 => ?_) (fun h2 => ?_)
  ·(try replace h2 := xhh h2)
   have hlt : k < w.bases.length := by omega
   have hlt2 : k < w.stocks.length := by omega
   have ok := basI_ok hw hlt
   have ln := wl1_len w k
   (iterate 2 ((try simp (etaStruct := .none) only [push_cast, DrawG, Int.cast_ofNat_Int, seval, getD_in _ _ _ hlt, getD_in _ _ _ hlt2, celP, i64P]); (try (refine xsu ?_; try exact xtI))))
   refine callB (tleaf_s (basI w k) ok.1 ok.2) (WkL.refl _) rfl ?_
   (iterate 2 ((try simp (etaStruct := .none) only [push_cast, DrawG, Int.cast_ofNat_Int, seval, getD_in _ _ _ hlt, getD_in _ _ _ hlt2, celP, i64P]); (try (refine xsu ?_; try exact xtI))))
   (try (refine ⟨by kernel_rfl, ?_⟩))
   (iterate 2 ((try simp (etaStruct := .none) only [push_cast, DrawG, Int.cast_ofNat_Int, seval, getD_in _ _ _ hlt, getD_in _ _ _ hlt2, celP, i64P]); (try (refine xsu ?_; try exact xtI))))
   refine ⟨k + 1, by omega, by omega, To.mk [0, 59] rfl rfl (by decide) ?_ ?_⟩
   ·(iterate 2 ((try simp (etaStruct := .none) only [push_cast, DrawG, Int.cast_ofNat_Int, seval, wl1_s, List.map_append, u64P]); (try (refine xsu ?_; try exact xtI))))
   ·(iterate 2 ((try simp (etaStruct := .none) only [push_cast, DrawG, Int.cast_ofNat_Int, seval, getD_in _ _ _ hlt, getD_in _ _ _ hlt2, celP, i64P]); (try (refine xsu ?_; try exact xtI))))
  ·(try replace h2 := xhh h2)
   obtain rfl : k = w.bases.length := by omega
   (try (refine xst ?_; try exact xtI))
   refine loopI (fun k : Nat => ⟨[(61, I .i64 k), (60, I .i64 w.mines.length), (59, .c (.sl 1 (w.mines.map i64P))), (5, .own 1), (1, .ptr 0 0 0)], [(0, .blk 28 (wldC w)), (1, .row 44 1 ((wl2 w k).map u64P))], 2⟩) (fun k : Nat => k ≤ w.mines.length) (fun k : Nat => w.mines.length - k) (0) (Nat.zero_le _) (To.mk [0, 1] rfl rfl (by decide) ?_ ?_) ?_
   ·simp (etaStruct := .none) only [push_cast, DrawG, Int.cast_ofNat_Int, seval, wl2_0]
   ·simp (etaStruct := .none) only [push_cast, DrawG, Int.cast_ofNat_Int, seval]
   rintro k hk
   (try (refine xst ?_; try exact xtI))
   refine cond_i (fun h3 => ?_) (fun h3 => ?_)
   ·(try replace h3 := xhh h3)
    have hlt : k < w.mines.length := by omega
    have ok := minI_ok hw hlt
    have ln := wl2_len w k
    have bm := b11 k hlt
    have st := wl2_s w k
    (iterate 2 ((try simp (etaStruct := .none) only [push_cast, DrawG, Int.cast_ofNat_Int, seval, getD_in _ _ _ hlt, i64P]); (try (refine xsu ?_; try exact xtI))))
    refine cond_i (fun h4 => ?_) (fun h4 => ?_)
    ·(try replace h4 := xhh h4)
     rw [if_neg (by omega)] at st
     (iterate 2 ((try simp (etaStruct := .none) only [push_cast, DrawG, Int.cast_ofNat_Int, seval, getD_in _ _ _ hlt, i64P]); (try (refine xsu ?_; try exact xtI))))
     refine callB (tleaf_s (minI w k) ok.1 ok.2) (WkL.refl _) rfl ?_
     (iterate 2 ((try simp (etaStruct := .none) only [push_cast, DrawG, Int.cast_ofNat_Int, seval, getD_in _ _ _ hlt, i64P]); (try (refine xsu ?_; try exact xtI))))
     refine ⟨k + 1, by omega, by omega, To.mk [0, 4] rfl rfl (by decide) ?_ ?_⟩
     ·(iterate 2 ((try simp (etaStruct := .none) only [push_cast, DrawG, Int.cast_ofNat_Int, seval, st, List.map_append, u64P]); (try (refine xsu ?_; try exact xtI))))
     ·(iterate 2 ((try simp (etaStruct := .none) only [push_cast, DrawG, Int.cast_ofNat_Int, seval, getD_in _ _ _ hlt, i64P]); (try (refine xsu ?_; try exact xtI))))
    ·(try replace h4 := xhh h4)
     rw [if_pos (by omega), List.append_nil] at st
     (iterate 2 ((try simp (etaStruct := .none) only [push_cast, DrawG, Int.cast_ofNat_Int, seval, getD_in _ _ _ hlt, i64P]); (try (refine xsu ?_; try exact xtI))))
     refine ⟨k + 1, by omega, by omega, To.mk [0, 1] rfl rfl (by decide) ?_ ?_⟩
     ·(iterate 2 ((try simp (etaStruct := .none) only [push_cast, DrawG, Int.cast_ofNat_Int, seval, st]); (try (refine xsu ?_; try exact xtI))))
     ·(iterate 2 ((try simp (etaStruct := .none) only [push_cast, DrawG, Int.cast_ofNat_Int, seval, getD_in _ _ _ hlt, i64P]); (try (refine xsu ?_; try exact xtI))))
   ·(try replace h3 := xhh h3)
    obtain rfl : k = w.mines.length := by omega
    (try (refine xst ?_; try exact xtI))
    refine loopI (fun k : Nat => ⟨[(79, I .i64 k), (78, I .i64 w.troops.length), (77, .c (.sl 7 (w.troops.map trpP))), (5, .own 0)], [(0, .row 44 1 ((wl3 w k).map u64P))], 1⟩) (fun k : Nat => k ≤ w.troops.length) (fun k : Nat => w.troops.length - k) (0) (Nat.zero_le _) (To.mk [1] rfl rfl (by decide) ?_ ?_) ?_
    ·simp (etaStruct := .none) only [push_cast, DrawG, Int.cast_ofNat_Int, seval, wl3_0]
    ·simp (etaStruct := .none) only [push_cast, DrawG, Int.cast_ofNat_Int, seval]
    rintro k hk
    (try (refine xst ?_; try exact xtI))
    refine cond_i (fun h5 => ?_) (fun h5 => ?_)
    ·(try replace h5 := xhh h5)
     have hlt : k < w.troops.length := by omega
     have ok := trpI_ok hw hlt
     have ln := wl3_len w k
     (iterate 2 ((try simp (etaStruct := .none) only [push_cast, DrawG, Int.cast_ofNat_Int, seval, getD_in _ _ _ hlt, trpP]); (try (refine xsu ?_; try exact xtI))))
     refine callB (tleaf_s (trpI w k) ok.1 ok.2) (WkL.refl _) rfl ?_
     (iterate 2 ((try simp (etaStruct := .none) only [push_cast, DrawG, Int.cast_ofNat_Int, seval, getD_in _ _ _ hlt, trpP]); (try (refine xsu ?_; try exact xtI))))
     refine ⟨k + 1, by omega, by omega, To.mk [4] rfl rfl (by decide) ?_ ?_⟩
     ·(iterate 2 ((try simp (etaStruct := .none) only [push_cast, DrawG, Int.cast_ofNat_Int, seval, wl3_s, List.map_append, u64P]); (try (refine xsu ?_; try exact xtI))))
     ·(iterate 2 ((try simp (etaStruct := .none) only [push_cast, DrawG, Int.cast_ofNat_Int, seval, getD_in _ _ _ hlt, trpP]); (try (refine xsu ?_; try exact xtI))))
    ·(try replace h5 := xhh h5)
     obtain rfl : k = w.troops.length := by omega
     have ln := wl3_len w w.troops.length
     (try (refine xst ?_; try exact xtI))
     refine callB (mof_s (wl3 w w.troops.length) (by omega)) (WkL.refl _) rfl ?_
     (try (refine xst ?_; try exact xtI))
     (first | (refine retA rfl (Wk.of ?_); (try simp (etaStruct := .none) only [push_cast, DrawG, Int.cast_ofNat_Int, seval]); first | done | (simp [wmarkV, *]; done) | (simp_all [wmarkV]; done)) | (refine retA rfl ?_; (try simp (etaStruct := .none) only [push_cast, DrawG, Int.cast_ofNat_Int, seval]); (try simp [wmarkV, *]); (try exact wkc)))
end Go.Proofs.YthiddmncjafklaaGreat
namespace Go.Proofs.YthiddmncjafklaaGreat
set_option linter.all false
open Go.RowKit
set_option maxRecDepth 100000
set_option maxHeartbeats 1000000
def ordsP (l : List Ord) : List PV := [.sl 6 (l.map ordP)]
def runW (WR : Cel → List Int) : List (List Ord) → Wld → Wld
 | [], w => w
 | o :: r, w => runW WR r (turnV WR w o)
def runM (WR : Cel → List Int) : List (List Ord) → Wld → List Nat
 | [], w => [wmarkV w]
 | o :: r, w => wmarkV w :: runM WR r (turnV WR w o)
def runE (WR : Cel → List Int) : List (List Ord) → Wld → Int
 | [], _ => 0
 | o :: r, w => if turnE o w ≠ 0 then turnE o w else runE WR r (turnV WR w o)
theorem deedV_f (w : Wld) (d : Ded) : (deedV w d).1.f = w.f := by
 unfold deedV
 repeat' split
 all_goals rfl
theorem deedsA_f (l : List Ded) : ∀ w, (deedsA w l).1.f = w.f := by
 induction l with
 | nil => intro w; rfl
 | cons a r ih => intro w; rw [deedsA, ih, deedV_f]
theorem turnV_f (WR : Cel → List Int) (w : Wld) (o : List Ord) : (turnV WR w o).f = w.f := by
 unfold turnV nowUp tkC; rw [show ({ (deedsA (tkB WR w o) (deedsV o w)).1 with now := (deedsA (tkB WR w o) (deedsV o w)).1.now + 1 } : Wld).f = (deedsA (tkB WR w o) (deedsV o w)).1.f from rfl, deedsA_f]; rfl
theorem runW_f (WR : Cel → List Int) : ∀ (l : List (List Ord)) (w : Wld), (runW WR l w).f = w.f
 | [], _ => rfl
 | o :: r, w => by rw [runW, runW_f WR r, turnV_f]
theorem runW_snoc (WR : Cel → List Int) (o : List Ord) : ∀ (l : List (List Ord)) (w : Wld), runW WR (l ++ [o]) w = turnV WR (runW WR l w) o
 | [], _ => rfl
 | a :: r, w => by rw [List.cons_append, runW, runW_snoc WR o r]; rfl
theorem runM_snoc (WR : Cel → List Int) (o : List Ord) : ∀ (l : List (List Ord)) (w : Wld), runM WR (l ++ [o]) w = runM WR l w ++ [wmarkV (turnV WR (runW WR l w) o)]
 | [], _ => rfl
 | a :: r, w => by rw [List.cons_append, runM, runM_snoc WR o r]; rfl
theorem runE_app (WR : Cel → List Int) (b : List (List Ord)) : ∀ (a : List (List Ord)) (w : Wld), runE WR (a ++ b) w = if runE WR a w ≠ 0 then runE WR a w else runE WR b (runW WR a w)
 | [], w => by simp [runE, runW]
 | o :: r, w => by
  rw [List.cons_append, runE, runE, runE_app WR b r, runW]
  by_cases h : turnE o w ≠ 0
  ·rw [if_pos h, if_pos h, if_pos h]
  ·rw [if_neg h, if_neg h]
theorem runM_len (WR : Cel → List Int) : ∀ (l : List (List Ord)) (w : Wld), (runM WR l w).length = l.length + 1
 | [], _ => rfl
 | o :: r, w => by rw [runM, List.length_cons, runM_len WR r, List.length_cons]
theorem turnE_ok {w : Wld} {l : List Ord} (h : turnE l w = 0) : Right w ∧ w.now < 1000000 := by
 have hs : splitE l w = 0 := by unfold turnE at h; split at h; rename_i h1; exact absurd h h1; rename_i h1; simpa using h1
 have hn : w.now < 1000000 := by unfold turnE at h; rw [if_neg (by simp [hs])] at h; split at h; exact absurd h (by decide); omega
 exact ⟨right_of (splitE_ok hs).2, hn⟩
theorem right_run {WR : Cel → List Int} : ∀ (l : List (List Ord)) {w : Wld}, Right w → (∀ a, FloodIs w.f [a] (WR a)) → runE WR l w = 0 → Right (runW WR l w)
 | [], _, h, _, _ => h
 | o :: r, w, h, hWR, he => by
  rw [runE] at he
  split at he
  ·rename_i h1; exact absurd he h1
  ·rename_i h1
   have h1 : turnE o w = 0 := by simpa using h1
   exact right_run r (right_turn h hWR o (turnE_ok h1).2) (by intro a; rw [turnV_f]; exact hWR a) he
theorem run_step {WR : Cel → List Int} {ts : List (List Ord)} {w : Wld} {k : Nat} (hk : k < ts.length) (h : runE WR (ts.take k) w = 0) : (turnE (ts.getD k default) (runW WR (ts.take k) w) ≠ 0 → runE WR ts w = turnE (ts.getD k default) (runW WR (ts.take k) w)) ∧ (turnE (ts.getD k default) (runW WR (ts.take k) w) = 0 → runE WR (ts.take (k + 1)) w = 0) := by
 have e1 := take_snoc ts k hk
 constructor
 ·intro hn
  have e2 : ts = ts.take k ++ ts.drop k := (List.take_append_drop k ts).symm
  have e3 : ts.drop k = ts.getD k default :: ts.drop (k + 1) := by rw [getD_at _ _ hk]; exact List.drop_eq_getElem_cons hk
  rw [show runE WR ts w = runE WR (ts.take k ++ ts.drop k) w from by rw [← e2], runE_app, if_neg (by simp [h]), e3, runE, if_pos hn]
 ·intro h0
  rw [e1, runE_app, if_neg (fun hn => hn h), runE, if_neg (fun hn => hn h0)]; rfl
theorem struck_nil {w : Wld} (h : Right w) : struckW w [] = w := by
 have e : woundT w [] = id := by funext t; unfold woundT; rw [harm_nil]; simp
 unfold struckW leftV
 rw [e, List.map_id, List.filter_eq_self.2]
 intro t ht
 obtain ⟨i, hi, rfl⟩ := List.mem_iff_getElem.1 ht
 have := (h.trp i hi).life
 rw [getD_at _ _ hi] at this
 simp; omega
abbrev wld0C : List AV := [I .i64 0, I .i64 0, .c (.v (.slice none 0 0)), .c (.v (.slice none 0 0)), .c (.v (.slice none 0 0)), .c (.v (.slice none 0 0)), .c (.v (.slice none 0 0)), I .i64 0, I .i64 0]
theorem trun_k (w : Wld) (ts : List (List Ord)) (WR : Cel → List Int) (hWR : ∀ a, FloodIs w.f [a] (WR a)) (hts : ts.length ≤ 200) (hin : ∀ l ∈ ts, l.length ≤ 9223372036854775807) (hw : Right w) : Spec Tryz.prog 11 [wldA w, .c (.sl 1 (ts.map ordsP))] [] (.tup [wldA (if runE WR ts w = 0 then runW WR ts w else default), .c (.sl 1 ((if runE WR ts w = 0 then runM WR ts w else []).map u64P)), I .i64 (runE WR ts w)]) [] := by
 have e1 : blowsE w [] = 0 := by unfold blowsE; rw [if_neg (by simp [hw.e]), if_neg (by simp)]
 have HK := hstruck_k w [] hw.l (by simp) e1
 rw [e1, show struckR w [] = w from by unfold struckR; rw [if_pos e1, struck_nil hw]] at HK
 obtain ⟨E, hE⟩ : ∃ E, E = runE WR ts w := ⟨_, rfl⟩
 rw [← hE]
 refine spec_am Tryz.func11 rfl rfl mix 64 rfl [.cell 4 28, .tmp 5, .tmp 6] Tryz.results11 (Nat.le_of_ble_eq_true rfl) ?_
 (try (refine xst ?_; try exact xtI))
 refine cond_i (fun h1 => ?_) (fun h1 => ?_)
 ·(try replace h1 := xhh h1)
  omega
 ·(try replace h1 := xhh h1)
  (try (refine xst ?_; try exact xtI))
  refine callP (HK) (by exact ⟨Wk.refl _, Wk.nil _, trivial⟩) ?_
  (try (refine xst ?_; try exact xtI))
  refine cond_i (fun h2 => ?_) (fun h2 => ?_)
  ·(try replace h2 := xhh h2)
   simp at h2
  ·(try replace h2 := xhh h2)
   (try (refine xst ?_; try exact xtI))
   refine caP (tmark_s w hw.l hw.e) ?_
   (try (refine xst ?_; try exact xtI))
   refine loopI (fun k : Nat => ⟨[(37, I .i64 k), (36, I .i64 ts.length), (35, .c (.sl 1 (ts.map ordsP))), (11, .own 2), (4, .ptr 1 0 0), (2, .ptr 0 0 0)], [(0, .blk 28 (wldC (runW WR (ts.take k) w))), (1, .blk 28 wld0C), (2, .row 44 1 ((runM WR (ts.take k) w).map u64P))], 3⟩) (fun k : Nat => k ≤ ts.length ∧ runE WR (ts.take k) w = 0) (fun k : Nat => ts.length - k) (0) (⟨Nat.zero_le _, rfl⟩) (To.mk [0, 1, 2] rfl rfl (by decide) ?_ ?_) ?_
   ·simp (etaStruct := .none) only [push_cast, DrawG, Int.cast_ofNat_Int, seval, List.take_zero, runW, runM, List.map_cons, List.map_nil, u64P]
   ·simp (etaStruct := .none) only [push_cast, DrawG, Int.cast_ofNat_Int, seval]
   rintro k ⟨hk, hn⟩
   (try (refine xst ?_; try exact xtI))
   refine cond_i (fun h3 => ?_) (fun h3 => ?_)
   ·(try replace h3 := xhh h3)
    have hlt : k < ts.length := by omega
    have RK := right_run (ts.take k) hw hWR hn
    have hWk : ∀ a, FloodIs (runW WR (ts.take k) w).f [a] (WR a) := by intro a; rw [runW_f]; exact hWR a
    obtain ⟨st1, st2⟩ := run_step hlt hn
    have T := tturn_s (runW WR (ts.take k) w) (ts.getD k default) WR hWk RK.l (hin _ (getD_mem _ _ hlt))
    (iterate 2 ((try simp (etaStruct := .none) only [push_cast, DrawG, Int.cast_ofNat_Int, seval, getD_in _ _ _ hlt, ordsP]); (try (refine xsu ?_; try exact xtI))))
    refine caP (T) ?_
    (iterate 2 ((try simp (etaStruct := .none) only [push_cast, DrawG, Int.cast_ofNat_Int, seval, getD_in _ _ _ hlt, ordsP]); (try (refine xsu ?_; try exact xtI))))
    refine cond_i (fun h4 => ?_) (fun h4 => ?_)
    ·(try replace h4 := xhh h4)
     have hE2 := hE.trans (st1 h4)
     rw [if_neg (by rw [hE2]; exact h4), if_neg (by rw [hE2]; exact h4), hE2]
     (iterate 2 ((try simp (etaStruct := .none) only [push_cast, DrawG, Int.cast_ofNat_Int, seval, getD_in _ _ _ hlt, ordsP]); (try (refine xsu ?_; try exact xtI))))
     exact xrz rfl
    ·(try replace h4 := xhh h4)
     have e0 : turnE (ts.getD k default) (runW WR (ts.take k) w) = 0 := by simpa using h4
     have hWv : turnW WR (runW WR (ts.take k) w) (ts.getD k default) = turnV WR (runW WR (ts.take k) w) (ts.getD k default) := if_pos e0
     have RV : Right (turnW WR (runW WR (ts.take k) w) (ts.getD k default)) := by rw [hWv]; exact right_turn RK hWk _ (turnE_ok e0).2
     have hW1 : runW WR (ts.take (k + 1)) w = turnW WR (runW WR (ts.take k) w) (ts.getD k default) := by rw [take_snoc ts k hlt, runW_snoc, hWv]
     have hM1 : runM WR (ts.take (k + 1)) w = runM WR (ts.take k) w ++ [wmarkV (turnW WR (runW WR (ts.take k) w) (ts.getD k default))] := by rw [take_snoc ts k hlt, runM_snoc, hWv]
     have hml := runM_len WR (ts.take k) w
     rw [List.length_take] at hml
     (iterate 2 ((try simp (etaStruct := .none) only [push_cast, DrawG, Int.cast_ofNat_Int, seval, getD_in _ _ _ hlt, ordsP]); (try (refine xsu ?_; try exact xtI))))
     refine caP (tmark_s _ RV.l RV.e) ?_
     (iterate 2 ((try simp (etaStruct := .none) only [push_cast, DrawG, Int.cast_ofNat_Int, seval, getD_in _ _ _ hlt, ordsP]); (try (refine xsu ?_; try exact xtI))))
     refine ⟨k + 1, ⟨by omega, st2 e0⟩, by omega, To.mk [0, 1, 4] rfl rfl (by decide) ?_ ?_⟩
     ·(iterate 2 ((try simp (etaStruct := .none) only [push_cast, DrawG, Int.cast_ofNat_Int, seval, hW1, hM1, List.map_append, List.map_cons, List.map_nil, u64P]); (try (refine xsu ?_; try exact xtI))))
     ·(iterate 2 ((try simp (etaStruct := .none) only [push_cast, DrawG, Int.cast_ofNat_Int, seval, getD_in _ _ _ hlt, ordsP]); (try (refine xsu ?_; try exact xtI))))
   ·(try replace h3 := xhh h3)
    obtain rfl : k = ts.length := by omega
    rw [List.take_length] at hn
    have hE0 : E = 0 := hE.trans hn
    rw [if_pos hE0, if_pos hE0, hE0]
    (iterate 2 ((try simp (etaStruct := .none) only [push_cast, DrawG, Int.cast_ofNat_Int, seval, List.take_length]); (try (refine xsu ?_; try exact xtI))))
    exact xrz rfl
end Go.Proofs.YthiddmncjafklaaGreat
namespace Go.Proofs.YthiddmncjafklaaGreat
set_option linter.all false
open Go.RowKit
set_option maxRecDepth 100000
set_option maxHeartbeats 1000000
theorem rrun_k (w : Wld) (ts : List (List Ord)) (WR : Cel → List Int) (hWR : ∀ a, FloodIs w.f [a] (WR a)) (hts : ts.length ≤ 200) (hin : ∀ l ∈ ts, l.length ≤ 9223372036854775807) (hw : Right w) : Spec Tryz.prog 12 [wldA w, .c (.sl 1 (ts.map ordsP))] [] (.tup [wldA (if runE WR ts w = 0 then runW WR ts w else default), .c (.sl 1 ((if runE WR ts w = 0 then runM WR ts w else []).map u64P)), I .i64 (runE WR ts w)]) [] := by
 have HW := wright_s w hw.l
 rw [hw.e] at HW
 obtain ⟨E, hE⟩ : ∃ E, E = runE WR ts w := ⟨_, rfl⟩
 rw [← hE]
 refine spec_am Tryz.func12 rfl rfl mix 50 rfl [.cell 4 28, .tmp 5, .tmp 6] Tryz.results12 (Nat.le_of_ble_eq_true rfl) ?_
 (try (refine xst ?_; try exact xtI))
 refine cond_i (fun h1 => ?_) (fun h1 => ?_)
 ·(try replace h1 := xhh h1)
  omega
 ·(try replace h1 := xhh h1)
  (try (refine xst ?_; try exact xtI))
  refine caP (HW) ?_
  (try (refine xst ?_; try exact xtI))
  refine cond_i (fun h2 => ?_) (fun h2 => ?_)
  ·(try replace h2 := xhh h2)
   simp at h2
  ·(try replace h2 := xhh h2)
   (try (refine xst ?_; try exact xtI))
   refine caP (worldMark_s w hw.e) ?_
   (try (refine xst ?_; try exact xtI))
   refine loopI (fun k : Nat => ⟨[(27, I .i64 k), (26, I .i64 ts.length), (25, .c (.sl 1 (ts.map ordsP))), (8, .own 2), (4, .ptr 1 0 0), (2, .ptr 0 0 0)], [(0, .blk 28 (wldC (runW WR (ts.take k) w))), (1, .blk 28 wld0C), (2, .row 44 1 ((runM WR (ts.take k) w).map u64P))], 3⟩) (fun k : Nat => k ≤ ts.length ∧ runE WR (ts.take k) w = 0) (fun k : Nat => ts.length - k) (0) (⟨Nat.zero_le _, rfl⟩) (To.mk [0, 1, 2] rfl rfl (by decide) ?_ ?_) ?_
   ·simp (etaStruct := .none) only [push_cast, DrawG, Int.cast_ofNat_Int, seval, List.take_zero, runW, runM, List.map_cons, List.map_nil, u64P]
   ·simp (etaStruct := .none) only [push_cast, DrawG, Int.cast_ofNat_Int, seval]
   rintro k ⟨hk, hn⟩
   (try (refine xst ?_; try exact xtI))
   refine cond_i (fun h3 => ?_) (fun h3 => ?_)
   ·(try replace h3 := xhh h3)
    have hlt : k < ts.length := by omega
    have RK := right_run (ts.take k) hw hWR hn
    have hWk : ∀ a, FloodIs (runW WR (ts.take k) w).f [a] (WR a) := by intro a; rw [runW_f]; exact hWR a
    obtain ⟨st1, st2⟩ := run_step hlt hn
    have T := rturn_s (runW WR (ts.take k) w) (ts.getD k default) WR hWk RK.l (hin _ (getD_mem _ _ hlt))
    (iterate 2 ((try simp (etaStruct := .none) only [push_cast, DrawG, Int.cast_ofNat_Int, seval, getD_in _ _ _ hlt, ordsP]); (try (refine xsu ?_; try exact xtI))))
    refine caP (T) ?_
    (iterate 2 ((try simp (etaStruct := .none) only [push_cast, DrawG, Int.cast_ofNat_Int, seval, getD_in _ _ _ hlt, ordsP]); (try (refine xsu ?_; try exact xtI))))
    refine cond_i (fun h4 => ?_) (fun h4 => ?_)
    ·(try replace h4 := xhh h4)
     have hE2 := hE.trans (st1 h4)
     rw [if_neg (by rw [hE2]; exact h4), if_neg (by rw [hE2]; exact h4), hE2]
     (iterate 2 ((try simp (etaStruct := .none) only [push_cast, DrawG, Int.cast_ofNat_Int, seval, getD_in _ _ _ hlt, ordsP]); (try (refine xsu ?_; try exact xtI))))
     exact xrz rfl
    ·(try replace h4 := xhh h4)
     have e0 : turnE (ts.getD k default) (runW WR (ts.take k) w) = 0 := by simpa using h4
     have hWv : turnW WR (runW WR (ts.take k) w) (ts.getD k default) = turnV WR (runW WR (ts.take k) w) (ts.getD k default) := if_pos e0
     have RV : Right (turnW WR (runW WR (ts.take k) w) (ts.getD k default)) := by rw [hWv]; exact right_turn RK hWk _ (turnE_ok e0).2
     have hW1 : runW WR (ts.take (k + 1)) w = turnW WR (runW WR (ts.take k) w) (ts.getD k default) := by rw [take_snoc ts k hlt, runW_snoc, hWv]
     have hM1 : runM WR (ts.take (k + 1)) w = runM WR (ts.take k) w ++ [wmarkV (turnW WR (runW WR (ts.take k) w) (ts.getD k default))] := by rw [take_snoc ts k hlt, runM_snoc, hWv]
     have hml := runM_len WR (ts.take k) w
     rw [List.length_take] at hml
     (iterate 2 ((try simp (etaStruct := .none) only [push_cast, DrawG, Int.cast_ofNat_Int, seval, getD_in _ _ _ hlt, ordsP]); (try (refine xsu ?_; try exact xtI))))
     refine caP (worldMark_s _ RV.e) ?_
     (iterate 2 ((try simp (etaStruct := .none) only [push_cast, DrawG, Int.cast_ofNat_Int, seval, getD_in _ _ _ hlt, ordsP]); (try (refine xsu ?_; try exact xtI))))
     refine ⟨k + 1, ⟨by omega, st2 e0⟩, by omega, To.mk [0, 1, 4] rfl rfl (by decide) ?_ ?_⟩
     ·(iterate 2 ((try simp (etaStruct := .none) only [push_cast, DrawG, Int.cast_ofNat_Int, seval, hW1, hM1, List.map_append, List.map_cons, List.map_nil, u64P]); (try (refine xsu ?_; try exact xtI))))
     ·(iterate 2 ((try simp (etaStruct := .none) only [push_cast, DrawG, Int.cast_ofNat_Int, seval, getD_in _ _ _ hlt, ordsP]); (try (refine xsu ?_; try exact xtI))))
   ·(try replace h3 := xhh h3)
    obtain rfl : k = ts.length := by omega
    rw [List.take_length] at hn
    have hE0 : E = 0 := hE.trans hn
    rw [if_pos hE0, if_pos hE0, hE0]
    (iterate 2 ((try simp (etaStruct := .none) only [push_cast, DrawG, Int.cast_ofNat_Int, seval, List.take_length]); (try (refine xsu ?_; try exact xtI))))
    exact xrz rfl
def runRE (WR : Cel → List Int) (ts : List (List Ord)) (w : Wld) : Int := if 200 < ts.length then 2 else if worldE w ≠ 0 then worldE w else runE WR ts w
def runRW (WR : Cel → List Int) (ts : List (List Ord)) (w : Wld) : Wld := if runRE WR ts w = 0 then runW WR ts w else default
def runRM (WR : Cel → List Int) (ts : List (List Ord)) (w : Wld) : List Nat := if runRE WR ts w = 0 then runM WR ts w else []
theorem trun_l (w : Wld) (ts : List (List Ord)) (h : 200 < ts.length) : Spec Tryz.prog 11 [wldA w, .c (.sl 1 (ts.map ordsP))] [] (.tup [wldA default, .c (.sl 1 (([] : List Nat).map u64P)), I .i64 2]) [] := by
 refine spec_am Tryz.func11 rfl rfl mix 64 rfl [.cell 4 28, .tmp 5, .tmp 6] Tryz.results11 (Nat.le_of_ble_eq_true rfl) ?_
 (try (refine xst ?_; try exact xtI))
 refine cond_i (fun h1 => ?_) (fun h1 => ?_)
 ·(try replace h1 := xhh h1)
  (try (refine xst ?_; try exact xtI))
  exact xrz rfl
 ·(try replace h1 := xhh h1)
  omega
theorem rrun_l (w : Wld) (ts : List (List Ord)) (h : 200 < ts.length) : Spec Tryz.prog 12 [wldA w, .c (.sl 1 (ts.map ordsP))] [] (.tup [wldA default, .c (.sl 1 (([] : List Nat).map u64P)), I .i64 2]) [] := by
 refine spec_am Tryz.func12 rfl rfl mix 50 rfl [.cell 4 28, .tmp 5, .tmp 6] Tryz.results12 (Nat.le_of_ble_eq_true rfl) ?_
 (try (refine xst ?_; try exact xtI))
 refine cond_i (fun h1 => ?_) (fun h1 => ?_)
 ·(try replace h1 := xhh h1)
  (try (refine xst ?_; try exact xtI))
  exact xrz rfl
 ·(try replace h1 := xhh h1)
  omega
theorem trun_w (w : Wld) (ts : List (List Ord)) (hl : wldL w) (h : ts.length ≤ 200) (hw : worldE w ≠ 0) : Spec Tryz.prog 11 [wldA w, .c (.sl 1 (ts.map ordsP))] [] (.tup [wldA default, .c (.sl 1 (([] : List Nat).map u64P)), I .i64 (worldE w)]) [] := by
 have e1 : blowsE w [] = worldE w := by unfold blowsE; rw [if_pos hw]
 have HK := hstruck_e w [] hl (by simp) (by rw [e1]; exact hw)
 rw [e1] at HK
 refine spec_am Tryz.func11 rfl rfl mix 64 rfl [.cell 4 28, .tmp 5, .tmp 6] Tryz.results11 (Nat.le_of_ble_eq_true rfl) ?_
 (try (refine xst ?_; try exact xtI))
 refine cond_i (fun h1 => ?_) (fun h1 => ?_)
 ·(try replace h1 := xhh h1)
  omega
 ·(try replace h1 := xhh h1)
  (try (refine xst ?_; try exact xtI))
  refine callP (HK) (by exact ⟨Wk.refl _, Wk.nil _, trivial⟩) ?_
  (try (refine xst ?_; try exact xtI))
  refine cond_i (fun h2 => ?_) (fun h2 => ?_)
  ·(try replace h2 := xhh h2)
   (try (refine xst ?_; try exact xtI))
   exact xrz rfl
  ·(try replace h2 := xhh h2)
   exact absurd h2 hw
theorem rrun_w (w : Wld) (ts : List (List Ord)) (hl : wldL w) (h : ts.length ≤ 200) (hw : worldE w ≠ 0) : Spec Tryz.prog 12 [wldA w, .c (.sl 1 (ts.map ordsP))] [] (.tup [wldA default, .c (.sl 1 (([] : List Nat).map u64P)), I .i64 (worldE w)]) [] := by
 refine spec_am Tryz.func12 rfl rfl mix 50 rfl [.cell 4 28, .tmp 5, .tmp 6] Tryz.results12 (Nat.le_of_ble_eq_true rfl) ?_
 (try (refine xst ?_; try exact xtI))
 refine cond_i (fun h1 => ?_) (fun h1 => ?_)
 ·(try replace h1 := xhh h1)
  omega
 ·(try replace h1 := xhh h1)
  (try (refine xst ?_; try exact xtI))
  refine caP (wright_s w hl) ?_
  (try (refine xst ?_; try exact xtI))
  refine cond_i (fun h2 => ?_) (fun h2 => ?_)
  ·(try replace h2 := xhh h2)
   (try (refine xst ?_; try exact xtI))
   exact xrz rfl
  ·(try replace h2 := xhh h2)
   exact absurd h2 hw
theorem trun_s (w : Wld) (ts : List (List Ord)) (WR : Cel → List Int) (hWR : ∀ a, FloodIs w.f [a] (WR a)) (hl : wldL w) (hin : ∀ l ∈ ts, l.length ≤ 9223372036854775807) : Spec Tryz.prog 11 [wldA w, .c (.sl 1 (ts.map ordsP))] [] (.tup [wldA (runRW WR ts w), .c (.sl 1 ((runRM WR ts w).map u64P)), I .i64 (runRE WR ts w)]) [] := by
 unfold runRW runRM
 obtain ⟨E, hE⟩ : ∃ E, E = runRE WR ts w := ⟨_, rfl⟩
 rw [← hE]
 unfold runRE at hE
 by_cases h : 200 < ts.length
 ·rw [if_pos h] at hE; subst hE; exact trun_l w ts h
 ·rw [if_neg h] at hE
  by_cases hw : worldE w = 0
  ·rw [if_neg (fun hn => hn hw)] at hE; subst hE; exact trun_k w ts WR hWR (by omega) hin (right_of hw)
  ·rw [if_pos hw] at hE; subst hE; rw [if_neg hw, if_neg hw]; exact trun_w w ts hl (by omega) hw
theorem rrun_s (w : Wld) (ts : List (List Ord)) (WR : Cel → List Int) (hWR : ∀ a, FloodIs w.f [a] (WR a)) (hl : wldL w) (hin : ∀ l ∈ ts, l.length ≤ 9223372036854775807) : Spec Tryz.prog 12 [wldA w, .c (.sl 1 (ts.map ordsP))] [] (.tup [wldA (runRW WR ts w), .c (.sl 1 ((runRM WR ts w).map u64P)), I .i64 (runRE WR ts w)]) [] := by
 unfold runRW runRM
 obtain ⟨E, hE⟩ : ∃ E, E = runRE WR ts w := ⟨_, rfl⟩
 rw [← hE]
 unfold runRE at hE
 by_cases h : 200 < ts.length
 ·rw [if_pos h] at hE; subst hE; exact rrun_l w ts h
 ·rw [if_neg h] at hE
  by_cases hw : worldE w = 0
  ·rw [if_neg (fun hn => hn hw)] at hE; subst hE; exact rrun_k w ts WR hWR (by omega) hin (right_of hw)
  ·rw [if_pos hw] at hE; subst hE; rw [if_neg hw, if_neg hw]; exact rrun_w w ts hl (by omega) hw
theorem runRE_ok {WR : Cel → List Int} {ts : List (List Ord)} {w : Wld} (h : runRE WR ts w = 0) : ts.length ≤ 200 ∧ Right w ∧ runE WR ts w = 0 := by
 unfold runRE at h
 split at h
 ·exact absurd h (by decide)
 ·split at h
  ·rename_i h1; exact absurd h h1
  ·rename_i h1; exact ⟨by omega, right_of (Decidable.not_not.1 h1), h⟩
theorem wldD_l : wldL (default : Wld) := ⟨Nat.zero_le _, Nat.zero_le _, Nat.zero_le _, Nat.zero_le _, Nat.zero_le _⟩
theorem runRW_l {WR : Cel → List Int} {ts : List (List Ord)} {w : Wld} (hWR : ∀ a, FloodIs w.f [a] (WR a)) : wldL (runRW WR ts w) := by
 unfold runRW
 split
 ·rename_i h
  obtain ⟨_, h2, h3⟩ := runRE_ok h
  exact (right_run ts h2 hWR h3).l
 ·exact wldD_l
end Go.Proofs.YthiddmncjafklaaGreat
namespace Go.Proofs.YthiddmncjafklaaGreat
set_option linter.all false
open Go.RowKit
set_option maxRecDepth 100000
set_option maxHeartbeats 1000000
structure Sty where
 start : Wld
 turns : List (List Ord)
 deriving DecidableEq, Inhabited
abbrev styC (s : Sty) : List AV := [I .i64 s.start.f.w, I .i64 s.start.f.h, .c (.sl 1 (s.start.f.p.map i64P)), .c (.sl 2 (s.start.bases.map celP)), .c (.sl 1 (s.start.stocks.map i64P)), .c (.sl 1 (s.start.mines.map i64P)), .c (.sl 7 (s.start.troops.map trpP)), I .i64 s.start.next, I .i64 s.start.now, .c (.sl 1 (s.turns.map ordsP))]
abbrev sty0C : List AV := [I .i64 0, I .i64 0, .c (.v (.slice none 0 0)), .c (.v (.slice none 0 0)), .c (.v (.slice none 0 0)), .c (.v (.slice none 0 0)), .c (.v (.slice none 0 0)), I .i64 0, I .i64 0, .c (.v (.slice none 0 0))]
abbrev styA (s : Sty) : AV := .agg (styC s)
structure StyL (s : Sty) : Prop where
 w : wldL s.start
 t : ∀ l ∈ s.turns, l.length ≤ 9223372036854775807
 n : s.turns.length ≤ 9223372036854775807
abbrev ordsB (l : List Ord) : AV := .c (.sl 6 (l.map ordP))
abbrev styE (WR : Cel → List Int) (s : Sty) : Int := runRE WR s.turns s.start
theorem ords_eqf (F : FuncId) (p : (List Ord) → (List Ord) → Bool) (l m : List (List Ord)) (hl : l.length ≤ 9223372036854775807) (hm : m.length ≤ 9223372036854775807) (hp : ∀ x ∈ l, ∀ y ∈ m, Spec Tryz.prog F ([] ++ [ordsB x, ordsB y] ++ []) [] (B (p x y)) []) :
 Spec Tryz.prog 44 [.c (.sl 1 (l.map ordsP)), .c (.sl 1 (m.map ordsP)), .clo (.func F) [] []] [] (B (decide (l.length = m.length) && (List.range l.length).all fun i => p (l.getD i default) (m.getD i default))) [] := by
 refine spec_am Tryz.func44 rfl rfl mix 32 rfl [.tmp 6] Tryz.results44 (Nat.le_of_ble_eq_true rfl) ?_
 (try (refine xst ?_; try exact xtI))
 refine cond_i (fun h1 => ?_) (fun h1 => ?_)
 ·(try replace h1 := xhh h1)
  have e : (decide (l.length = m.length) && (List.range l.length).all fun i => p (l.getD i default) (m.getD i default)) = false := by rw [decide_eq_false (by omega)]; rfl
  (try (refine xst ?_; try exact xtI))
  exact ret0 rfl trivial (Wk.of (by rw [e]; rfl))
 ·(try replace h1 := xhh h1)
  have h1' : l.length = m.length := by omega
  (try (refine xst ?_; try exact xtI))
  refine loopI (fun k : Nat => ⟨[(17, I .i64 k), (16, I .i64 l.length), (15, .c (.sl 1 (l.map ordsP))), (2, .clo (.func F) [] []), (1, .c (.sl 1 (m.map ordsP)))], [], 0⟩) (fun k : Nat => k ≤ l.length ∧ ∀ j, j < k → p (l.getD j default) (m.getD j default) = true) (fun k : Nat => l.length - k) (0) (⟨Nat.zero_le _, fun j h => by omega⟩) (To.mk [] rfl rfl List.nodup_nil trivial ?_) ?_
  ·simp (etaStruct := .none) only [push_cast, DrawG, Int.cast_ofNat_Int, seval]
  rintro k ⟨hk, hn⟩
  (try (refine xst ?_; try exact xtI))
  refine cond_i (fun h2 => ?_) (fun h2 => ?_)
  ·(try replace h2 := xhh h2)
   have hlt : k < l.length := by omega
   have hlt2 : k < m.length := by omega
   (iterate 2 ((try simp (etaStruct := .none) only [push_cast, DrawG, Int.cast_ofNat_Int, seval, getD_in _ _ _ hlt, getD_in _ _ _ hlt2, ordsP]); (try (refine xsu ?_; try exact xtI))))
   refine caP (hp (l.getD k default) (by rw [getD_at _ _ hlt]; exact List.getElem_mem hlt) (m.getD k default) (by rw [getD_at _ _ hlt2]; exact List.getElem_mem hlt2)) ?_
   (iterate 2 ((try simp (etaStruct := .none) only [push_cast, DrawG, Int.cast_ofNat_Int, seval, getD_in _ _ _ hlt, getD_in _ _ _ hlt2, ordsP]); (try (refine xsu ?_; try exact xtI))))
   refine cond_i (fun h3 => ?_) (fun h3 => ?_)
   ·(try replace h3 := xhh h3)
    have e : (decide (l.length = m.length) && (List.range l.length).all fun i => p (l.getD i default) (m.getD i default)) = false := by
     rw [Bool.and_eq_false_iff]; right
     rw [List.all_eq_false]
     exact ⟨k, by simp; omega, by rw [h3]; simp⟩
    (iterate 2 ((try simp (etaStruct := .none) only [push_cast, DrawG, Int.cast_ofNat_Int, seval, getD_in _ _ _ hlt, getD_in _ _ _ hlt2, ordsP]); (try (refine xsu ?_; try exact xtI))))
    exact ret0 rfl trivial (Wk.of (by rw [e]; rfl))
   ·(try replace h3 := xhh h3)
    (iterate 2 ((try simp (etaStruct := .none) only [push_cast, DrawG, Int.cast_ofNat_Int, seval, getD_in _ _ _ hlt, getD_in _ _ _ hlt2, ordsP]); (try (refine xsu ?_; try exact xtI))))
    refine ⟨k + 1, ⟨by omega, fun j hj => by rcases Nat.lt_or_ge j k with h | h; exact hn j h; rw [show j = k by omega]; exact h3⟩, by omega, To.mk [] rfl rfl List.nodup_nil trivial ?_⟩
    ·(iterate 2 ((try simp (etaStruct := .none) only [push_cast, DrawG, Int.cast_ofNat_Int, seval, getD_in _ _ _ hlt, getD_in _ _ _ hlt2, ordsP]); (try (refine xsu ?_; try exact xtI))))
  ·(try replace h2 := xhh h2)
   have e : (decide (l.length = m.length) && (List.range l.length).all fun i => p (l.getD i default) (m.getD i default)) = true := by
    rw [decide_eq_true h1', Bool.true_and, List.all_eq_true]
    intro i hi
    exact hn i (by simp at hi; omega)
   (try (refine xst ?_; try exact xtI))
   exact ret0 rfl trivial (Wk.of (by rw [e]; rfl))
theorem wld_run {WR : Cel → List Int} {ts : List (List Ord)} {w : Wld} (hWR : ∀ a, FloodIs w.f [a] (WR a)) (h : runRE WR ts w = 0) : runRW WR ts w = runW WR ts w ∧ Right (runRW WR ts w) ∧ ∀ a, FloodIs (runRW WR ts w).f [a] (WR a) := by
 have e : runRW WR ts w = runW WR ts w := if_pos h
 obtain ⟨_, h2, h3⟩ := runRE_ok h
 rw [e]
 exact ⟨rfl, right_run ts h2 hWR h3, fun a => by rw [runW_f]; exact hWR a⟩
theorem scheck_st (s : Sty) (WR : Cel → List Int) (hWR : ∀ a, FloodIs s.start.f [a] (WR a)) (hl : StyL s) : Spec Tryz.prog 19 [styA s] [] (I .i64 (styE WR s)) [] := by
 have T := trun_s s.start s.turns WR hWR hl.w hl.t
 refine spec_am Tryz.func19 rfl rfl mix 16 rfl [.tmp 2] Tryz.results19 (Nat.le_of_ble_eq_true rfl) ?_
 (try (refine xst ?_; try exact xtI))
 refine caP (T) ?_
 (try (refine xst ?_; try exact xtI))
 exact xrz rfl
theorem sright_st (s : Sty) (WR : Cel → List Int) (hWR : ∀ a, FloodIs s.start.f [a] (WR a)) (hl : StyL s) : Spec Tryz.prog 17 [styA s] [] (I .i64 (styE WR s)) [] := by
 have T := rrun_s s.start s.turns WR hWR hl.w hl.t
 refine spec_am Tryz.func17 rfl rfl mix 16 rfl [.tmp 2] Tryz.results17 (Nat.le_of_ble_eq_true rfl) ?_
 (try (refine xst ?_; try exact xtI))
 refine caP (T) ?_
 (try (refine xst ?_; try exact xtI))
 exact xrz rfl
theorem runE_take {WR : Cel → List Int} {ts : List (List Ord)} {w : Wld} (n : Nat) (h : runE WR ts w = 0) : runE WR (ts.take n) w = 0 := by
 have e := runE_app WR (ts.drop n) (ts.take n) w
 rw [List.take_append_drop, h] at e
 by_cases h1 : runE WR (ts.take n) w = 0
 ·exact h1
 ·rw [if_pos h1] at e; exact absurd e.symm h1
theorem runRE_take {WR : Cel → List Int} {ts : List (List Ord)} {w : Wld} (n : Nat) (h : runRE WR ts w = 0) : runRE WR (ts.take n) w = 0 := by
 obtain ⟨h1, h2, h3⟩ := runRE_ok h
 unfold runRE
 rw [if_neg (by simp; omega), if_neg (fun hn => hn h2.e), runE_take n h3]
def atE (WR : Cel → List Int) (s : Sty) (n : Int) : Int := if styE WR s ≠ 0 then styE WR s else if n < 0 ∨ (s.turns.length : Int) < n then 1 else 0
def atW (WR : Cel → List Int) (s : Sty) (n : Int) : Wld := if atE WR s n = 0 then runW WR (s.turns.take n.toNat) s.start else default
theorem sat_s (s : Sty) (n : Int) (WR : Cel → List Int) (hWR : ∀ a, FloodIs s.start.f [a] (WR a)) (hl : StyL s) : Spec Tryz.prog 14 [styA s, I .i64 n] [] (.tup [wldA (atW WR s n), I .i64 (atE WR s n)]) [] := by
 have SC := scheck_st s WR hWR hl
 have hn := hl.n
 refine spec_am Tryz.func14 rfl rfl mix 39 rfl [.cell 4 28, .tmp 5] Tryz.results14 (Nat.le_of_ble_eq_true rfl) ?_
 (try (refine xst ?_; try exact xtI))
 refine caP (SC) ?_
 (try (refine xst ?_; try exact xtI))
 refine cond_i (fun h1 => ?_) (fun h1 => ?_)
 ·(try replace h1 := xhh h1)
  have e : atE WR s n = styE WR s := if_pos h1
  have e2 : atW WR s n = default := if_neg (by rw [e]; exact h1)
  rw [e, e2]
  (try (refine xst ?_; try exact xtI))
  exact xrz rfl
 ·(try replace h1 := xhh h1)
  (try (refine xst ?_; try exact xtI))
  refine cond_i (fun h2 => ?_) (fun h2 => ?_)
  ·(try replace h2 := xhh h2)
   have e : atE WR s n = 1 := by unfold atE; rw [if_neg (fun hn => hn h1), if_pos (by omega)]
   have e2 : atW WR s n = default := if_neg (by rw [e]; decide)
   rw [e, e2]
   (try (refine xst ?_; try exact xtI))
   exact xrz rfl
  ·(try replace h2 := xhh h2)
   have hr : 0 ≤ n ∧ n ≤ s.turns.length := by omega
   have e : atE WR s n = 0 := by unfold atE; rw [if_neg (fun hn => hn h1), if_neg (by omega)]
   have e2 : atW WR s n = runW WR (s.turns.take n.toNat) s.start := if_pos e
   rw [e, e2]
   have T := trun_s s.start (s.turns.take n.toNat) WR hWR hl.w (fun l h => hl.t l (List.mem_of_mem_take h))
   have e0 := runRE_take n.toNat h1
   rw [e0, show runRW WR (s.turns.take n.toNat) s.start = runW WR (s.turns.take n.toNat) s.start from if_pos e0] at T
   have ht : (s.turns.map ordsP).take n.toNat = (s.turns.take n.toNat).map ordsP := List.map_take.symm
   (iterate 2 ((try simp (etaStruct := .none) only [push_cast, DrawG, Int.cast_ofNat_Int, seval, ht]); (try (refine xsu ?_; try exact xtI))))
   refine caP (T) ?_
   (iterate 2 ((try simp (etaStruct := .none) only [push_cast, DrawG, Int.cast_ofNat_Int, seval, ht]); (try (refine xsu ?_; try exact xtI))))
   (try (refine ⟨by kernel_rfl, ?_⟩))
   (iterate 2 ((try simp (etaStruct := .none) only [push_cast, DrawG, Int.cast_ofNat_Int, seval, ht]); (try (refine xsu ?_; try exact xtI))))
   clear ht
   exact xrz rfl
def moreE (WR : Cel → List Int) (s : Sty) (l : List Ord) : Int := if styE WR s ≠ 0 then styE WR s else if 199 < s.turns.length then 6 else turnE l (runRW WR s.turns s.start)
def moreS (WR : Cel → List Int) (s : Sty) (l : List Ord) : Sty := if moreE WR s l = 0 then ⟨s.start, s.turns ++ [l]⟩ else default
theorem runE_lens {WR : Cel → List Int} : ∀ (ts : List (List Ord)) {w : Wld}, runE WR ts w = 0 → ∀ l ∈ ts, l.length ≤ 100
 | [], _, _, l, hl => by simp at hl
 | o :: r, w, h, l, hl => by
  rw [runE] at h
  split at h
  ·rename_i h1; exact absurd h h1
  ·rename_i h1
   have h1 : turnE o w = 0 := Decidable.not_not.1 h1
   rcases List.mem_cons.1 hl with rfl | hl
   ·have hs : splitE l w = 0 := by unfold turnE at h1; split at h1; rename_i h2; exact absurd h1 h2; rename_i h2; simpa using h2
    exact (ordsE_ok (splitE_ok hs).1).1
   ·exact runE_lens r h l hl
theorem smore_s (s : Sty) (l : List Ord) (WR : Cel → List Int) (hWR : ∀ a, FloodIs s.start.f [a] (WR a)) (hl : StyL s) (hll : l.length ≤ 9223372036854775807) : Spec Tryz.prog 15 [styA s, .c (.sl 6 (l.map ordP))] [] (.tup [styA (moreS WR s l), I .i64 (moreE WR s l)]) [] := by
 have T := trun_s s.start s.turns WR hWR hl.w hl.t
 have hn := hl.n
 refine spec_am Tryz.func15 rfl rfl mix 79 rfl [.cell 4 47, .tmp 5] Tryz.results15 (Nat.le_of_ble_eq_true rfl) ?_
 (try (refine xst ?_; try exact xtI))
 refine caP (T) ?_
 (try (refine xst ?_; try exact xtI))
 refine cond_i (fun h1 => ?_) (fun h1 => ?_)
 ·(try replace h1 := xhh h1)
  have e : moreE WR s l = styE WR s := if_pos h1
  have e2 : moreS WR s l = default := if_neg (by rw [e]; exact h1)
  rw [e, e2]
  (try (refine xst ?_; try exact xtI))
  exact xrz rfl
 ·(try replace h1 := xhh h1)
  obtain ⟨r1, r2, r3⟩ := wld_run hWR h1
  obtain ⟨k1, k2, k3⟩ := runRE_ok h1
  (try (refine xst ?_; try exact xtI))
  refine cond_i (fun h2 => ?_) (fun h2 => ?_)
  ·(try replace h2 := xhh h2)
   have e : moreE WR s l = 6 := by unfold moreE; rw [if_neg (fun hn => hn h1), if_pos (by omega)]
   have e2 : moreS WR s l = default := if_neg (by rw [e]; decide)
   rw [e, e2]
   (try (refine xst ?_; try exact xtI))
   exact xrz rfl
  ·(try replace h2 := xhh h2)
   have e : moreE WR s l = turnE l (runRW WR s.turns s.start) := by unfold moreE; rw [if_neg (fun hn => hn h1), if_neg (by omega)]
   have U := tturn_s (runRW WR s.turns s.start) l WR r3 r2.l hll
   (try (refine xst ?_; try exact xtI))
   refine caP (U) ?_
   (try (refine xst ?_; try exact xtI))
   refine cond_i (fun h3 => ?_) (fun h3 => ?_)
   ·(try replace h3 := xhh h3)
    have e2 : moreS WR s l = default := if_neg (by rw [e]; exact h3)
    rw [e, e2]
    (try (refine xst ?_; try exact xtI))
    exact xrz rfl
   ·(try replace h3 := xhh h3)
    have e2 : moreS WR s l = ⟨s.start, s.turns ++ [l]⟩ := if_pos (by rw [e]; exact h3)
    rw [e, e2, h3]
    have V := trun_s s.start [] WR hWR hl.w (fun _ h => by simp at h)
    have hl1 : l.length ≤ 100 := by
     have hs : splitE l (runRW WR s.turns s.start) = 0 := by unfold turnE at h3; split at h3; rename_i h1; exact absurd h3 h1; rename_i h1; simpa using h1
     exact (ordsE_ok (splitE_ok hs).1).1
    have v0 : runRE WR [] s.start = 0 := by unfold runRE; rw [if_neg (by simp), if_neg (fun hn => hn k2.e)]; rfl
    rw [v0, show runRW WR [] s.start = s.start from if_pos v0] at V
    (try (refine xst ?_; try exact xtI))
    refine callP (V) (by exact ⟨Wk.refl _, Wk.nil _, trivial⟩) ?_
    (try (refine xst ?_; try exact xtI))
    refine loopI (fun k : Nat => ⟨[(59, I .i64 k), (58, I .i64 s.turns.length), (57, .c (.sl 1 (s.turns.map ordsP))), (15, .ptr 1 0 0), (4, .ptr 0 0 0), (1, .c (.sl 6 (l.map ordP)))], [(0, .blk 47 sty0C), (1, .blk 47 [I .i64 s.start.f.w, I .i64 s.start.f.h, .c (.sl 1 (s.start.f.p.map i64P)), .c (.sl 2 (s.start.bases.map celP)), .c (.sl 1 (s.start.stocks.map i64P)), .c (.sl 1 (s.start.mines.map i64P)), .c (.sl 7 (s.start.troops.map trpP)), I .i64 s.start.next, I .i64 s.start.now, .own 2]), (2, .row 29 1 ((s.turns.take k).map ordsP))], 3⟩) (fun k : Nat => k ≤ s.turns.length) (fun k : Nat => s.turns.length - k) (0) (Nat.zero_le _) ((To.nilC 6 9 29 1 47 _ rfl rfl).trans (To.mk [1, 6, 7] rfl rfl (by decide) ?_ ?_)) ?_
    ·simp (etaStruct := .none) only [push_cast, DrawG, Int.cast_ofNat_Int, seval, List.set_cons_zero, List.set_cons_succ, List.take_zero, List.map_nil]
    ·simp (etaStruct := .none) only [push_cast, DrawG, Int.cast_ofNat_Int, seval]
    rintro k hk
    (try (refine xst ?_; try exact xtI))
    refine cond_i (fun h4 => ?_) (fun h4 => ?_)
    ·(try replace h4 := xhh h4)
     have hlt : k < s.turns.length := by omega
     have hk1 := runE_lens s.turns k3 (s.turns.getD k default) (getD_mem _ _ hlt)
     have htk := take_snoc s.turns k hlt
     (iterate 2 ((try simp (etaStruct := .none) only [push_cast, DrawG, Int.cast_ofNat_Int, seval, getD_in _ _ _ hlt, ordsP]); (try (refine xsu ?_; try exact xtI))))
     refine caP (ord_copy (s.turns.getD k default) (by omega)) ?_
     (iterate 2 ((try simp (etaStruct := .none) only [push_cast, DrawG, Int.cast_ofNat_Int, seval, getD_in _ _ _ hlt, ordsP]); (try (refine xsu ?_; try exact xtI))))
     (try (refine ⟨by kernel_rfl, ?_⟩))
     (iterate 2 ((try simp (etaStruct := .none) only [push_cast, DrawG, Int.cast_ofNat_Int, seval, getD_in _ _ _ hlt, ordsP]); (try (refine xsu ?_; try exact xtI))))
     refine ⟨k + 1, by omega, by omega, To.mk [0, 1, 23] rfl rfl (by decide) ?_ ?_⟩
     ·(iterate 2 ((try simp (etaStruct := .none) only [push_cast, DrawG, Int.cast_ofNat_Int, seval, htk, List.map_append, List.map_cons, List.map_nil, ordsP]); (try (refine xsu ?_; try exact xtI))))
     ·(iterate 2 ((try simp (etaStruct := .none) only [push_cast, DrawG, Int.cast_ofNat_Int, seval, getD_in _ _ _ hlt, ordsP]); (try (refine xsu ?_; try exact xtI))))
    ·(try replace h4 := xhh h4)
     obtain rfl : k = s.turns.length := by omega
     (iterate 2 ((try simp (etaStruct := .none) only [push_cast, DrawG, Int.cast_ofNat_Int, seval, List.take_length, List.map_append, List.map_cons, List.map_nil, ordsP]); (try (refine xsu ?_; try exact xtI))))
     refine caP (ord_copy l (by omega)) ?_
     (iterate 2 ((try simp (etaStruct := .none) only [push_cast, DrawG, Int.cast_ofNat_Int, seval, List.take_length, List.map_append, List.map_cons, List.map_nil, ordsP]); (try (refine xsu ?_; try exact xtI))))
     (try (refine ⟨by kernel_rfl, ?_⟩))
     (iterate 2 ((try simp (etaStruct := .none) only [push_cast, DrawG, Int.cast_ofNat_Int, seval, List.take_length, List.map_append, List.map_cons, List.map_nil, ordsP]); (try (refine xsu ?_; try exact xtI))))
     have hq : (s.turns ++ [l]).map ordsP = s.turns.map ordsP ++ [[.sl 6 (l.map ordP)]] := by rw [List.map_append]; rfl
     refine ret0 rfl (by repeat' (first | exact trivial | exact rfl | refine ⟨?_, ?_⟩)) (Wk.of ?_)
     show _ = AV.tup [.agg [I .i64 s.start.f.w, I .i64 s.start.f.h, .c (.sl 1 (s.start.f.p.map i64P)), .c (.sl 2 (s.start.bases.map celP)), .c (.sl 1 (s.start.stocks.map i64P)), .c (.sl 1 (s.start.mines.map i64P)), .c (.sl 7 (s.start.troops.map trpP)), I .i64 s.start.next, I .i64 s.start.now, .c (.sl 1 ((s.turns ++ [l]).map ordsP))], I .i64 0]
     rw [hq]
     first | rfl | kernel_rfl
end Go.Proofs.YthiddmncjafklaaGreat
namespace Go.Proofs.YthiddmncjafklaaGreat
set_option linter.all false
open Go.RowKit
set_option maxRecDepth 100000
theorem ord_eq (l m : List Ord) (hl : l.length ≤ 9223372036854775807) (hm : m.length ≤ 9223372036854775807) : Spec Tryz.prog 46 [.c (.sl 6 (l.map ordP)), .c (.sl 6 (m.map ordP))] [] (B (decide (l = m))) [] := by
 refine spec_am Tryz.func46 rfl rfl mix 26 rfl [.tmp 4] Tryz.results46 (Nat.le_of_ble_eq_true rfl) ?_
 (try (refine xst ?_; try exact xtI))
 refine cond_i (fun h1 => ?_) (fun h1 => ?_)
 ·(try replace h1 := xhh h1)
  have e : l ≠ m := by intro e; subst e; simp at h1
  (try (refine xst ?_; try exact xtI))
  exact ret0 rfl trivial (Wk.of (by rw [decide_eq_false e]; rfl))
 ·(try replace h1 := xhh h1)
  (try (refine xst ?_; try exact xtI))
  refine loopI (fun k : Nat => ⟨[(13, I .i64 k), (12, I .i64 l.length), (1, .c (.sl 6 (m.map ordP))), (0, .c (.sl 6 (l.map ordP)))], [], 0⟩) (fun k : Nat => k ≤ l.length ∧ ∀ j, j < k → l.getD j default = m.getD j default) (fun k : Nat => l.length - k) (0) (⟨Nat.zero_le _, fun j h => by omega⟩) (To.mk [] rfl rfl List.nodup_nil trivial ?_) ?_
  ·simp (etaStruct := .none) only [push_cast, DrawG, Int.cast_ofNat_Int, seval]
  rintro k ⟨hk, hn⟩
  (try (refine xst ?_; try exact xtI))
  refine cond_i (fun h2 => ?_) (fun h2 => ?_)
  ·(try replace h2 := xhh h2)
   have hlt : k < l.length := by omega
   have hlt2 : k < m.length := by omega
   (iterate 2 ((try simp (etaStruct := .none) only [push_cast, DrawG, Int.cast_ofNat_Int, seval, getD_in _ _ _ hlt, getD_in _ _ _ hlt2, ordP, ord_dec]); (try (refine xsu ?_; try exact xtI))))
   (try (refine ⟨by kernel_rfl, ?_⟩))
   (iterate 2 ((try simp (etaStruct := .none) only [push_cast, DrawG, Int.cast_ofNat_Int, seval, getD_in _ _ _ hlt, getD_in _ _ _ hlt2, ordP, ord_dec]); (try (refine xsu ?_; try exact xtI))))
   refine cond_i (fun h3 => ?_) (fun h3 => ?_)
   ·(try replace h3 := xhh h3)
    have e : l ≠ m := by intro e; subst e; simp at h3
    (iterate 2 ((try simp (etaStruct := .none) only [push_cast, DrawG, Int.cast_ofNat_Int, seval, getD_in _ _ _ hlt, getD_in _ _ _ hlt2, ordP, ord_dec]); (try (refine xsu ?_; try exact xtI))))
    exact ret0 rfl trivial (Wk.of (by rw [decide_eq_false e]; rfl))
   ·(try replace h3 := xhh h3)
    (iterate 2 ((try simp (etaStruct := .none) only [push_cast, DrawG, Int.cast_ofNat_Int, seval, getD_in _ _ _ hlt, getD_in _ _ _ hlt2, ordP, ord_dec]); (try (refine xsu ?_; try exact xtI))))
    refine ⟨k + 1, ⟨by omega, fun j hj => by rcases Nat.lt_or_ge j k with h | h; exact hn j h; rw [show j = k by omega]; simpa using h3⟩, by omega, To.mk [] rfl rfl List.nodup_nil trivial ?_⟩
    ·(iterate 2 ((try simp (etaStruct := .none) only [push_cast, DrawG, Int.cast_ofNat_Int, seval, getD_in _ _ _ hlt, getD_in _ _ _ hlt2, ordP, ord_dec]); (try (refine xsu ?_; try exact xtI))))
  ·(try replace h2 := xhh h2)
   have e : l = m := by
    refine List.ext_getElem (by omega) fun i i1 i2 => ?_
    have := hn i (by omega)
    rwa [getD_at _ _ i1, getD_at _ _ i2] at this
   (try (refine xst ?_; try exact xtI))
   exact ret0 rfl trivial (Wk.of (by rw [decide_eq_true e]; rfl))
end Go.Proofs.YthiddmncjafklaaGreat
