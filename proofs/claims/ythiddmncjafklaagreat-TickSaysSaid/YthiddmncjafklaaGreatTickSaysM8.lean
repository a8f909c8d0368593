/- Lemmas for the proof of tickSays.proved. -/
import Derived.Test.YthiddmncjafklaaGreatTickSaysM7
namespace Go.Proofs.YthiddmncjafklaaGreat
set_option linter.all false
open Go.RowKit
set_option maxRecDepth 100000
set_option maxHeartbeats 2000000
theorem king_s (a b : Cel) (ha : -1000000 ≤ a.x ∧ a.x ≤ 1000000 ∧ -1000000 ≤ a.y ∧ a.y ≤ 1000000) : Spec Tryz.prog 109 [celA a, celA b] [] (B (besB a b)) [] := by
 refine spec_am Tryz.func109 rfl rfl mix 25 rfl [.tmp 4] Tryz.results109 (Nat.le_of_ble_eq_true rfl) ?_
 (try (refine xst ?_; try exact xtI))
 refine caP (between_s b.x (a.x - 1) (a.x + 1)) ?_
 (try (refine xst ?_; try exact xtI))
 refine gcP (fun hcc => between_s b.y (a.y - 1) (a.y + 1)) ?_
 (try (refine xst ?_; try exact xtI))
 (first | (refine retA rfl (Wk.of ?_); (try simp (etaStruct := .none) only [push_cast, DrawG, Int.cast_ofNat_Int, seval]); first | done | (simp [besB, *]; done) | (simp_all [besB]; done)) | (refine retA rfl ?_; (try simp (etaStruct := .none) only [push_cast, DrawG, Int.cast_ofNat_Int, seval]); (try simp [besB, *]); (try exact wkc)))
abbrev dedPV (d : Ded) : List PV := [pI d.kind, pI d.who, pI d.c.x, pI d.c.y, pI d.what]
theorem rdc1_s (t : Trp) (d : Ded) : Spec Tryz.prog 108 ([] ++ [trpA t] ++ [.fel 5 [dedPV d] 0 0]) [] (B (isId d.who t)) [] := by
 refine spec_am Tryz.func108 rfl rfl mix 9 rfl [.tmp 3] Tryz.results108 (Nat.le_of_ble_eq_true rfl) ?_
 (try (refine xst ?_; try exact xtI))
 (first | (refine retA rfl (Wk.of ?_); (try simp (etaStruct := .none) only [push_cast, DrawG, Int.cast_ofNat_Int, seval]); first | done | (simp [isId, *]; done) | (simp_all [isId]; done)) | (refine retA rfl ?_; (try simp (etaStruct := .none) only [push_cast, DrawG, Int.cast_ofNat_Int, seval]); (try simp [isId, *]); (try exact wkc)))
theorem rdc2_s (t : Trp) (c : Cel) : Spec Tryz.prog 110 ([] ++ [trpA t] ++ [.fel 2 [[pI c.x, pI c.y]] 0 0]) [] (B (decide (t.c = c))) [] := by
 refine spec_am Tryz.func110 rfl rfl mix 8 rfl [.tmp 3] Tryz.results110 (Nat.le_of_ble_eq_true rfl) ?_
 (iterate 2 ((try simp (etaStruct := .none) only [push_cast, DrawG, Int.cast_ofNat_Int, seval, cel_dec]); (try (refine xsu ?_; try exact xtI))))
 exact xrz rfl
theorem rd_0 (w : Wld) (d : Ded) (hw : Right w) (h : d.kind ≠ 1 ∧ d.kind ≠ 2 ∧ d.kind ≠ 3) : Spec Tryz.prog 68 [wldA w, dedA d] [] (.tup [wldA w, B false]) [] := by
 have p1 := hw.places
 have p2 := hw.nb
 have p3 := hw.sl
 have p4 := hw.ml
 have p5 := hw.nt
 refine spec_am Tryz.func68 rfl rfl mix 292 rfl [.cell 4 28, .tmp 5] Tryz.results68 (Nat.le_of_ble_eq_true rfl) ?_
 (try (refine xst ?_; try exact xtI))
 refine caM [] (int_clone w.stocks (by omega)) ?_
 (try (refine xst ?_; try exact xtI))
 refine caM [] (int_clone w.mines (by omega)) ?_
 (try (refine xst ?_; try exact xtI))
 refine caM [] (trp_clone w.troops (by omega)) ?_
 (try (refine xst ?_; try exact xtI))
 (try (refine ⟨by kernel_rfl, ?_⟩))
 (try (refine xst ?_; try exact xtI))
 refine callB (trp_ix _ [] [.fel 5 [dedPV d] 0 0] w.troops (isId d.who) (by omega) (fun t _ => rdc1_s t d) (fun _ => rfl) (fun _ => rfl)) (WkL.refl _) rfl ?_
 (try (refine xst ?_; try exact xtI))
 refine cond_i (fun h1 => ?_) (fun h1 => ?_)
 ·(try replace h1 := xhh h1)
  exfalso; omega
 ·(try replace h1 := xhh h1)
  (try (refine xst ?_; try exact xtI))
  refine cond_i (fun h2 => ?_) (fun h2 => ?_)
  ·(try replace h2 := xhh h2)
   exfalso; omega
  ·(try replace h2 := xhh h2)
   (try (refine xst ?_; try exact xtI))
   refine cond_i (fun h3 => ?_) (fun h3 => ?_)
   ·(try replace h3 := xhh h3)
    exfalso; omega
   ·(try replace h3 := xhh h3)
    (try (refine xst ?_; try exact xtI))
    exact xrz rfl
theorem rd_none (w : Wld) (d : Ded) (hw : Right w) (h : d.kind = 1 ∨ d.kind = 2) (hf : w.troops.findIdx? (isId d.who) = none) (hpos : 0 < w.troops.length) : Spec Tryz.prog 68 [wldA w, dedA d] [] (.tup [wldA w, B false]) [] := by
 have p1 := hw.places
 have p2 := hw.nb
 have p3 := hw.sl
 have p4 := hw.ml
 have p5 := hw.nt
 have hz : ixOf (isId d.who) w.troops = -1 := by unfold ixOf; rw [hf]
 have hz2 : (ixOf (isId d.who) w.troops).toNat = 0 := by rw [hz]; rfl
 obtain ⟨o, eo, ho, hs⟩ := own_at hw hpos
 refine spec_am Tryz.func68 rfl rfl mix 292 rfl [.cell 4 28, .tmp 5] Tryz.results68 (Nat.le_of_ble_eq_true rfl) ?_
 (iterate 2 ((try simp (etaStruct := .none) only [push_cast, DrawG, Int.cast_ofNat_Int, seval, hz2, getD_in _ _ _ hpos, trpP, eo, getD_in _ _ _ ho, celP]); (try (refine xsu ?_; try exact xtI))))
 refine caM [] (int_clone w.stocks (by omega)) ?_
 (iterate 2 ((try simp (etaStruct := .none) only [push_cast, DrawG, Int.cast_ofNat_Int, seval, hz2, getD_in _ _ _ hpos, trpP, eo, getD_in _ _ _ ho, celP]); (try (refine xsu ?_; try exact xtI))))
 refine caM [] (int_clone w.mines (by omega)) ?_
 (iterate 2 ((try simp (etaStruct := .none) only [push_cast, DrawG, Int.cast_ofNat_Int, seval, hz2, getD_in _ _ _ hpos, trpP, eo, getD_in _ _ _ ho, celP]); (try (refine xsu ?_; try exact xtI))))
 refine caM [] (trp_clone w.troops (by omega)) ?_
 (iterate 2 ((try simp (etaStruct := .none) only [push_cast, DrawG, Int.cast_ofNat_Int, seval, hz2, getD_in _ _ _ hpos, trpP, eo, getD_in _ _ _ ho, celP]); (try (refine xsu ?_; try exact xtI))))
 (try (refine ⟨by kernel_rfl, ?_⟩))
 (iterate 2 ((try simp (etaStruct := .none) only [push_cast, DrawG, Int.cast_ofNat_Int, seval, hz2, getD_in _ _ _ hpos, trpP, eo, getD_in _ _ _ ho, celP]); (try (refine xsu ?_; try exact xtI))))
 refine callB (trp_ix _ [] [.fel 5 [dedPV d] 0 0] w.troops (isId d.who) (by omega) (fun t _ => rdc1_s t d) (fun _ => rfl) (fun _ => rfl)) (WkL.refl _) rfl ?_
 (iterate 2 ((try simp (etaStruct := .none) only [push_cast, DrawG, Int.cast_ofNat_Int, seval, hz2, getD_in _ _ _ hpos, trpP, eo, getD_in _ _ _ ho, celP]); (try (refine xsu ?_; try exact xtI))))
 refine cond_i (fun h1 => ?_) (fun h1 => ?_)
 ·(try replace h1 := xhh h1)
  (iterate 2 ((try simp (etaStruct := .none) only [push_cast, DrawG, Int.cast_ofNat_Int, seval, hz2, getD_in _ _ _ hpos, trpP, eo, getD_in _ _ _ ho, celP]); (try (refine xsu ?_; try exact xtI))))
  repeat (with_reducible refine And.intro ?_ ?_; · (simp [hz]; done))
  refine gcP (fun hcc => in_s' w.f d.c hw.f) ?_
  (iterate 2 ((try simp (etaStruct := .none) only [push_cast, DrawG, Int.cast_ofNat_Int, seval, hz2, getD_in _ _ _ hpos, trpP, eo, getD_in _ _ _ ho, celP]); (try (refine xsu ?_; try exact xtI))))
  refine gcallN ?_ ?_
  ·simp [hz]
  (iterate 2 ((try simp (etaStruct := .none) only [push_cast, DrawG, Int.cast_ofNat_Int, seval, hz2, getD_in _ _ _ hpos, trpP, eo, getD_in _ _ _ ho, celP]); (try (refine xsu ?_; try exact xtI))))
  (try (refine ⟨by kernel_rfl, ?_⟩))
  (iterate 2 ((try simp (etaStruct := .none) only [push_cast, DrawG, Int.cast_ofNat_Int, seval, hz2, getD_in _ _ _ hpos, trpP, eo, getD_in _ _ _ ho, celP]); (try (refine xsu ?_; try exact xtI))))
  refine cond_i (fun h2 => ?_) (fun h2 => ?_)
  ·(try replace h2 := xhh h2)
   (iterate 2 ((try simp (etaStruct := .none) only [push_cast, DrawG, Int.cast_ofNat_Int, seval, hz2, getD_in _ _ _ hpos, trpP, eo, getD_in _ _ _ ho, celP]); (try (refine xsu ?_; try exact xtI))))
   exact xrz rfl
  ·(try replace h2 := xhh h2)
   exact absurd h2 (by decide)
 ·(try replace h1 := xhh h1)
  (iterate 2 ((try simp (etaStruct := .none) only [push_cast, DrawG, Int.cast_ofNat_Int, seval, hz2, getD_in _ _ _ hpos, trpP, eo, getD_in _ _ _ ho, celP]); (try (refine xsu ?_; try exact xtI))))
  refine cond_i (fun h3 => ?_) (fun h3 => ?_)
  ·(try replace h3 := xhh h3)
   (iterate 2 ((try simp (etaStruct := .none) only [push_cast, DrawG, Int.cast_ofNat_Int, seval, hz2, getD_in _ _ _ hpos, trpP, eo, getD_in _ _ _ ho, celP]); (try (refine xsu ?_; try exact xtI))))
   repeat (with_reducible refine And.intro ?_ ?_; · (simp [hz]; done))
   refine gcallN ?_ ?_
   ·simp [hz]
   (iterate 2 ((try simp (etaStruct := .none) only [push_cast, DrawG, Int.cast_ofNat_Int, seval, hz2, getD_in _ _ _ hpos, trpP, eo, getD_in _ _ _ ho, celP]); (try (refine xsu ?_; try exact xtI))))
   (try (refine ⟨by kernel_rfl, ?_⟩))
   (iterate 2 ((try simp (etaStruct := .none) only [push_cast, DrawG, Int.cast_ofNat_Int, seval, hz2, getD_in _ _ _ hpos, trpP, eo, getD_in _ _ _ ho, celP]); (try (refine xsu ?_; try exact xtI))))
   refine cond_i (fun h4 => ?_) (fun h4 => ?_)
   ·(try replace h4 := xhh h4)
    (iterate 2 ((try simp (etaStruct := .none) only [push_cast, DrawG, Int.cast_ofNat_Int, seval, hz2, getD_in _ _ _ hpos, trpP, eo, getD_in _ _ _ ho, celP]); (try (refine xsu ?_; try exact xtI))))
    exact xrz rfl
   ·(try replace h4 := xhh h4)
    exact absurd h4 (by decide)
  ·(try replace h3 := xhh h3)
   exfalso; omega
theorem rd_empty (w : Wld) (d : Ded) (hw : Right w) (h : d.kind = 1 ∨ d.kind = 2) (ht : w.troops = []) : Spec Tryz.prog 68 [wldA w, dedA d] [] (.tup [wldA w, B false]) [] := by
 have p1 := hw.places
 have p2 := hw.nb
 have p3 := hw.sl
 have p4 := hw.ml
 have p5 := hw.nt
 have hz : ixOf (isId d.who) ([] : List Trp) = -1 := rfl
 have hcl : Spec Tryz.prog 64 [.c (.sl 7 [])] [] (.own 0) [.row 89 7 []] := trp_clone [] (by simp)
 have hix : Spec Tryz.prog 107 [.c (.sl 7 []), .clo (.func 108) [] [.fel 5 [dedPV d] 0 0]] [] (I .i64 (ixOf (isId d.who) [])) [] := trp_ix _ [] [.fel 5 [dedPV d] 0 0] [] (isId d.who) (by simp) (fun t _ => rdc1_s t d) (fun _ => rfl) (fun _ => rfl)
 obtain ⟨wf, wb, ws, wm, wt, wn, wo⟩ := w
 simp only at ht p1 p2 p3 p4 p5
 subst ht
 refine spec_am Tryz.func68 rfl rfl mix 292 rfl [.cell 4 28, .tmp 5] Tryz.results68 (Nat.le_of_ble_eq_true rfl) ?_
 (iterate 2 ((try simp (etaStruct := .none) only [push_cast, DrawG, Int.cast_ofNat_Int, seval, List.getD_nil]); (try (refine xsu ?_; try exact xtI))))
 refine caM [] (int_clone ws (by omega)) ?_
 (iterate 2 ((try simp (etaStruct := .none) only [push_cast, DrawG, Int.cast_ofNat_Int, seval, List.getD_nil]); (try (refine xsu ?_; try exact xtI))))
 refine caM [] (int_clone wm (by omega)) ?_
 (iterate 2 ((try simp (etaStruct := .none) only [push_cast, DrawG, Int.cast_ofNat_Int, seval, List.getD_nil]); (try (refine xsu ?_; try exact xtI))))
 refine caM [] (hcl) ?_
 (iterate 2 ((try simp (etaStruct := .none) only [push_cast, DrawG, Int.cast_ofNat_Int, seval, List.getD_nil]); (try (refine xsu ?_; try exact xtI))))
 (try (refine ⟨by kernel_rfl, ?_⟩))
 (iterate 2 ((try simp (etaStruct := .none) only [push_cast, DrawG, Int.cast_ofNat_Int, seval, List.getD_nil]); (try (refine xsu ?_; try exact xtI))))
 refine callB (hix) (WkL.refl _) rfl ?_
 (iterate 2 ((try simp (etaStruct := .none) only [push_cast, DrawG, Int.cast_ofNat_Int, seval, List.getD_nil]); (try (refine xsu ?_; try exact xtI))))
 refine cond_i (fun h1 => ?_) (fun h1 => ?_)
 ·(try replace h1 := xhh h1)
  (iterate 2 ((try simp (etaStruct := .none) only [push_cast, DrawG, Int.cast_ofNat_Int, seval, List.getD_nil]); (try (refine xsu ?_; try exact xtI))))
  repeat (with_reducible refine And.intro ?_ ?_; · (simp [hz]; done))
  refine gcallN ?_ ?_
  ·simp [hz]
  (iterate 2 ((try simp (etaStruct := .none) only [push_cast, DrawG, Int.cast_ofNat_Int, seval, List.getD_nil]); (try (refine xsu ?_; try exact xtI))))
  repeat (with_reducible refine And.intro ?_ ?_; · (simp [hz]; done))
  refine gcallN ?_ ?_
  ·simp [hz]
  (iterate 2 ((try simp (etaStruct := .none) only [push_cast, DrawG, Int.cast_ofNat_Int, seval, List.getD_nil]); (try (refine xsu ?_; try exact xtI))))
  (try (refine ⟨by kernel_rfl, ?_⟩))
  (iterate 2 ((try simp (etaStruct := .none) only [push_cast, DrawG, Int.cast_ofNat_Int, seval, List.getD_nil]); (try (refine xsu ?_; try exact xtI))))
  refine cond_i (fun h2 => ?_) (fun h2 => ?_)
  ·(try replace h2 := xhh h2)
   (iterate 2 ((try simp (etaStruct := .none) only [push_cast, DrawG, Int.cast_ofNat_Int, seval, List.getD_nil]); (try (refine xsu ?_; try exact xtI))))
   exact xrz rfl
  ·(try replace h2 := xhh h2)
   simp [hz] at h2
 ·(try replace h1 := xhh h1)
  (iterate 2 ((try simp (etaStruct := .none) only [push_cast, DrawG, Int.cast_ofNat_Int, seval, List.getD_nil]); (try (refine xsu ?_; try exact xtI))))
  refine cond_i (fun h3 => ?_) (fun h3 => ?_)
  ·(try replace h3 := xhh h3)
   (iterate 2 ((try simp (etaStruct := .none) only [push_cast, DrawG, Int.cast_ofNat_Int, seval, List.getD_nil]); (try (refine xsu ?_; try exact xtI))))
   repeat (with_reducible refine And.intro ?_ ?_; · (simp [hz]; done))
   refine gcallN ?_ ?_
   ·simp [hz]
   (iterate 2 ((try simp (etaStruct := .none) only [push_cast, DrawG, Int.cast_ofNat_Int, seval, List.getD_nil]); (try (refine xsu ?_; try exact xtI))))
   (try (refine ⟨by kernel_rfl, ?_⟩))
   (iterate 2 ((try simp (etaStruct := .none) only [push_cast, DrawG, Int.cast_ofNat_Int, seval, List.getD_nil]); (try (refine xsu ?_; try exact xtI))))
   refine cond_i (fun h4 => ?_) (fun h4 => ?_)
   ·(try replace h4 := xhh h4)
    (iterate 2 ((try simp (etaStruct := .none) only [push_cast, DrawG, Int.cast_ofNat_Int, seval, List.getD_nil]); (try (refine xsu ?_; try exact xtI))))
    exact xrz rfl
   ·(try replace h4 := xhh h4)
    simp [hz] at h4
  ·(try replace h3 := xhh h3)
   exfalso; omega
theorem rd_mine (w : Wld) (d : Ded) (j : Nat) (hw : Right w) (h : d.kind = 1) (hf : w.troops.findIdx? (isId d.who) = some j) (b : Bool) (W : Wld) (hW : (mineOk w d j = true → W = mineAt w j (idxN w.f d.c) ∧ b = true) ∧ (mineOk w d j = false → W = w ∧ b = false)) : Spec Tryz.prog 68 [wldA w, dedA d] [] (.tup [wldA W, B b]) [] := by
 have p1 := hw.places
 have p2 := hw.nb
 have p3 := hw.sl
 have p4 := hw.ml
 have p5 := hw.nt
 have hz : ixOf (isId d.who) w.troops = (j : Int) := by unfold ixOf; rw [hf]
 have hj := find_idx hf
 have ok := hw.trp j hj
 have hx := ok.x; have hy := ok.y
 have hfl := fldE_ok hw.f
 have hld := ok.load
 refine spec_am Tryz.func68 rfl rfl mix 292 rfl [.cell 4 28, .tmp 5] Tryz.results68 (Nat.le_of_ble_eq_true rfl) ?_
 (iterate 2 ((try simp (etaStruct := .none) only [push_cast, DrawG, Int.cast_ofNat_Int, seval, hz, getD_in _ _ _ hj, trpP]); (try (refine xsu ?_; try exact xtI))))
 refine caM [] (int_clone w.stocks (by omega)) ?_
 (iterate 2 ((try simp (etaStruct := .none) only [push_cast, DrawG, Int.cast_ofNat_Int, seval, hz, getD_in _ _ _ hj, trpP]); (try (refine xsu ?_; try exact xtI))))
 refine caM [] (int_clone w.mines (by omega)) ?_
 (iterate 2 ((try simp (etaStruct := .none) only [push_cast, DrawG, Int.cast_ofNat_Int, seval, hz, getD_in _ _ _ hj, trpP]); (try (refine xsu ?_; try exact xtI))))
 refine caM [] (trp_clone w.troops (by omega)) ?_
 (iterate 2 ((try simp (etaStruct := .none) only [push_cast, DrawG, Int.cast_ofNat_Int, seval, hz, getD_in _ _ _ hj, trpP]); (try (refine xsu ?_; try exact xtI))))
 (try (refine ⟨by kernel_rfl, ?_⟩))
 (iterate 2 ((try simp (etaStruct := .none) only [push_cast, DrawG, Int.cast_ofNat_Int, seval, hz, getD_in _ _ _ hj, trpP]); (try (refine xsu ?_; try exact xtI))))
 refine callB (trp_ix _ [] [.fel 5 [dedPV d] 0 0] w.troops (isId d.who) (by omega) (fun t _ => rdc1_s t d) (fun _ => rfl) (fun _ => rfl)) (WkL.refl _) rfl ?_
 (iterate 2 ((try simp (etaStruct := .none) only [push_cast, DrawG, Int.cast_ofNat_Int, seval, hz, getD_in _ _ _ hj, trpP]); (try (refine xsu ?_; try exact xtI))))
 refine cond_i (fun h1 => ?_) (fun h1 => ?_)
 ·(try replace h1 := xhh h1)
  (iterate 2 ((try simp (etaStruct := .none) only [push_cast, DrawG, Int.cast_ofNat_Int, seval, hz, getD_in _ _ _ hj, trpP]); (try (refine xsu ?_; try exact xtI))))
  refine gcP (fun hcc => in_s' w.f d.c hw.f) ?_
  (iterate 2 ((try simp (etaStruct := .none) only [push_cast, DrawG, Int.cast_ofNat_Int, seval, hz, getD_in _ _ _ hj, trpP]); (try (refine xsu ?_; try exact xtI))))
  refine gcP (fun hcc => king_s (w.troops.getD j default).c d.c (by omega)) ?_
  (iterate 2 ((try simp (etaStruct := .none) only [push_cast, DrawG, Int.cast_ofNat_Int, seval, hz, getD_in _ _ _ hj, trpP]); (try (refine xsu ?_; try exact xtI))))
  (try (refine ⟨by kernel_rfl, ?_⟩))
  (iterate 2 ((try simp (etaStruct := .none) only [push_cast, DrawG, Int.cast_ofNat_Int, seval, hz, getD_in _ _ _ hj, trpP]); (try (refine xsu ?_; try exact xtI))))
  refine cond_i (fun h2 => ?_) (fun h2 => ?_)
  ·(try replace h2 := xhh h2)
   have e : mineOk w d j = false := by
    unfold mineOk
    simp only [Bool.and_eq_false_iff, decide_eq_false_iff_not]
    rcases h2 with ((h2 | h2) | h2) | h2
    ·exact .inl (.inl (.inl (.inl (by omega))))
    ·exact .inl (.inl (.inl (.inr (by omega))))
    ·exact .inl (.inr h2)
    ·exact .inl (.inl (.inr h2))
   obtain ⟨rfl, rfl⟩ := hW.2 e
   (iterate 2 ((try simp (etaStruct := .none) only [push_cast, DrawG, Int.cast_ofNat_Int, seval, hz, getD_in _ _ _ hj, trpP]); (try (refine xsu ?_; try exact xtI))))
   exact xrz rfl
  ·(try replace h2 := xhh h2)
   have hin : inF w.f d.c = true := h2.1.2
   obtain ⟨m1, m2, m3, m4⟩ := idx_in hw hin
   obtain ⟨m, hm⟩ : ∃ m, m = idxN w.f d.c := ⟨_, rfl⟩
   rw [← hm] at m1 m2
   have ew1 : IntKind.i64.wrap (IntKind.i64.wrap (d.c.y * w.f.w) + d.c.x) = (m : Int) := by rw [wrap_in (d.c.y * w.f.w) (by omega) (by omega), wrap_in _ (by omega) (by omega)]; exact m2
   have hmb := (hw.mine m m1).1
   (iterate 2 ((try simp (etaStruct := .none) only [push_cast, DrawG, Int.cast_ofNat_Int, seval, hz, getD_in _ _ _ hj, trpP, ew1, getD_in _ _ _ m1, i64P]); (try (refine xsu ?_; try exact xtI))))
   refine cond_i (fun h3 => ?_) (fun h3 => ?_)
   ·(try replace h3 := xhh h3)
    have e : mineOk w d j = false := by
     unfold mineOk
     simp only [Bool.and_eq_false_iff, decide_eq_false_iff_not]
     exact .inr (by rw [← hm]; omega)
    obtain ⟨rfl, rfl⟩ := hW.2 e
    (iterate 2 ((try simp (etaStruct := .none) only [push_cast, DrawG, Int.cast_ofNat_Int, seval, hz, getD_in _ _ _ hj, trpP, ew1, getD_in _ _ _ m1, i64P]); (try (refine xsu ?_; try exact xtI))))
    exact xrz rfl
   ·(try replace h3 := xhh h3)
    have e : mineOk w d j = true := by
     unfold mineOk
     simp only [Bool.and_eq_true, decide_eq_true_eq]
     exact ⟨⟨⟨⟨by omega, by omega⟩, h2.2⟩, hin⟩, by rw [← hm]; omega⟩
    obtain ⟨rfl, rfl⟩ := hW.1 e
    rw [← hm]
    (iterate 2 ((try simp (etaStruct := .none) only [push_cast, DrawG, Int.cast_ofNat_Int, seval, hz, getD_in _ _ _ hj, trpP, ew1, getD_in _ _ _ m1, i64P]); (try (refine xsu ?_; try exact xtI))))
    simp (etaStruct := .none) only [push_cast, DrawG, Int.cast_ofNat_Int, seval, mineAt, wldA, withLoad, List.map_set, i64P, trpP]
    exact ret0 rfl (by repeat' (first | exact trivial | exact rfl | refine ⟨?_, ?_⟩)) (Wk.refl _)
 ·(try replace h1 := xhh h1)
  exact absurd h h1
theorem rd_drop (w : Wld) (d : Ded) (j : Nat) (hw : Right w) (h : d.kind = 2) (hf : w.troops.findIdx? (isId d.who) = some j) (b : Bool) (W : Wld) (hW : (dropOk w j = true → W = dropAt w j ∧ b = decide (0 < dropN w j)) ∧ (dropOk w j = false → W = w ∧ b = false)) : Spec Tryz.prog 68 [wldA w, dedA d] [] (.tup [wldA W, B b]) [] := by
 have p1 := hw.places
 have p2 := hw.nb
 have p3 := hw.sl
 have p4 := hw.ml
 have p5 := hw.nt
 have hz : ixOf (isId d.who) w.troops = (j : Int) := by unfold ixOf; rw [hf]
 have hj := find_idx hf
 have ok := hw.trp j hj
 obtain ⟨o, eo, ho, hs⟩ := own_at hw hj
 have hn := dropN_b hw hj
 have hb := hw.base o ho
 have hbx := inF_iff.1 (ground_iff.1 hb.1).1
 have hfl := fldE_ok hw.f
 have hld := ok.load
 have eo2 : (w.troops.getD j default).owner.toNat = o := by omega
 have edN : dropN w j = min (w.troops.getD j default).load (1000000 - w.stocks.getD o default) := by unfold dropN; rw [eo2]
 rw [eo2] at hn
 obtain ⟨t, ht⟩ : ∃ t, t = w.troops.getD j default := ⟨_, rfl⟩
 rw [← ht] at ok eo hn hld eo2 edN
 obtain ⟨s, hsv⟩ : ∃ s, s = w.stocks.getD o default := ⟨_, rfl⟩
 have setg : ∀ x : List PV, ((w.troops.map trpP).set j x).getD j [] = x := fun x => by rw [getD_at' _ _ _ (by simpa using hj)]; simp
 have setg2 : ∀ x : List PV, ((w.stocks.map i64P).set o x).getD o [] = x := fun x => by rw [getD_at' _ _ _ (by simpa using hs)]; simp
 have sets : ∀ x y : List PV, ((w.troops.map trpP).set j x).set j y = (w.troops.map trpP).set j y := fun x y => List.set_set _
 have sets2 : ∀ x y : List PV, ((w.stocks.map i64P).set o x).set o y = (w.stocks.map i64P).set o y := fun x y => List.set_set _
 have hset : w.troops.set j (withLoad t t.load) = w.troops := by
  have : withLoad t t.load = w.troops.getD j default := by rw [← ht]; rfl
  rw [this, set_same _ _ hj]
 have hset2 : w.stocks.set o s = w.stocks := by rw [hsv, set_same _ _ hs]
 refine spec_am Tryz.func68 rfl rfl mix 292 rfl [.cell 4 28, .tmp 5] Tryz.results68 (Nat.le_of_ble_eq_true rfl) ?_
 (iterate 2 ((try simp (etaStruct := .none) only [push_cast, DrawG, Int.cast_ofNat_Int, seval, hz, eo, List.map_set, withLoad, setg, setg2, sets, sets2, getD_in _ _ _ hj, ← ht, trpP, getD_in _ _ _ ho, celP, getD_in _ _ _ hs, ← hsv, i64P]); (try (refine xsu ?_; try exact xtI))))
 refine caM [] (int_clone w.stocks (by omega)) ?_
 (iterate 2 ((try simp (etaStruct := .none) only [push_cast, DrawG, Int.cast_ofNat_Int, seval, hz, eo, List.map_set, withLoad, setg, setg2, sets, sets2, getD_in _ _ _ hj, ← ht, trpP, getD_in _ _ _ ho, celP, getD_in _ _ _ hs, ← hsv, i64P]); (try (refine xsu ?_; try exact xtI))))
 refine caM [] (int_clone w.mines (by omega)) ?_
 (iterate 2 ((try simp (etaStruct := .none) only [push_cast, DrawG, Int.cast_ofNat_Int, seval, hz, eo, List.map_set, withLoad, setg, setg2, sets, sets2, getD_in _ _ _ hj, ← ht, trpP, getD_in _ _ _ ho, celP, getD_in _ _ _ hs, ← hsv, i64P]); (try (refine xsu ?_; try exact xtI))))
 refine caM [] (trp_clone w.troops (by omega)) ?_
 (iterate 2 ((try simp (etaStruct := .none) only [push_cast, DrawG, Int.cast_ofNat_Int, seval, hz, eo, List.map_set, withLoad, setg, setg2, sets, sets2, getD_in _ _ _ hj, ← ht, trpP, getD_in _ _ _ ho, celP, getD_in _ _ _ hs, ← hsv, i64P]); (try (refine xsu ?_; try exact xtI))))
 (try (refine ⟨by kernel_rfl, ?_⟩))
 (iterate 2 ((try simp (etaStruct := .none) only [push_cast, DrawG, Int.cast_ofNat_Int, seval, hz, eo, List.map_set, withLoad, setg, setg2, sets, sets2, getD_in _ _ _ hj, ← ht, trpP, getD_in _ _ _ ho, celP, getD_in _ _ _ hs, ← hsv, i64P]); (try (refine xsu ?_; try exact xtI))))
 refine callB (trp_ix _ [] [.fel 5 [dedPV d] 0 0] w.troops (isId d.who) (by omega) (fun t _ => rdc1_s t d) (fun _ => rfl) (fun _ => rfl)) (WkL.refl _) rfl ?_
 (iterate 2 ((try simp (etaStruct := .none) only [push_cast, DrawG, Int.cast_ofNat_Int, seval, hz, eo, List.map_set, withLoad, setg, setg2, sets, sets2, getD_in _ _ _ hj, ← ht, trpP, getD_in _ _ _ ho, celP, getD_in _ _ _ hs, ← hsv, i64P]); (try (refine xsu ?_; try exact xtI))))
 refine cond_i (fun h1 => ?_) (fun h1 => ?_)
 ·(try replace h1 := xhh h1)
  exfalso; omega
 ·(try replace h1 := xhh h1)
  (iterate 2 ((try simp (etaStruct := .none) only [push_cast, DrawG, Int.cast_ofNat_Int, seval, hz, eo, List.map_set, withLoad, setg, setg2, sets, sets2, getD_in _ _ _ hj, ← ht, trpP, getD_in _ _ _ ho, celP, getD_in _ _ _ hs, ← hsv, i64P]); (try (refine xsu ?_; try exact xtI))))
  refine cond_i (fun h2 => ?_) (fun h2 => ?_)
  ·(try replace h2 := xhh h2)
   (iterate 2 ((try simp (etaStruct := .none) only [push_cast, DrawG, Int.cast_ofNat_Int, seval, hz, eo, List.map_set, withLoad, setg, setg2, sets, sets2, getD_in _ _ _ hj, ← ht, trpP, getD_in _ _ _ ho, celP, getD_in _ _ _ hs, ← hsv, i64P]); (try (refine xsu ?_; try exact xtI))))
   refine gcP (fun hcc => king_s (w.bases.getD o default) t.c (by omega)) ?_
   (iterate 2 ((try simp (etaStruct := .none) only [push_cast, DrawG, Int.cast_ofNat_Int, seval, hz, eo, List.map_set, withLoad, setg, setg2, sets, sets2, getD_in _ _ _ hj, ← ht, trpP, getD_in _ _ _ ho, celP, getD_in _ _ _ hs, ← hsv, i64P]); (try (refine xsu ?_; try exact xtI))))
   (try (refine ⟨by kernel_rfl, ?_⟩))
   (iterate 2 ((try simp (etaStruct := .none) only [push_cast, DrawG, Int.cast_ofNat_Int, seval, hz, eo, List.map_set, withLoad, setg, setg2, sets, sets2, getD_in _ _ _ hj, ← ht, trpP, getD_in _ _ _ ho, celP, getD_in _ _ _ hs, ← hsv, i64P]); (try (refine xsu ?_; try exact xtI))))
   refine cond_i (fun h3 => ?_) (fun h3 => ?_)
   ·(try replace h3 := xhh h3)
    obtain ⟨rfl, rfl⟩ := hW.2 (by unfold dropOk; rw [← ht, eo2]; exact h3.resolve_left (by omega))
    (iterate 2 ((try simp (etaStruct := .none) only [push_cast, DrawG, Int.cast_ofNat_Int, seval, hz, eo, List.map_set, withLoad, setg, setg2, sets, sets2, getD_in _ _ _ hj, ← ht, trpP, getD_in _ _ _ ho, celP, getD_in _ _ _ hs, ← hsv, i64P]); (try (refine xsu ?_; try exact xtI))))
    exact xrz rfl
   ·(try replace h3 := xhh h3)
    obtain ⟨rfl, rfl⟩ := hW.1 (by unfold dropOk; rw [← ht, eo2]; exact h3.2)
    (iterate 2 ((try simp (etaStruct := .none) only [push_cast, DrawG, Int.cast_ofNat_Int, seval, hz, eo, List.map_set, withLoad, setg, setg2, sets, sets2, getD_in _ _ _ hj, ← ht, trpP, getD_in _ _ _ ho, celP, getD_in _ _ _ hs, ← hsv, i64P]); (try (refine xsu ?_; try exact xtI))))
    refine loopI (fun k : Nat => ⟨[(8, I .i64 k), (6, I .i64 j), (4, .ptr 1 0 0), (2, .ptr 0 0 0)], [(0, .blk 28 (shpC w 2 3 4)), (1, .blk 28 [I .i64 0, I .i64 0, .c (.v (.slice none 0 0)), .c (.v (.slice none 0 0)), .c (.v (.slice none 0 0)), .c (.v (.slice none 0 0)), .c (.v (.slice none 0 0)), I .i64 0, I .i64 0]), (2, .row 3 1 ((w.stocks.set o (s + k)).map i64P)), (3, miR w), (4, .row 89 7 ((w.troops.set j (withLoad t (t.load - k))).map trpP))], 5⟩) (fun k : Nat => (k : Int) ≤ dropN w j) (fun k : Nat => (dropN w j).toNat - k) (0) (by have := hn.1; simpa using this) (To.mk [0, 2, 11, 23, 35] rfl rfl (by decide) ?_ ?_) ?_
    ·simp (etaStruct := .none) only [push_cast, DrawG, Int.cast_ofNat_Int, seval, Int.natCast_zero, Int.add_zero, Int.sub_zero, hset, hset2]
    ·simp (etaStruct := .none) only [push_cast, DrawG, Int.cast_ofNat_Int, seval]
    rintro k hk
    have kt : t.kind = 1 ∨ t.kind = 2 := ok.kind
    (iterate 2 ((try simp (etaStruct := .none) only [push_cast, DrawG, Int.cast_ofNat_Int, seval, hz, eo, List.map_set, withLoad, setg, setg2, sets, sets2, getD_in _ _ _ hj, ← ht, trpP, getD_in _ _ _ ho, celP, getD_in _ _ _ hs, ← hsv, i64P]); (try (refine xsu ?_; try exact xtI))))
    (try (refine ⟨by kernel_rfl, ?_⟩))
    (iterate 2 ((try simp (etaStruct := .none) only [push_cast, DrawG, Int.cast_ofNat_Int, seval, hz, eo, List.map_set, withLoad, setg, setg2, sets, sets2, getD_in _ _ _ hj, ← ht, trpP, getD_in _ _ _ ho, celP, getD_in _ _ _ hs, ← hsv, i64P]); (try (refine xsu ?_; try exact xtI))))
    refine cond_i (fun h4 => ?_) (fun h4 => ?_)
    ·(try replace h4 := xhh h4)
     have hk2 : (k : Int) + 1 ≤ dropN w j := by rw [edN]; omega
     (iterate 2 ((try simp (etaStruct := .none) only [push_cast, DrawG, Int.cast_ofNat_Int, seval, hz, eo, List.map_set, withLoad, setg, setg2, sets, sets2, getD_in _ _ _ hj, ← ht, trpP, getD_in _ _ _ ho, celP, getD_in _ _ _ hs, ← hsv, i64P]); (try (refine xsu ?_; try exact xtI))))
     (try (refine ⟨by kernel_rfl, ?_⟩))
     (iterate 2 ((try simp (etaStruct := .none) only [push_cast, DrawG, Int.cast_ofNat_Int, seval, hz, eo, List.map_set, withLoad, setg, setg2, sets, sets2, getD_in _ _ _ hj, ← ht, trpP, getD_in _ _ _ ho, celP, getD_in _ _ _ hs, ← hsv, i64P]); (try (refine xsu ?_; try exact xtI))))
     refine ⟨k + 1, by omega, by omega, To.mk [0, 1, 2, 3, 4] rfl rfl (by decide) ?_ ?_⟩
     ·(iterate 2 ((try simp (etaStruct := .none) only [push_cast, DrawG, Int.cast_ofNat_Int, seval, List.map_set, withLoad, eo, setg, setg2, sets, sets2, trpP, i64P, Int.sub_sub, Int.add_assoc]); (try (refine xsu ?_; try exact xtI))))
     ·(iterate 2 ((try simp (etaStruct := .none) only [push_cast, DrawG, Int.cast_ofNat_Int, seval, hz, eo, List.map_set, withLoad, setg, setg2, sets, sets2, getD_in _ _ _ hj, ← ht, trpP, getD_in _ _ _ ho, celP, getD_in _ _ _ hs, ← hsv, i64P]); (try (refine xsu ?_; try exact xtI))))
    ·(try replace h4 := xhh h4)
     have hk3 : dropN w j = (k : Int) := by rw [edN] at hk ⊢; omega
     (iterate 2 ((try simp (etaStruct := .none) only [push_cast, DrawG, Int.cast_ofNat_Int, seval, hz, eo, List.map_set, withLoad, setg, setg2, sets, sets2, getD_in _ _ _ hj, ← ht, trpP, getD_in _ _ _ ho, celP, getD_in _ _ _ hs, ← hsv, i64P]); (try (refine xsu ?_; try exact xtI))))
     simp (etaStruct := .none) only [push_cast, DrawG, Int.cast_ofNat_Int, seval, dropAt, wldA, ← ht, eo2, ← hsv, hk3, withLoad, List.map_set, i64P, trpP, eo]
     exact ret0 rfl (by repeat' (first | exact trivial | exact rfl | refine ⟨?_, ?_⟩)) (Wk.refl _)
  ·(try replace h2 := xhh h2)
   exact absurd h h2
end Go.Proofs.YthiddmncjafklaaGreat
namespace Go.Proofs.YthiddmncjafklaaGreat
set_option linter.all false
open Go.RowKit
set_option maxRecDepth 100000
set_option maxHeartbeats 2000000
theorem around_m (b : Cel) {m : Nat} (hm : m < 9) : (around b).getD (m + 1) default = ⟨b.x + ((m % 3 : Nat) : Int) - 1, b.y + ((m / 3 : Nat) : Int) - 1⟩ := by
 have e : m + 1 = 1 + 3 * (m / 3) + m % 3 := by omega
 rw [e, around_at b (by omega) (by omega)]
 congr 1 <;> omega
theorem rd_hout (w : Wld) (d : Ded) (hw : Right w) (h : d.kind = 3) (hge : w.stocks.length ≤ d.who.toNat) : Spec Tryz.prog 68 [wldA w, dedA d] [] (.tup [wldA w, B false]) [] := by
 have p1 := hw.places
 have p2 := hw.nb
 have p3 := hw.sl
 have p4 := hw.ml
 have p5 := hw.nt
 have hg : (w.stocks.map i64P).getD d.who.toNat [] = [] := by
  simp only [List.getD_eq_getElem?_getD]; rw [List.getElem?_eq_none (by rw [List.length_map]; exact hge)]; rfl
 have hwf : within d.who 0 ((w.bases.length : Int) - 1) = false := by rw [within_f]; omega
 refine spec_am Tryz.func68 rfl rfl mix 292 rfl [.cell 4 28, .tmp 5] Tryz.results68 (Nat.le_of_ble_eq_true rfl) ?_
 (iterate 2 ((try simp (etaStruct := .none) only [push_cast, DrawG, Int.cast_ofNat_Int, seval, hg]); (try (refine xsu ?_; try exact xtI))))
 refine caM [] (int_clone w.stocks (by omega)) ?_
 (iterate 2 ((try simp (etaStruct := .none) only [push_cast, DrawG, Int.cast_ofNat_Int, seval, hg]); (try (refine xsu ?_; try exact xtI))))
 refine caM [] (int_clone w.mines (by omega)) ?_
 (iterate 2 ((try simp (etaStruct := .none) only [push_cast, DrawG, Int.cast_ofNat_Int, seval, hg]); (try (refine xsu ?_; try exact xtI))))
 refine caM [] (trp_clone w.troops (by omega)) ?_
 (iterate 2 ((try simp (etaStruct := .none) only [push_cast, DrawG, Int.cast_ofNat_Int, seval, hg]); (try (refine xsu ?_; try exact xtI))))
 (try (refine ⟨by kernel_rfl, ?_⟩))
 (iterate 2 ((try simp (etaStruct := .none) only [push_cast, DrawG, Int.cast_ofNat_Int, seval, hg]); (try (refine xsu ?_; try exact xtI))))
 refine callB (trp_ix _ [] [.fel 5 [dedPV d] 0 0] w.troops (isId d.who) (by omega) (fun t _ => rdc1_s t d) (fun _ => rfl) (fun _ => rfl)) (WkL.refl _) rfl ?_
 (iterate 2 ((try simp (etaStruct := .none) only [push_cast, DrawG, Int.cast_ofNat_Int, seval, hg]); (try (refine xsu ?_; try exact xtI))))
 refine cond_i (fun h1 => ?_) (fun h1 => ?_)
 ·(try replace h1 := xhh h1)
  exfalso; omega
 ·(try replace h1 := xhh h1)
  (iterate 2 ((try simp (etaStruct := .none) only [push_cast, DrawG, Int.cast_ofNat_Int, seval, hg]); (try (refine xsu ?_; try exact xtI))))
  refine cond_i (fun h2 => ?_) (fun h2 => ?_)
  ·(try replace h2 := xhh h2)
   exfalso; omega
  ·(try replace h2 := xhh h2)
   (iterate 2 ((try simp (etaStruct := .none) only [push_cast, DrawG, Int.cast_ofNat_Int, seval, hg]); (try (refine xsu ?_; try exact xtI))))
   refine cond_i (fun h3 => ?_) (fun h3 => ?_)
   ·(try replace h3 := xhh h3)
    (iterate 2 ((try simp (etaStruct := .none) only [push_cast, DrawG, Int.cast_ofNat_Int, seval, hg]); (try (refine xsu ?_; try exact xtI))))
    refine caP (between_s d.who 0 ((w.bases.length : Int) - 1)) ?_
    (iterate 2 ((try simp (etaStruct := .none) only [push_cast, DrawG, Int.cast_ofNat_Int, seval, hg]); (try (refine xsu ?_; try exact xtI))))
    refine gcP (fun hcc => between_s d.what 1 2) ?_
    (iterate 2 ((try simp (etaStruct := .none) only [push_cast, DrawG, Int.cast_ofNat_Int, seval, hg]); (try (refine xsu ?_; try exact xtI))))
    repeat (with_reducible refine And.intro ?_ ?_; · (simp [hwf]; done))
    refine gcallN ?_ ?_
    ·simp [hwf]
    (iterate 2 ((try simp (etaStruct := .none) only [push_cast, DrawG, Int.cast_ofNat_Int, seval, hg]); (try (refine xsu ?_; try exact xtI))))
    repeat (with_reducible refine And.intro ?_ ?_; · (simp [hwf]; done))
    (try (refine ⟨by kernel_rfl, ?_⟩))
    (iterate 2 ((try simp (etaStruct := .none) only [push_cast, DrawG, Int.cast_ofNat_Int, seval, hg]); (try (refine xsu ?_; try exact xtI))))
    refine cond_i (fun h4 => ?_) (fun h4 => ?_)
    ·(try replace h4 := xhh h4)
     (iterate 2 ((try simp (etaStruct := .none) only [push_cast, DrawG, Int.cast_ofNat_Int, seval, hg]); (try (refine xsu ?_; try exact xtI))))
     exact xrz rfl
    ·(try replace h4 := xhh h4)
     simp [hwf] at h4
   ·(try replace h3 := xhh h3)
    exact absurd h h3
theorem rd_hire (w : Wld) (d : Ded) (hw : Right w) (h : d.kind = 3) (hs : d.who.toNat < w.stocks.length) (b : Bool) (W : Wld) (hW1 : hireOk w d = false → W = w ∧ b = false) (hW2 : hireOk w d = true → freeV w (w.bases.getD d.who.toNat default) = none → W = w ∧ b = false)
 (hW3 : ∀ c, hireOk w d = true → freeV w (w.bases.getD d.who.toNat default) = some c → W = hireAt w d c ∧ b = true) : Spec Tryz.prog 68 [wldA w, dedA d] [] (.tup [wldA W, B b]) [] := by
 have p1 := hw.places
 have p2 := hw.nb
 have p3 := hw.sl
 have p4 := hw.ml
 have p5 := hw.nt
 have hb : d.who.toNat < w.bases.length := by omega
 have hbb := base_box hw hb
 have hnx := hw.nx
 have hst := (hw.base _ hb).2.1
 obtain ⟨a, ha⟩ : ∃ a, a = w.bases.getD d.who.toNat default := ⟨_, rfl⟩
 have hal : (around a).length = 10 := rfl
 rw [← ha] at hbb hW2 hW3
 refine spec_am Tryz.func68 rfl rfl mix 292 rfl [.cell 4 28, .tmp 5] Tryz.results68 (Nat.le_of_ble_eq_true rfl) ?_
 (iterate 2 ((try simp (etaStruct := .none) (maxSteps := 1000000) only [push_cast, DrawG, Int.cast_ofNat_Int, seval, getD_in _ _ _ hs, getD_in _ _ _ hb, ← ha, i64P, celP]); (try (refine xsu ?_; try exact xtI))))
 refine caM [] (int_clone w.stocks (by omega)) ?_
 (iterate 2 ((try simp (etaStruct := .none) (maxSteps := 1000000) only [push_cast, DrawG, Int.cast_ofNat_Int, seval, getD_in _ _ _ hs, getD_in _ _ _ hb, ← ha, i64P, celP]); (try (refine xsu ?_; try exact xtI))))
 refine caM [] (int_clone w.mines (by omega)) ?_
 (iterate 2 ((try simp (etaStruct := .none) (maxSteps := 1000000) only [push_cast, DrawG, Int.cast_ofNat_Int, seval, getD_in _ _ _ hs, getD_in _ _ _ hb, ← ha, i64P, celP]); (try (refine xsu ?_; try exact xtI))))
 refine caM [] (trp_clone w.troops (by omega)) ?_
 (iterate 2 ((try simp (etaStruct := .none) (maxSteps := 1000000) only [push_cast, DrawG, Int.cast_ofNat_Int, seval, getD_in _ _ _ hs, getD_in _ _ _ hb, ← ha, i64P, celP]); (try (refine xsu ?_; try exact xtI))))
 (try (refine ⟨by kernel_rfl, ?_⟩))
 (iterate 2 ((try simp (etaStruct := .none) (maxSteps := 1000000) only [push_cast, DrawG, Int.cast_ofNat_Int, seval, getD_in _ _ _ hs, getD_in _ _ _ hb, ← ha, i64P, celP]); (try (refine xsu ?_; try exact xtI))))
 refine callB (trp_ix _ [] [.fel 5 [dedPV d] 0 0] w.troops (isId d.who) (by omega) (fun t _ => rdc1_s t d) (fun _ => rfl) (fun _ => rfl)) (WkL.refl _) rfl ?_
 (iterate 2 ((try simp (etaStruct := .none) (maxSteps := 1000000) only [push_cast, DrawG, Int.cast_ofNat_Int, seval, getD_in _ _ _ hs, getD_in _ _ _ hb, ← ha, i64P, celP]); (try (refine xsu ?_; try exact xtI))))
 refine cond_i (fun h1 => ?_) (fun h1 => ?_)
 ·(try replace h1 := xhh h1)
  exfalso; omega
 ·(try replace h1 := xhh h1)
  (iterate 2 ((try simp (etaStruct := .none) (maxSteps := 1000000) only [push_cast, DrawG, Int.cast_ofNat_Int, seval, getD_in _ _ _ hs, getD_in _ _ _ hb, ← ha, i64P, celP]); (try (refine xsu ?_; try exact xtI))))
  refine cond_i (fun h2 => ?_) (fun h2 => ?_)
  ·(try replace h2 := xhh h2)
   exfalso; omega
  ·(try replace h2 := xhh h2)
   (iterate 2 ((try simp (etaStruct := .none) (maxSteps := 1000000) only [push_cast, DrawG, Int.cast_ofNat_Int, seval, getD_in _ _ _ hs, getD_in _ _ _ hb, ← ha, i64P, celP]); (try (refine xsu ?_; try exact xtI))))
   refine cond_i (fun h3 => ?_) (fun h3 => ?_)
   ·(try replace h3 := xhh h3)
    (iterate 2 ((try simp (etaStruct := .none) (maxSteps := 1000000) only [push_cast, DrawG, Int.cast_ofNat_Int, seval, getD_in _ _ _ hs, getD_in _ _ _ hb, ← ha, i64P, celP]); (try (refine xsu ?_; try exact xtI))))
    refine caP (between_s d.who 0 ((w.bases.length : Int) - 1)) ?_
    (iterate 2 ((try simp (etaStruct := .none) (maxSteps := 1000000) only [push_cast, DrawG, Int.cast_ofNat_Int, seval, getD_in _ _ _ hs, getD_in _ _ _ hb, ← ha, i64P, celP]); (try (refine xsu ?_; try exact xtI))))
    refine gcP (fun hcc => between_s d.what 1 2) ?_
    (iterate 2 ((try simp (etaStruct := .none) (maxSteps := 1000000) only [push_cast, DrawG, Int.cast_ofNat_Int, seval, getD_in _ _ _ hs, getD_in _ _ _ hb, ← ha, i64P, celP]); (try (refine xsu ?_; try exact xtI))))
    refine ⟨fun hh => ⟨hh, by have := (within_iff).1 hh.1; omega⟩, fun hh => ⟨hh, hs⟩, ?_⟩
    refine gcP (fun hcc => kindOf_s d.what (by simp at hcc; have := (within_iff).1 hcc.2; omega)) ?_
    (iterate 2 ((try simp (etaStruct := .none) (maxSteps := 1000000) only [push_cast, DrawG, Int.cast_ofNat_Int, seval, getD_in _ _ _ hs, getD_in _ _ _ hb, ← ha, i64P, celP]); (try (refine xsu ?_; try exact xtI))))
    (try (refine ⟨by kernel_rfl, ?_⟩))
    (iterate 2 ((try simp (etaStruct := .none) (maxSteps := 1000000) only [push_cast, DrawG, Int.cast_ofNat_Int, seval, getD_in _ _ _ hs, getD_in _ _ _ hb, ← ha, i64P, celP]); (try (refine xsu ?_; try exact xtI))))
    refine cond_i (fun h4 => ?_) (fun h4 => ?_)
    ·(try replace h4 := xhh h4)
     have hno : hireOk w d = false := by
      cases hh : hireOk w d with
      | false => rfl
      | true =>
       exfalso
       have hi := hireOk_iff.1 hh
       rcases h4 with (((h4 | h4) | h4) | h4) | h4
       ·rw [within_f] at h4; omega
       ·rw [within_f] at h4; omega
       ·omega
       ·omega
       ·omega
     obtain ⟨rfl, rfl⟩ := hW1 hno
     (iterate 2 ((try simp (etaStruct := .none) (maxSteps := 1000000) only [push_cast, DrawG, Int.cast_ofNat_Int, seval, getD_in _ _ _ hs, getD_in _ _ _ hb, ← ha, i64P, celP]); (try (refine xsu ?_; try exact xtI))))
     exact xrz rfl
    ·(try replace h4 := xhh h4)
     have hyes : hireOk w d = true := by
      rw [hireOk_iff]
      have q1 := (within_iff).1 h4.1.1.1.1
      have q2 := (within_iff).1 h4.1.1.1.2
      exact ⟨⟨⟨⟨⟨by omega, by omega⟩, by omega⟩, by omega⟩, by omega⟩, by omega⟩
     have q1 := (within_iff).1 h4.1.1.1.1
     have q2 := (within_iff).1 h4.1.1.1.2
     have hwk : d.what = 1 ∨ d.what = 2 := by omega
     have hpr : 0 ≤ (kindV d.what).price ∧ (kindV d.what).price ≤ 12 := by rcases hwk with e | e <;> rw [e] <;> decide
     (iterate 2 ((try simp (etaStruct := .none) (maxSteps := 1000000) only [push_cast, DrawG, Int.cast_ofNat_Int, seval, getD_in _ _ _ hs, getD_in _ _ _ hb, ← ha, i64P, celP]); (try (refine xsu ?_; try exact xtI))))
     refine loopI (fun i : Nat => ⟨[(10, I .i64 ((i : Int) - 1)), (9, .ptr 3 0 0), (4, .ptr 2 0 0), (3, .ptr 1 0 0), (2, .ptr 0 0 0)], [(0, .blk 28 (shpC w 4 5 6)), (1, .blk 119 [I .i64 d.kind, I .i64 d.who, I .i64 d.c.x, I .i64 d.c.y, I .i64 d.what]), (2, .blk 28 [I .i64 0, I .i64 0, .c (.v (.slice none 0 0)), .c (.v (.slice none 0 0)), .c (.v (.slice none 0 0)), .c (.v (.slice none 0 0)), .c (.v (.slice none 0 0)), I .i64 0, I .i64 0]), (3, .blk 85 [I .i64 a.x, I .i64 a.y]), (4, stR w), (5, miR w), (6, trR w)], 7⟩) (fun i : Nat => i ≤ 10 ∧ ∀ j, j < i → freeB w ((around a).getD j default) = false) (fun i : Nat => 10 - i) (0) (⟨Nat.zero_le _, fun j h => absurd h (Nat.not_lt_zero _)⟩) (To.mk [0, 1, 2, 215, 11, 23, 35] rfl rfl (by decide) ?_ ?_) ?_
     ·simp (etaStruct := .none) only [push_cast, DrawG, Int.cast_ofNat_Int, seval]
     ·simp (etaStruct := .none) only [push_cast, DrawG, Int.cast_ofNat_Int, seval, Int.zero_sub]
     rintro i ⟨hi, hn⟩
     (iterate 2 ((try simp (etaStruct := .none) (maxSteps := 1000000) only [push_cast, DrawG, Int.cast_ofNat_Int, seval, getD_in _ _ _ hs, getD_in _ _ _ hb, ← ha, i64P, celP]); (try (refine xsu ?_; try exact xtI))))
     refine cond_i (fun h5 => ?_) (fun h5 => ?_)
     ·(try replace h5 := xhh h5)
      have hi9 : i < 10 := by omega
      obtain ⟨x, hx⟩ : ∃ x, x = (around a).getD i default := ⟨_, rfl⟩
      (iterate 2 ((try simp (etaStruct := .none) (maxSteps := 1000000) only [push_cast, DrawG, Int.cast_ofNat_Int, seval, getD_in _ _ _ hs, getD_in _ _ _ hb, ← ha, i64P, celP]); (try (refine xsu ?_; try exact xtI))))
      refine cond_j (fun _u : Unit => ⟨[(11, .ptr 7 0 0), (10, I .i64 ((i : Int) - 1)), (9, .ptr 3 0 0), (4, .ptr 2 0 0), (3, .ptr 1 0 0), (2, .ptr 0 0 0)], [(0, .blk 28 (shpC w 4 5 6)), (1, .blk 119 [I .i64 d.kind, I .i64 d.who, I .i64 d.c.x, I .i64 d.c.y, I .i64 d.what]), (2, .blk 28 [I .i64 0, I .i64 0, .c (.v (.slice none 0 0)), .c (.v (.slice none 0 0)), .c (.v (.slice none 0 0)), .c (.v (.slice none 0 0)), .c (.v (.slice none 0 0)), I .i64 0, I .i64 0]), (3, .blk 85 [I .i64 a.x, I .i64 a.y]), (4, stR w), (5, miR w), (6, trR w), (7, .blk 85 [I .i64 x.x, I .i64 x.y])], 8⟩) (fun _u : Unit => Tr) (fun h6 => ?_) (fun h6 => ?_) ?_
      ·(try replace h6 := xhh h6)
       obtain ⟨m, hm⟩ : ∃ m : Nat, i = m + 1 := ⟨i - 1, by omega⟩
       have hxm := around_m a (m := m) (by omega)
       rw [← hm, ← hx] at hxm
       have em : ((i : Int) - 1).tmod 3 = ((m % 3 : Nat) : Int) := by rw [hm, show (((m + 1 : Nat) : Int) - 1) = (m : Int) from by omega, Int.tmod_eq_emod_of_nonneg (by omega)]; rfl
       have ed : IntKind.i64.wrap (((i : Int) - 1).tdiv 3) = ((m / 3 : Nat) : Int) := by rw [hm, show (((m + 1 : Nat) : Int) - 1) = (m : Int) from by omega, Int.tdiv_eq_ediv_of_nonneg (by omega)]; exact wrap_in _ (by omega) (by omega)
       (iterate 2 ((try simp (etaStruct := .none) (maxSteps := 1000000) only [push_cast, DrawG, Int.cast_ofNat_Int, seval, getD_in _ _ _ hs, getD_in _ _ _ hb, ← ha, i64P, celP, em, ed]); (try (refine xsu ?_; try exact xtI))))
       refine ⟨(), trI, To.mk [0, 1, 2, 3, 4, 5, 6, 7] rfl rfl (by decide) ?_ ?_⟩
       ·(iterate 2 ((try simp (etaStruct := .none) only [push_cast, DrawG, Int.cast_ofNat_Int, seval, hxm, em, ed]); (try (refine xsu ?_; try exact xtI))))
       ·(iterate 2 ((try simp (etaStruct := .none) (maxSteps := 1000000) only [push_cast, DrawG, Int.cast_ofNat_Int, seval, getD_in _ _ _ hs, getD_in _ _ _ hb, ← ha, i64P, celP, em, ed]); (try (refine xsu ?_; try exact xtI))))
      ·(try replace h6 := xhh h6)
       obtain rfl : i = 0 := by omega
       have hxa : x = a := hx
       (iterate 2 ((try simp (etaStruct := .none) (maxSteps := 1000000) only [push_cast, DrawG, Int.cast_ofNat_Int, seval, getD_in _ _ _ hs, getD_in _ _ _ hb, ← ha, i64P, celP]); (try (refine xsu ?_; try exact xtI))))
       refine ⟨(), trI, To.mk [0, 1, 2, 3, 4, 5, 6, 7] rfl rfl (by decide) ?_ ?_⟩
       ·(iterate 2 ((try simp (etaStruct := .none) only [push_cast, DrawG, Int.cast_ofNat_Int, seval, hxa]); (try (refine xsu ?_; try exact xtI))))
       ·(iterate 2 ((try simp (etaStruct := .none) (maxSteps := 1000000) only [push_cast, DrawG, Int.cast_ofNat_Int, seval, getD_in _ _ _ hs, getD_in _ _ _ hb, ← ha, i64P, celP]); (try (refine xsu ?_; try exact xtI))))
      ·rintro _ _
       skip
       (iterate 2 ((try simp (etaStruct := .none) (maxSteps := 1000000) only [push_cast, DrawG, Int.cast_ofNat_Int, seval, getD_in _ _ _ hs, getD_in _ _ _ hb, ← ha, i64P, celP]); (try (refine xsu ?_; try exact xtI))))
       refine caP (ground_s w.f x hw.f) ?_
       (iterate 2 ((try simp (etaStruct := .none) (maxSteps := 1000000) only [push_cast, DrawG, Int.cast_ofNat_Int, seval, getD_in _ _ _ hs, getD_in _ _ _ hb, ← ha, i64P, celP]); (try (refine xsu ?_; try exact xtI))))
       refine gcallB (fun hcc => trp_any _ [] [.fel 2 [[pI x.x, pI x.y]] 0 0] w.troops (fun t => decide (t.c = x)) (by omega) (fun t _ => rdc2_s t x) (fun _ => rfl) (fun _ => rfl)) (WkL.refl _) rfl (by intro hc; (try simp (etaStruct := .none) only [push_cast, DrawG, Int.cast_ofNat_Int, seval]); (try simp_all)) ?_
       (iterate 2 ((try simp (etaStruct := .none) (maxSteps := 1000000) only [push_cast, DrawG, Int.cast_ofNat_Int, seval, getD_in _ _ _ hs, getD_in _ _ _ hb, ← ha, i64P, celP]); (try (refine xsu ?_; try exact xtI))))
       refine cond_i (fun h7 => ?_) (fun h7 => ?_)
       ·(try replace h7 := xhh h7)
        have hfb : freeB w x = true := by unfold freeB; rw [h7.1, h7.2]; rfl
        obtain ⟨rfl, rfl⟩ := hW3 x hyes (by unfold freeV; rw [hx]; exact find_hit _ _ i (by rw [hal]; exact hi9) (by rw [← hx]; exact hfb) hn)
        (iterate 2 ((try simp (etaStruct := .none) (maxSteps := 1000000) only [push_cast, DrawG, Int.cast_ofNat_Int, seval, getD_in _ _ _ hs, getD_in _ _ _ hb, ← ha, i64P, celP]); (try (refine xsu ?_; try exact xtI))))
        refine caP (kindOf_s d.what hwk) ?_
        (iterate 2 ((try simp (etaStruct := .none) (maxSteps := 1000000) only [push_cast, DrawG, Int.cast_ofNat_Int, seval, getD_in _ _ _ hs, getD_in _ _ _ hb, ← ha, i64P, celP]); (try (refine xsu ?_; try exact xtI))))
        (try (refine ⟨by kernel_rfl, ?_⟩))
        (iterate 2 ((try simp (etaStruct := .none) (maxSteps := 1000000) only [push_cast, DrawG, Int.cast_ofNat_Int, seval, getD_in _ _ _ hs, getD_in _ _ _ hb, ← ha, i64P, celP]); (try (refine xsu ?_; try exact xtI))))
        refine caP (kindOf_s d.what hwk) ?_
        (iterate 2 ((try simp (etaStruct := .none) (maxSteps := 1000000) only [push_cast, DrawG, Int.cast_ofNat_Int, seval, getD_in _ _ _ hs, getD_in _ _ _ hb, ← ha, i64P, celP]); (try (refine xsu ?_; try exact xtI))))
        (try (refine ⟨by kernel_rfl, ?_⟩))
        (iterate 2 ((try simp (etaStruct := .none) (maxSteps := 1000000) only [push_cast, DrawG, Int.cast_ofNat_Int, seval, getD_in _ _ _ hs, getD_in _ _ _ hb, ← ha, i64P, celP]); (try (refine xsu ?_; try exact xtI))))
        simp (etaStruct := .none) only [push_cast, DrawG, Int.cast_ofNat_Int, seval, hireAt, wldA, List.map_set, List.map_append, i64P, trpP]
        exact ret0 rfl (by repeat' (first | exact trivial | exact rfl | refine ⟨?_, ?_⟩)) (Wk.refl _)
       ·(try replace h7 := xhh h7)
        have hfb : freeB w x = false := by
         unfold freeB
         rcases h7 with h7 | h7
         ·rw [h7]; rfl
         ·rw [h7]; simp
        (iterate 2 ((try simp (etaStruct := .none) (maxSteps := 1000000) only [push_cast, DrawG, Int.cast_ofNat_Int, seval, getD_in _ _ _ hs, getD_in _ _ _ hb, ← ha, i64P, celP]); (try (refine xsu ?_; try exact xtI))))
        refine ⟨i + 1, ⟨by omega, fun j hj => by
 rcases Nat.lt_or_ge j i with h' | h'
 ·exact hn j h'
 ·rw [show j = i by omega, ← hx]; exact hfb⟩, by omega, To.mk [0, 1, 2, 3, 4, 5, 6] rfl rfl (by decide) ?_ ?_⟩
        ·(iterate 2 ((try simp (etaStruct := .none) (maxSteps := 1000000) only [push_cast, DrawG, Int.cast_ofNat_Int, seval, getD_in _ _ _ hs, getD_in _ _ _ hb, ← ha, i64P, celP]); (try (refine xsu ?_; try exact xtI))))
        ·(iterate 2 ((try simp (etaStruct := .none) only [push_cast, DrawG, Int.cast_ofNat_Int, seval, Int.add_sub_cancel, Int.sub_add_cancel]); (try (refine xsu ?_; try exact xtI))))
     ·(try replace h5 := xhh h5)
      obtain ⟨rfl, rfl⟩ := hW2 hyes (find_miss _ _ (fun j hj => hn j (by rw [hal] at hj; omega)))
      (iterate 2 ((try simp (etaStruct := .none) (maxSteps := 1000000) only [push_cast, DrawG, Int.cast_ofNat_Int, seval, getD_in _ _ _ hs, getD_in _ _ _ hb, ← ha, i64P, celP]); (try (refine xsu ?_; try exact xtI))))
      exact xrz rfl
   ·(try replace h3 := xhh h3)
    exact absurd h h3
end Go.Proofs.YthiddmncjafklaaGreat
namespace Go.Proofs.YthiddmncjafklaaGreat
set_option linter.all false
open Go.RowKit
set_option maxRecDepth 100000
set_option maxHeartbeats 1000000
theorem deeded_s (w : Wld) (d : Ded) (hw : Right w) : Spec Tryz.prog 68 [wldA w, dedA d] [] (.tup [wldA (deedV w d).1, B (deedV w d).2]) [] := by
 have none : d.kind = 1 ∨ d.kind = 2 → w.troops.findIdx? (isId d.who) = none → Spec Tryz.prog 68 [wldA w, dedA d] [] (.tup [wldA w, B false]) [] := fun h hf => by
  rcases Nat.eq_zero_or_pos w.troops.length with h3 | h3
  ·exact rd_empty w d hw h (List.eq_nil_of_length_eq_zero h3)
  ·exact rd_none w d hw h hf h3
 unfold deedV
 split
 ·rename_i h
  split
  ·rename_i i hi
   split
   ·rename_i ho; exact rd_mine w d i hw h hi true _ ⟨fun _ => ⟨rfl, rfl⟩, fun h2 => by rw [ho] at h2; simp at h2⟩
   ·rename_i ho; exact rd_mine w d i hw h hi false _ ⟨fun h2 => absurd h2 ho, fun _ => ⟨rfl, rfl⟩⟩
  ·rename_i hi; exact none (.inl h) hi
 ·split
  ·rename_i h
   split
   ·rename_i i hi
    split
    ·rename_i ho; exact rd_drop w d i hw h hi _ _ ⟨fun _ => ⟨rfl, rfl⟩, fun h2 => by rw [ho] at h2; simp at h2⟩
    ·rename_i ho; exact rd_drop w d i hw h hi false _ ⟨fun h2 => absurd h2 ho, fun _ => ⟨rfl, rfl⟩⟩
   ·rename_i hi; exact none (.inr h) hi
  ·split
   ·rename_i h
    split
    ·rename_i ho
     have hoi := hireOk_iff.1 ho
     have hs : d.who.toNat < w.stocks.length := by have := hw.sl; omega
     split
     ·rename_i c hc; exact rd_hire w d hw h hs true _ (fun h2 => by rw [ho] at h2; simp at h2) (fun _ h2 => by rw [hc] at h2; simp at h2) (fun c' _ h2 => by rw [hc] at h2; rw [Option.some.inj h2]; exact ⟨rfl, rfl⟩)
     ·rename_i hc; exact rd_hire w d hw h hs false _ (fun h2 => by rw [ho] at h2; simp at h2) (fun _ _ => ⟨rfl, rfl⟩) (fun c' _ h2 => by rw [hc] at h2; simp at h2)
    ·rename_i ho
     rcases Nat.lt_or_ge d.who.toNat w.stocks.length with h2 | h2
     ·exact rd_hire w d hw h h2 false _ (fun _ => ⟨rfl, rfl⟩) (fun h3 => absurd h3 ho) (fun c' h3 => absurd h3 ho)
     ·exact rd_hout w d hw h h2
   ·exact rd_0 w d hw ⟨by assumption, by assumption, by assumption⟩
theorem deededAll_s (w : Wld) (l : List Ded) (hw : Right w) (hll : l.length ≤ 200) : Spec Tryz.prog 34 [wldA w, .c (.sl 5 (l.map dedP))] [] (.tup [wldA (deedsA w l).1, .c (.sl 1 ((deedsA w l).2.map boolP))]) [] := by
 refine spec_am Tryz.func34 rfl rfl mix 29 rfl [.cell 4 28, .tmp 5] Tryz.results34 (Nat.le_of_ble_eq_true rfl) ?_
 (try (refine xst ?_; try exact xtI))
 refine loopI (fun k : Nat => ⟨[(12, I .i64 k), (11, I .i64 l.length), (10, .c (.sl 5 (l.map dedP))), (6, .own 2), (4, .ptr 1 0 0), (2, .ptr 0 0 0)], [(0, .blk 28 (wldC (deedsA w (l.take k)).1)), (1, .blk 28 [I .i64 0, I .i64 0, .c (.v (.slice none 0 0)), .c (.v (.slice none 0 0)), .c (.v (.slice none 0 0)), .c (.v (.slice none 0 0)), .c (.v (.slice none 0 0)), I .i64 0, I .i64 0]), (2, .row 4 1 ((deedsA w (l.take k)).2.map boolP))], 3⟩) (fun k : Nat => k ≤ l.length) (fun k : Nat => l.length - k) (0) (Nat.zero_le _) ((To.nil 6 4 1 rfl).trans (To.mk [0, 1, 2] rfl rfl (by decide) ?_ ?_)) ?_
 ·simp (etaStruct := .none) only [push_cast, DrawG, Int.cast_ofNat_Int, seval, List.take_zero, deedsA]
 ·simp (etaStruct := .none) only [push_cast, DrawG, Int.cast_ofNat_Int, seval]
 rintro k hk
 (try (refine xst ?_; try exact xtI))
 refine cond_i (fun h1 => ?_) (fun h1 => ?_)
 ·(try replace h1 := xhh h1)
  have hlt : k < l.length := by omega
  obtain ⟨d, hd⟩ : ∃ d, d = l.getD k default := ⟨_, rfl⟩
  have hst : deedsA w (l.take (k + 1)) = ((deedV (deedsA w (l.take k)).1 d).1, (deedsA w (l.take k)).2 ++ [(deedV (deedsA w (l.take k)).1 d).2]) := by rw [take_snoc _ _ hlt, ← hd, deedsA_snoc]
  have hR := right_deeds (l.take k) hw
  have hbl := deedsA_len (l.take k) w
  rw [List.length_take] at hbl
  generalize (deedsA w (l.take k)).1 = W at *
  generalize (deedsA w (l.take k)).2 = bs at *
  (iterate 2 ((try simp (etaStruct := .none) only [push_cast, DrawG, Int.cast_ofNat_Int, seval, getD_in _ _ _ hlt, ← hd, dedP, boolP]); (try (refine xsu ?_; try exact xtI))))
  refine caP (deeded_s W d hR) ?_
  (iterate 2 ((try simp (etaStruct := .none) only [push_cast, DrawG, Int.cast_ofNat_Int, seval, getD_in _ _ _ hlt, ← hd, dedP, boolP]); (try (refine xsu ?_; try exact xtI))))
  refine ⟨k + 1, by omega, by omega, To.mk [0, 1, 5] rfl rfl (by decide) ?_ ?_⟩
  ·(iterate 2 ((try simp (etaStruct := .none) only [push_cast, DrawG, Int.cast_ofNat_Int, seval, hst, List.map_append, boolP]); (try (refine xsu ?_; try exact xtI))))
  ·(iterate 2 ((try simp (etaStruct := .none) only [push_cast, DrawG, Int.cast_ofNat_Int, seval, getD_in _ _ _ hlt, ← hd, dedP, boolP]); (try (refine xsu ?_; try exact xtI))))
 ·(try replace h1 := xhh h1)
  obtain rfl : k = l.length := by omega
  (iterate 2 ((try simp (etaStruct := .none) only [push_cast, DrawG, Int.cast_ofNat_Int, seval, List.take_length]); (try (refine xsu ?_; try exact xtI))))
  exact xrz rfl
end Go.Proofs.YthiddmncjafklaaGreat
namespace Go.Proofs.YthiddmncjafklaaGreat
set_option linter.all false
open Go.RowKit
set_option maxRecDepth 100000
set_option maxHeartbeats 1000000
theorem splitE_o {l : List Ord} {w : Wld} (h : ordsE l = 0) : splitE l w = worldE w := by unfold splitE; rw [if_neg (by simp [h])]
theorem splitE_n {l : List Ord} {w : Wld} (h : ordsE l ≠ 0) : splitE l w = ordsE l := by unfold splitE; rw [if_pos h]
theorem rturn_k (w : Wld) (l : List Ord) (WR : Cel → List Int) (hWR : ∀ a, FloodIs w.f [a] (WR a)) (hll : l.length ≤ 9223372036854775807) (h : turnE l w = 0) : Spec Tryz.prog 8 [wldA w, .c (.sl 6 (l.map ordP))] [] (.tup [wldA (turnV WR w l), repA (turnG w l) (turnM WR w l) (turnD WR w l), I .i64 0]) [] := by
 have hs : splitE l w = 0 := by unfold turnE at h; split at h; rename_i h1; exact absurd h h1; rename_i h1; simpa using h1
 have hn : w.now < 1000000 := by unfold turnE at h; rw [if_neg (by simp [hs])] at h; split at h; exact absurd h (by decide); omega
 obtain ⟨ho, hw⟩ := splitE_ok hs
 have R0 := right_of hw
 have RA := right_tkA R0 l
 have RB := right_tkB R0 hWR l
 have RC := right_tkC R0 hWR l
 obtain ⟨o1, o2⟩ := ordsE_ok ho
 obtain ⟨n1, n2, n3⟩ := split_lens (w := w) ho
 have hnow : (tkC WR w l).now = w.now := tkC_now WR w l
 have hnw := R0.nw
 have OR := orights_s l hll
 rw [ho] at OR
 have WRI := wright_s w R0.l
 rw [hw] at WRI
 have HK := struckw_s w (blowsV l w) R0.l hw (by omega)
 rw [show struckW w (blowsV l w) = tkA w l from rfl, show goneV w (blowsV l w) = turnG w l from rfl] at HK
 have hfo := fldE_ok RA.f
 have hb := right_b RA
 have MK := marched_s (tkA w l) (goesV l w) WR hWR (by omega) (by omega) (by omega)
 rw [show setT (tkA w l) (marchV (tkA w l).f WR (goesV l w) (tkA w l).troops).1 = tkB WR w l from rfl, show (marchV (tkA w l).f WR (goesV l w) (tkA w l).troops).2 = turnM WR w l from rfl] at MK
 have DK := deededAll_s (tkB WR w l) (deedsV l w) RB (by omega)
 rw [show (deedsA (tkB WR w l) (deedsV l w)).1 = tkC WR w l from rfl, show (deedsA (tkB WR w l) (deedsV l w)).2 = turnD WR w l from rfl] at DK
 have hup : IntKind.i64.wrap ((tkC WR w l).now + 1) = w.now + 1 := by rw [hnow]; exact wrap_in _ (by omega) (by omega)
 have htv : turnV WR w l = { tkC WR w l with now := w.now + 1 } := by unfold turnV nowUp; rw [hnow]
 rw [htv]
 refine spec_am Tryz.func8 rfl rfl mix 66 rfl [.cell 4 28, .cell 5 32, .tmp 6] Tryz.results8 (Nat.le_of_ble_eq_true rfl) ?_
 (try (refine xst ?_; try exact xtI))
 refine caP (OR) ?_
 (try (refine xst ?_; try exact xtI))
 refine cond_i (fun h1 => ?_) (fun h1 => ?_)
 ·(try replace h1 := xhh h1)
  (try (refine xst ?_; try exact xtI))
  refine caP (WRI) ?_
  (try (refine xst ?_; try exact xtI))
  refine cond_i (fun h2 => ?_) (fun h2 => ?_)
  ·(try replace h2 := xhh h2)
   omega
  ·(try replace h2 := xhh h2)
   (try (refine xst ?_; try exact xtI))
   refine cond_i (fun h3 => ?_) (fun h3 => ?_)
   ·(try replace h3 := xhh h3)
    simp at h3
   ·(try replace h3 := xhh h3)
    (iterate 2 ((try simp (etaStruct := .none) only [push_cast, DrawG, Int.cast_ofNat_Int, seval, hup]); (try (refine xsu ?_; try exact xtI))))
    refine caP (blows_s l w R0.l o1) ?_
    (iterate 2 ((try simp (etaStruct := .none) only [push_cast, DrawG, Int.cast_ofNat_Int, seval, hup]); (try (refine xsu ?_; try exact xtI))))
    refine caP (goes_s l w R0.l o1) ?_
    (iterate 2 ((try simp (etaStruct := .none) only [push_cast, DrawG, Int.cast_ofNat_Int, seval, hup]); (try (refine xsu ?_; try exact xtI))))
    refine caP (deeds_s l w R0.l o1 o2) ?_
    (iterate 2 ((try simp (etaStruct := .none) only [push_cast, DrawG, Int.cast_ofNat_Int, seval, hup]); (try (refine xsu ?_; try exact xtI))))
    (try (refine ⟨by kernel_rfl, ?_⟩))
    (iterate 2 ((try simp (etaStruct := .none) only [push_cast, DrawG, Int.cast_ofNat_Int, seval, hup]); (try (refine xsu ?_; try exact xtI))))
    refine caP (HK) ?_
    (iterate 2 ((try simp (etaStruct := .none) only [push_cast, DrawG, Int.cast_ofNat_Int, seval, hup]); (try (refine xsu ?_; try exact xtI))))
    refine caP (MK) ?_
    (iterate 2 ((try simp (etaStruct := .none) only [push_cast, DrawG, Int.cast_ofNat_Int, seval, hup]); (try (refine xsu ?_; try exact xtI))))
    refine caP (DK) ?_
    (iterate 2 ((try simp (etaStruct := .none) only [push_cast, DrawG, Int.cast_ofNat_Int, seval, hup]); (try (refine xsu ?_; try exact xtI))))
    (try (refine ⟨by kernel_rfl, ?_⟩))
    (iterate 2 ((try simp (etaStruct := .none) only [push_cast, DrawG, Int.cast_ofNat_Int, seval, hup]); (try (refine xsu ?_; try exact xtI))))
    exact xrz rfl
 ·(try replace h1 := xhh h1)
  simp at h1
theorem rturn_o (w : Wld) (l : List Ord) (hl : wldL w) (hll : l.length ≤ 9223372036854775807) (h : ordsE l ≠ 0) : Spec Tryz.prog 8 [wldA w, .c (.sl 6 (l.map ordP))] [] (.tup [wldA default, repA [] [] [], I .i64 (ordsE l)]) [] := by
 refine spec_am Tryz.func8 rfl rfl mix 66 rfl [.cell 4 28, .cell 5 32, .tmp 6] Tryz.results8 (Nat.le_of_ble_eq_true rfl) ?_
 (try (refine xst ?_; try exact xtI))
 refine caP (orights_s l hll) ?_
 (try (refine xst ?_; try exact xtI))
 refine cond_i (fun h1 => ?_) (fun h1 => ?_)
 ·(try replace h1 := xhh h1)
  exact absurd h1 h
 ·(try replace h1 := xhh h1)
  (try (refine xst ?_; try exact xtI))
  refine cond_i (fun h2 => ?_) (fun h2 => ?_)
  ·(try replace h2 := xhh h2)
   exact absurd h2.1 h
  ·(try replace h2 := xhh h2)
   (try (refine xst ?_; try exact xtI))
   refine cond_i (fun h3 => ?_) (fun h3 => ?_)
   ·(try replace h3 := xhh h3)
    (try (refine xst ?_; try exact xtI))
    exact xrz rfl
   ·(try replace h3 := xhh h3)
    exact absurd h3 h
theorem rturn_w (w : Wld) (l : List Ord) (hl : wldL w) (hll : l.length ≤ 9223372036854775807) (ho : ordsE l = 0) (h : worldE w ≠ 0) : Spec Tryz.prog 8 [wldA w, .c (.sl 6 (l.map ordP))] [] (.tup [wldA default, repA [] [] [], I .i64 (worldE w)]) [] := by
 have OR := orights_s l hll
 rw [ho] at OR
 refine spec_am Tryz.func8 rfl rfl mix 66 rfl [.cell 4 28, .cell 5 32, .tmp 6] Tryz.results8 (Nat.le_of_ble_eq_true rfl) ?_
 (try (refine xst ?_; try exact xtI))
 refine caP (OR) ?_
 (try (refine xst ?_; try exact xtI))
 refine cond_i (fun h1 => ?_) (fun h1 => ?_)
 ·(try replace h1 := xhh h1)
  (try (refine xst ?_; try exact xtI))
  refine caP (wright_s w hl) ?_
  (try (refine xst ?_; try exact xtI))
  refine cond_i (fun h2 => ?_) (fun h2 => ?_)
  ·(try replace h2 := xhh h2)
   exact absurd h2.1 h
  ·(try replace h2 := xhh h2)
   (try (refine xst ?_; try exact xtI))
   refine cond_i (fun h3 => ?_) (fun h3 => ?_)
   ·(try replace h3 := xhh h3)
    (try (refine xst ?_; try exact xtI))
    exact xrz rfl
   ·(try replace h3 := xhh h3)
    exact absurd h3 h
 ·(try replace h1 := xhh h1)
  simp at h1
theorem rturn_f (w : Wld) (l : List Ord) (hl : wldL w) (hll : l.length ≤ 9223372036854775807) (ho : ordsE l = 0) (hw : worldE w = 0) (hn : 1000000 ≤ w.now) : Spec Tryz.prog 8 [wldA w, .c (.sl 6 (l.map ordP))] [] (.tup [wldA default, repA [] [] [], I .i64 6]) [] := by
 have OR := orights_s l hll
 rw [ho] at OR
 have WRI := wright_s w hl
 rw [hw] at WRI
 have hnw := (right_of hw).nw
 refine spec_am Tryz.func8 rfl rfl mix 66 rfl [.cell 4 28, .cell 5 32, .tmp 6] Tryz.results8 (Nat.le_of_ble_eq_true rfl) ?_
 (try (refine xst ?_; try exact xtI))
 refine caP (OR) ?_
 (try (refine xst ?_; try exact xtI))
 refine cond_i (fun h1 => ?_) (fun h1 => ?_)
 ·(try replace h1 := xhh h1)
  (try (refine xst ?_; try exact xtI))
  refine caP (WRI) ?_
  (try (refine xst ?_; try exact xtI))
  refine cond_i (fun h2 => ?_) (fun h2 => ?_)
  ·(try replace h2 := xhh h2)
   (try (refine xst ?_; try exact xtI))
   refine cond_i (fun h3 => ?_) (fun h3 => ?_)
   ·(try replace h3 := xhh h3)
    (try (refine xst ?_; try exact xtI))
    exact xrz rfl
   ·(try replace h3 := xhh h3)
    simp at h3
  ·(try replace h2 := xhh h2)
   omega
 ·(try replace h1 := xhh h1)
  simp at h1
def turnW (WR : Cel → List Int) (w : Wld) (l : List Ord) : Wld := if turnE l w = 0 then turnV WR w l else default
def turnGR (w : Wld) (l : List Ord) : List Int := if turnE l w = 0 then turnG w l else []
def turnMR (WR : Cel → List Int) (w : Wld) (l : List Ord) : List Int := if turnE l w = 0 then turnM WR w l else []
def turnDR (WR : Cel → List Int) (w : Wld) (l : List Ord) : List Bool := if turnE l w = 0 then turnD WR w l else []
theorem tturn_s (w : Wld) (l : List Ord) (WR : Cel → List Int) (hWR : ∀ a, FloodIs w.f [a] (WR a)) (hl : wldL w) (hll : l.length ≤ 9223372036854775807) : Spec Tryz.prog 7 [wldA w, .c (.sl 6 (l.map ordP))] [] (.tup [wldA (turnW WR w l), repA (turnGR w l) (turnMR WR w l) (turnDR WR w l), I .i64 (turnE l w)]) [] := by
 unfold turnW turnGR turnMR turnDR
 by_cases h : turnE l w = 0
 ·rw [if_pos h, if_pos h, if_pos h, if_pos h, h]; exact tturn_k w l WR hWR hll h
 ·rw [if_neg h, if_neg h, if_neg h, if_neg h]
  by_cases hs : splitE l w = 0
  ·have hn : 1000000 ≤ w.now := by
    unfold turnE at h; rw [if_neg (by simp [hs])] at h; split at h; assumption; exact absurd rfl h
   rw [show turnE l w = 6 from by unfold turnE; rw [if_neg (by simp [hs]), if_pos hn]]; exact tturn_f w l hl hll hs hn
  ·rw [show turnE l w = splitE l w from by unfold turnE; rw [if_pos hs]]; exact tturn_e w l hl hll hs
theorem rturn_s (w : Wld) (l : List Ord) (WR : Cel → List Int) (hWR : ∀ a, FloodIs w.f [a] (WR a)) (hl : wldL w) (hll : l.length ≤ 9223372036854775807) : Spec Tryz.prog 8 [wldA w, .c (.sl 6 (l.map ordP))] [] (.tup [wldA (turnW WR w l), repA (turnGR w l) (turnMR WR w l) (turnDR WR w l), I .i64 (turnE l w)]) [] := by
 unfold turnW turnGR turnMR turnDR
 by_cases h : turnE l w = 0
 ·rw [if_pos h, if_pos h, if_pos h, if_pos h, h]; exact rturn_k w l WR hWR hll h
 ·rw [if_neg h, if_neg h, if_neg h, if_neg h]
  by_cases hs : splitE l w = 0
  ·have hn : 1000000 ≤ w.now := by
    unfold turnE at h; rw [if_neg (by simp [hs])] at h; split at h; assumption; exact absurd rfl h
   obtain ⟨ho, hw⟩ := splitE_ok hs
   rw [show turnE l w = 6 from by unfold turnE; rw [if_neg (by simp [hs]), if_pos hn]]; exact rturn_f w l hl hll ho hw hn
  ·rw [show turnE l w = splitE l w from by unfold turnE; rw [if_pos hs]]
   by_cases ho : ordsE l = 0
   ·rw [splitE_o ho] at hs ⊢; exact rturn_w w l hl hll ho hs
   ·rw [splitE_n ho]; exact rturn_o w l hl hll ho
theorem turn_lens (WR : Cel → List Int) (w : Wld) (l : List Ord) : (turnGR w l).length ≤ 100 ∧ (turnMR WR w l).length ≤ 100 ∧ (turnDR WR w l).length ≤ 100 := by
 unfold turnGR turnMR turnDR
 by_cases h : turnE l w = 0
 ·rw [if_pos h, if_pos h, if_pos h]
  have hs : splitE l w = 0 := by unfold turnE at h; split at h; rename_i h1; exact absurd h h1; rename_i h1; simpa using h1
  obtain ⟨ho, hw⟩ := splitE_ok hs
  have R0 := right_of hw
  have RA := right_tkA R0 l
  obtain ⟨n1, n2, n3⟩ := split_lens (w := w) ho
  refine ⟨?_, ?_, ?_⟩
  ·unfold turnG goneV
   rw [List.length_map]
   refine Nat.le_trans (List.length_filter_le _ _) ?_
   rw [List.length_map]; exact R0.nt
  ·exact Nat.le_trans (marchK_len w.f WR (goesV l w) (tkA w l).troops _).2 RA.nt
  ·unfold turnD; rw [deedsA_len]; exact n3
 ·rw [if_neg h, if_neg h, if_neg h]; simp
theorem bool_eqn (a b : Bool) : decide (a = b) = decide (a = b) := rfl
theorem bool_eq (l m : List Bool) (hl : l.length ≤ 9223372036854775807) (hm : m.length ≤ 9223372036854775807) : Spec Tryz.prog 39 [.c (.sl 1 (l.map boolP)), .c (.sl 1 (m.map boolP))] [] (B (decide (l = m))) [] := by
 refine spec_am Tryz.func39 rfl rfl mix 26 rfl [.tmp 4] Tryz.results39 (Nat.le_of_ble_eq_true rfl) ?_
 (try (refine xst ?_; try exact xtI))
 refine cond_i (fun h1 => ?_) (fun h1 => ?_)
 ·(try replace h1 := xhh h1)
  have e : l ≠ m := by intro e; subst e; simp at h1
  (try (refine xst ?_; try exact xtI))
  exact ret0 rfl trivial (Wk.of (by rw [decide_eq_false e]; rfl))
 ·(try replace h1 := xhh h1)
  (try (refine xst ?_; try exact xtI))
  refine loopI (fun k : Nat => ⟨[(13, I .i64 k), (12, I .i64 l.length), (1, .c (.sl 1 (m.map boolP))), (0, .c (.sl 1 (l.map boolP)))], [], 0⟩) (fun k : Nat => k ≤ l.length ∧ ∀ j, j < k → l.getD j default = m.getD j default) (fun k : Nat => l.length - k) (0) (⟨Nat.zero_le _, fun j h => by omega⟩) (To.mk [] rfl rfl List.nodup_nil trivial ?_) ?_
  ·simp (etaStruct := .none) only [push_cast, DrawG, Int.cast_ofNat_Int, seval]
  rintro k ⟨hk, hn⟩
  (try (refine xst ?_; try exact xtI))
  refine cond_i (fun h2 => ?_) (fun h2 => ?_)
  ·(try replace h2 := xhh h2)
   have hlt : k < l.length := by omega
   have hlt2 : k < m.length := by omega
   (iterate 2 ((try simp (etaStruct := .none) only [push_cast, DrawG, Int.cast_ofNat_Int, seval, getD_in _ _ _ hlt, getD_in _ _ _ hlt2, boolP, bool_eqn]); (try (refine xsu ?_; try exact xtI))))
   (try (refine ⟨by kernel_rfl, ?_⟩))
   (iterate 2 ((try simp (etaStruct := .none) only [push_cast, DrawG, Int.cast_ofNat_Int, seval, getD_in _ _ _ hlt, getD_in _ _ _ hlt2, boolP, bool_eqn]); (try (refine xsu ?_; try exact xtI))))
   refine cond_i (fun h3 => ?_) (fun h3 => ?_)
   ·(try replace h3 := xhh h3)
    have e : l ≠ m := by intro e; subst e; simp at h3
    (iterate 2 ((try simp (etaStruct := .none) only [push_cast, DrawG, Int.cast_ofNat_Int, seval, getD_in _ _ _ hlt, getD_in _ _ _ hlt2, boolP, bool_eqn]); (try (refine xsu ?_; try exact xtI))))
    exact ret0 rfl trivial (Wk.of (by rw [decide_eq_false e]; rfl))
   ·(try replace h3 := xhh h3)
    (iterate 2 ((try simp (etaStruct := .none) only [push_cast, DrawG, Int.cast_ofNat_Int, seval, getD_in _ _ _ hlt, getD_in _ _ _ hlt2, boolP, bool_eqn]); (try (refine xsu ?_; try exact xtI))))
    refine ⟨k + 1, ⟨by omega, fun j hj => by rcases Nat.lt_or_ge j k with h | h; exact hn j h; rw [show j = k by omega]; simpa using h3⟩, by omega, To.mk [] rfl rfl List.nodup_nil trivial ?_⟩
    ·(iterate 2 ((try simp (etaStruct := .none) only [push_cast, DrawG, Int.cast_ofNat_Int, seval, getD_in _ _ _ hlt, getD_in _ _ _ hlt2, boolP, bool_eqn]); (try (refine xsu ?_; try exact xtI))))
  ·(try replace h2 := xhh h2)
   have e : l = m := by
    refine List.ext_getElem (by omega) fun i i1 i2 => ?_
    have := hn i (by omega)
    rwa [getD_at _ _ i1, getD_at _ _ i2] at this
   (try (refine xst ?_; try exact xtI))
   exact ret0 rfl trivial (Wk.of (by rw [decide_eq_true e]; rfl))
theorem sameRep_s (g m : List Int) (d : List Bool) (hg : g.length ≤ 100) (hm : m.length ≤ 100) (hd : d.length ≤ 100) : Spec Tryz.prog 10 [repA g m d, repA g m d] [] (B true) [] := by
 refine spec_am Tryz.func10 rfl rfl mix 24 rfl [.tmp 4] Tryz.results10 (Nat.le_of_ble_eq_true rfl) ?_
 (try (refine xst ?_; try exact xtI))
 refine caP (int_eq g g (by omega) (by omega)) ?_
 (try (refine xst ?_; try exact xtI))
 refine gcP (fun hcc => int_eq m m (by omega) (by omega)) ?_
 (try (refine xst ?_; try exact xtI))
 refine gcP (fun hcc => bool_eq d d (by omega) (by omega)) ?_
 (try (refine xst ?_; try exact xtI))
 exact xrz rfl
end Go.Proofs.YthiddmncjafklaaGreat
namespace Go.Proofs.YthiddmncjafklaaGreat
set_option linter.all false
open Go.RowKit Go.ChangeShapes Go.WideShapes Go.ChangeAt
def RelCs (w : World) (ps : List PV) (cs : List Value) : Prop := ∀ (j : Nat) p u, ps[j]? = some p → cs[j]? = some u → RelP w (· < w.heap.size) p u
theorem RelCs.nil {w : World} : RelCs w [] [] := fun j p u h => by simp at h
theorem RelCs.cons {w : World} {p : PV} {u : Value} {ps : List PV} {cs : List Value} (h : RelP w (· < w.heap.size) p u) (h' : RelCs w ps cs) : RelCs w (p :: ps) (u :: cs) := by
 intro j q v h1 h2
 cases j with
 | zero => simp at h1 h2; subst h1 h2; exact h
 | succ j => exact h' j q v (by simpa using h1) (by simpa using h2)
theorem RelCs.append {w : World} : ∀ {ps qs : List PV} {cs ds : List Value}, ps.length = cs.length → RelCs w ps cs → RelCs w qs ds → RelCs w (ps ++ qs) (cs ++ ds)
 | [], _, [], _, _, _, h => h
 | [], _, _ :: _, _, hl, _, _ => by simp at hl
 | _ :: _, _, [], _, hl, _, _ => by simp at hl
 | p :: ps, qs, c :: cs, ds, hl, h, h' => by
  refine RelCs.cons (h 0 p c rfl rfl) (RelCs.append (by simpa using hl) (fun j q v h1 h2 => h (j + 1) q v (by simpa using h1) (by simpa using h2)) h')
def OpA (P : Program) (T sz : Nat) (w : World) {α : Type} (pv : α → List PV) (ok : α → Prop) : Prop :=
 ∃ (β : Type) (enc : β → List Value) (okb : β → Prop) (f : β → α), Opens P T sz w enc okb ∧ ∀ y, okb y → ok (f y) ∧ (pv (f y)).length = sz ∧ (enc y).length = sz ∧ RelCs w (pv (f y)) (enc y)
section
variable {P : Program} {T : Nat} {w : World}
theorem OpA.i64 (h : P.underlying T = some (.int .i64)) : OpA P T 1 w i64P In64 :=
 ⟨_, _, _, id, Opens.i64 h, fun y hy => ⟨hy, rfl, rfl, .cons (relP_v rfl) .nil⟩⟩
theorem OpA.u64 (h : P.underlying T = some (.int .u64)) : OpA P T 1 w u64P (fun n => n < 18446744073709551616) :=
 ⟨_, _, _, id, Opens.u64 h, fun y hy => ⟨hy, rfl, rfl, .cons (relP_v rfl) .nil⟩⟩
def u32P (n : Nat) : List PV := [.v (.int .u32 n)]
theorem OpA.u32 (h : P.underlying T = some (.int .u32)) : OpA P T 1 w u32P (fun n => n < 4294967296) :=
 ⟨_, _, _, id, Opens.u32 h, fun y hy => ⟨hy, rfl, rfl, .cons (relP_v rfl) .nil⟩⟩
theorem OpA.bool (h : P.underlying T = some .bool) : OpA P T 1 w boolP (fun _ => True) :=
 ⟨_, _, _, id, Opens.bool h, fun y hy => ⟨hy, rfl, rfl, .cons (relP_v rfl) .nil⟩⟩
theorem OpA.str (h : P.underlying T = some .string) : OpA P T 1 w strP (fun s => s.size ≤ 140737488351232) :=
 ⟨_, _, _, id, Opens.str h, fun y hy => ⟨hy, rfl, rfl, .cons (relP_v rfl) .nil⟩⟩
theorem OpA.map {sz : Nat} {α β : Type} {pv : α → List PV} {ok : α → Prop} {pv' : β → List PV} {ok' : β → Prop} (h : OpA P T sz w pv ok) (f : α → β) (hf : ∀ x, pv' (f x) = pv x) (hok : ∀ x, ok x → ok' (f x)) : OpA P T sz w pv' ok' := by
 obtain ⟨γ, enc, okb, g, h1, h2⟩ := h
 exact ⟨γ, enc, okb, fun y => f (g y), h1, fun y hy => by obtain ⟨a, b, c, d⟩ := h2 y hy; exact ⟨hok _ a, by rw [hf]; exact b, c, by rw [hf]; exact d⟩⟩
theorem OpA.slice {E sz bts : Nat} {α : Type} {pv : α → List PV} {ok : α → Prop} (hT : P.underlying T = some (.slice E)) (hc : P.cellsOf E = sz) (hsz : 0 < sz) (hby : P.bytesOf E = bts) (hE : OpA P E sz w pv ok) :
 OpA P T 1 w (fun xs : List α => [.sl sz (xs.map pv)]) (fun xs => (∀ x ∈ xs, ok x) ∧ xs.length * bts ≤ 140737488351232 ∧ xs.length ≤ 9223372036854775807) := by
 obtain ⟨γ, enc, okb, g, h1, h2⟩ := hE
 refine ⟨_, _, _, fun s => s.xs.map g, Opens.slice hT hc hsz hby h1, fun s hs => ⟨⟨?_, ?_, ?_⟩, rfl, rfl, ?_⟩⟩
 ·intro x hx
  obtain ⟨y, hy, rfl⟩ := List.mem_map.1 hx
  exact (h2 y (hs.each y hy).1).1
 ·have := hs.reach
  have h3 : s.xs.length * bts ≤ s.c * bts := Nat.mul_le_mul_right _ hs.cap
  simp only [List.length_map]; omega
 ·have h3 := hs.cap; have h4 := hs.max; unfold maxLen at h4; simp only [List.length_map]; omega
 ·refine .cons ?_ .nil
  have := rel_sl (pv := fun y => pv (g y)) hs fun y hy ho => by
   obtain ⟨_, a, b, d⟩ := h2 y ho
   exact ⟨a, d⟩
  simpa [List.map_map, Function.comp_def] using this
def OpAF (P : Program) (w : World) (fs : List Field) (o sz : Nat) {α : Type} (pv : α → List PV) (ok : α → Prop) : Prop :=
 ∃ (β : Type) (enc : β → List Value) (okb : β → Prop) (f : β → α), OpensF P w fs o sz enc okb ∧ ∀ y, okb y → ok (f y) ∧ (pv (f y)).length = sz ∧ (enc y).length = sz ∧ RelCs w (pv (f y)) (enc y)
theorem OpAF.nil {o : Nat} : OpAF P w [] o 0 (fun _ : Unit => []) (fun _ => True) :=
 ⟨_, _, _, id, OpensF.nil, fun y hy => ⟨trivial, rfl, rfl, .nil⟩⟩
theorem OpAF.cons {f : Field} {fs : List Field} {o n sz : Nat} {α β : Type} {pv : α → List PV} {ok : α → Prop} {pv' : β → List PV} {ok' : β → Prop}
 (ho : f.offset = o) (hn : P.cellsOf f.type = n) (h : OpA P f.type n w pv ok) (h' : OpAF P w fs (o + n) sz pv' ok') :
 OpAF P w (f :: fs) o (n + sz) (fun x : α × β => pv x.1 ++ pv' x.2) (fun x => ok x.1 ∧ ok' x.2) := by
 obtain ⟨γ, enc, okb, g, h1, h2⟩ := h
 obtain ⟨γ', enc', okb', g', h1', h2'⟩ := h'
 refine ⟨_, _, _, fun y => (g y.1, g' y.2), OpensF.cons ho hn h1 h1', fun y hy => ?_⟩
 obtain ⟨a, b, c, d⟩ := h2 y.1 hy.1
 obtain ⟨a', b', c', d'⟩ := h2' y.2 hy.2
 exact ⟨⟨a, a'⟩, by simp [b, b'], by simp [c, c'], .append (by rw [b, c]) d d'⟩
theorem OpA.struct {sz : Nat} {fs : Array Field} {α : Type} {pv : α → List PV} {ok : α → Prop} (hT : P.underlying T = some (.struct fs)) (hc : P.cellsOf T = sz) (h : OpAF P w fs.toList 0 sz pv ok) : OpA P T sz w pv ok := by
 obtain ⟨γ, enc, okb, g, h1, h2⟩ := h
 exact ⟨γ, enc, okb, g, Opens.struct hT hc h1, h2⟩
theorem OpA.arg {sz : Nat} {α : Type} {pv : α → List PV} {ok : α → Prop} (h : OpA P T sz w pv ok) {H : Type} {eH : TypeId × Value → H} {v : Value} {d : DataW H} {p : List MemPlace}
 (hT : DataW.Trod eH P w 0 (fun _ => true) true T v d p) {ts : List TypeId} {ds : List (DataW H)} (hz : (DataW.weightsEach P ts ds).all (· ≤ reachBytes) = true) (j : Nat) (h1 : ts[j]? = some T) (h2 : ds[j]? = some d) : ∃ x : α, ok x ∧ (pv x).length = v.cells.toList.length ∧ RelCs w (pv x) v.cells.toList := by
 obtain ⟨γ, enc, okb, g, k1, k2⟩ := h
 obtain ⟨y, hy, ho⟩ := Opens.arg k1 hT hz j h1 h2
 obtain ⟨a, b, c, e⟩ := k2 y ho
 exact ⟨g y, a, by rw [hy, b, c], by rw [hy]; exact e⟩
theorem rel_one {p : PV} {v : Value} (hv : v.cells = #[v]) (hr : RelCs w [p] v.cells.toList) : RelA (· < 0) w (· < w.heap.size) (fun _ => none) (.c p) v :=
 relA_c (hr 0 p v rfl (by rw [hv]; rfl))
theorem relL_of_cs {U : Nat → Prop} {β : Nat → Option Bind} : ∀ {ps : List PV} {cs : List Value}, ps.length = cs.length → RelCs w ps cs → RelL U w (· < w.heap.size) β (ps.map .c) cs
 | [], [], _, _ => relL_nil
 | [], _ :: _, h, _ => by simp at h
 | _ :: _, [], h, _ => by simp at h
 | p :: ps, c :: cs, h, hr => by
  rw [List.map_cons]
  exact relL_cons (relA_c (hr 0 p c rfl rfl)) (relL_of_cs (by simpa using h) fun j q v h1 h2 => hr (j + 1) q v (by simpa using h1) (by simpa using h2))
theorem rel_agg {ps : List PV} {v : Value} {cs : List Value} (hv : v = .agg cs.toArray) (hl : ps.length = v.cells.toList.length) (hr : RelCs w ps v.cells.toList) : RelA (· < 0) w (· < w.heap.size) (fun _ => none) (.agg (ps.map .c)) v := by
 subst hv
 have e : (Value.agg cs.toArray).cells.toList = cs := rfl
 rw [e] at hl hr
 refine relA_agg (relL_of_cs hl hr) fun x hx => ?_
 obtain ⟨j, hj, rfl⟩ := List.getElem_of_mem hx
 exact (hr j ps[j] cs[j] (by simp) (by simp)).one
theorem one_slice {base e : Nat} {v : Value} (ht : P.underlying T = some (.slice e)) (h : Value.okWide P w .any base T v) : v.cells = #[v] := by obtain ⟨a, l, c, rfl⟩ := okWide_slice ht h; rfl
end
end Go.Proofs.YthiddmncjafklaaGreat
