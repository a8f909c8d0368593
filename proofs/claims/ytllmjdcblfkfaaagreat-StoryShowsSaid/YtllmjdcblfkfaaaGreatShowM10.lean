/- StoryShows: whatever story and number are handed in, Root and Show answer what the document says. No condition. -/
import Derived.Test.YtllmjdcblfkfaaaGreatShowM9
import Derived.Test.YtllmjdcblfkfaaaGreatShowM1
import Derived.Test.YtllmjdcblfkfaaaGreatChecked
import Derived.Test.YtllmjdcblfkfaaaGreatRows
namespace Go.Proofs.YtllmjdcblfkfaaaGreat
set_option linter.all false
open Go.RowKit Go.ChangeShapes Go.WideShapes Go.ChangeAt
set_option maxRecDepth 100000
theorem opInts (w : World) : OpA Tryz.prog 22 1 w (fun xs : List Int => [.sl 1 (xs.map i64P)]) (fun xs => (∀ x ∈ xs, In64 x) ∧ xs.length * 8 ≤ 140737488351232 ∧ xs.length ≤ 9223372036854775807) :=
 OpA.slice Tryz.underlying22 (by kernel_rfl) (by decide) (by kernel_rfl) (OpA.i64 Tryz.underlying3)
theorem opCel (w : World) : OpA Tryz.prog 68 2 w celP (fun c => In64 c.x ∧ In64 c.y) :=
 (OpA.struct Tryz.underlying68 (by kernel_rfl) (OpAF.cons rfl rfl (OpA.i64 Tryz.underlying3) (OpAF.cons rfl rfl (OpA.i64 Tryz.underlying3) OpAF.nil))).map (fun x => ⟨x.1, x.2.1⟩) (fun _ => rfl) (fun _ h => ⟨h.1, h.2.1⟩)
def fldP (f : Fld) : List PV := [pI f.w, pI f.h, .sl 1 (f.p.map i64P)]
theorem opFld (w : World) : OpA Tryz.prog 24 3 w fldP (fun f => In64 f.w ∧ In64 f.h ∧ (∀ x ∈ f.p, In64 x) ∧ f.p.length * 8 ≤ 140737488351232 ∧ f.p.length ≤ 9223372036854775807) :=
 (OpA.struct Tryz.underlying24 (by kernel_rfl) (OpAF.cons rfl rfl (OpA.i64 Tryz.underlying3) (OpAF.cons rfl rfl (OpA.i64 Tryz.underlying3) (OpAF.cons rfl rfl (opInts w) OpAF.nil)))).map (fun x => ⟨x.1, x.2.1, x.2.2.1⟩) (fun _ => rfl) (fun _ h => ⟨h.1, h.2.1, h.2.2.1⟩)
def wldP (w : Wld) : List PV := [pI w.f.w, pI w.f.h, .sl 1 (w.f.p.map i64P), .sl 2 (w.bases.map celP), .sl 1 (w.stocks.map i64P), .sl 1 (w.mines.map i64P), .sl 7 (w.troops.map trpP), pI w.next, pI w.now]
def trpG (t : Trp) : Prop := In64 t.id ∧ In64 t.owner ∧ In64 t.kind ∧ In64 t.c.x ∧ In64 t.c.y ∧ In64 t.life ∧ In64 t.load
def wldG (w : Wld) : Prop := wldL w ∧ In64 w.f.w ∧ In64 w.f.h ∧ (∀ x ∈ w.f.p, In64 x) ∧ (∀ x ∈ w.bases, In64 x.x ∧ In64 x.y) ∧ (∀ x ∈ w.stocks, In64 x) ∧ (∀ x ∈ w.mines, In64 x) ∧ (∀ x ∈ w.troops, trpG x) ∧ In64 w.next ∧ In64 w.now
theorem opTrp (w : World) : OpA Tryz.prog 83 7 w trpP trpG :=
 (OpA.struct Tryz.underlying83 (by kernel_rfl) (OpAF.cons rfl rfl (OpA.i64 Tryz.underlying3) (OpAF.cons rfl rfl (OpA.i64 Tryz.underlying3) (OpAF.cons rfl rfl (OpA.i64 Tryz.underlying3) (OpAF.cons rfl rfl (opCel w) (OpAF.cons rfl rfl (OpA.i64 Tryz.underlying3) (OpAF.cons rfl rfl (OpA.i64 Tryz.underlying3) OpAF.nil))))))).map (fun x => ⟨x.1, x.2.1, x.2.2.1, x.2.2.2.1, x.2.2.2.2.1, x.2.2.2.2.2.1⟩) (fun _ => rfl) (fun x h => ⟨h.1, h.2.1, h.2.2.1, h.2.2.2.1.1, h.2.2.2.1.2, h.2.2.2.2.1, h.2.2.2.2.2.1⟩)
theorem opCels (w : World) : OpA Tryz.prog 25 1 w (fun xs : List Cel => [.sl 2 (xs.map celP)]) (fun xs => (∀ x ∈ xs, In64 x.x ∧ In64 x.y) ∧ xs.length * 16 ≤ 140737488351232 ∧ xs.length ≤ 9223372036854775807) :=
 OpA.slice Tryz.underlying25 (by kernel_rfl) (by decide) (by kernel_rfl) (opCel w)
theorem opTrps (w : World) : OpA Tryz.prog 26 1 w (fun xs : List Trp => [.sl 7 (xs.map trpP)]) (fun xs => (∀ x ∈ xs, trpG x) ∧ xs.length * 56 ≤ 140737488351232 ∧ xs.length ≤ 9223372036854775807) :=
 OpA.slice Tryz.underlying26 (by kernel_rfl) (by decide) (by kernel_rfl) (opTrp w)
theorem opWld (w : World) : OpA Tryz.prog 28 9 w wldP wldG :=
 (OpA.struct Tryz.underlying28 (by kernel_rfl) (OpAF.cons rfl rfl (opFld w) (OpAF.cons rfl rfl (opCels w) (OpAF.cons rfl rfl (opInts w) (OpAF.cons rfl rfl (opInts w) (OpAF.cons rfl rfl (opTrps w) (OpAF.cons rfl rfl (OpA.i64 Tryz.underlying3) (OpAF.cons rfl rfl (OpA.i64 Tryz.underlying3) OpAF.nil)))))))).map (fun x => ⟨x.1, x.2.1, x.2.2.1, x.2.2.2.1, x.2.2.2.2.1, x.2.2.2.2.2.1, x.2.2.2.2.2.2.1⟩) (fun _ => rfl)
  (fun x h => ⟨⟨h.1.2.2.2.2, h.2.1.2.2, h.2.2.1.2.2, h.2.2.2.1.2.2, h.2.2.2.2.1.2.2⟩, h.1.1, h.1.2.1, h.1.2.2.1, h.2.1.1, h.2.2.1.1, h.2.2.2.1.1, h.2.2.2.2.1.1, h.2.2.2.2.2.1, h.2.2.2.2.2.2.1⟩)
theorem opOrd (w : World) : OpA Tryz.prog 70 6 w ordP (fun _ => True) :=
 (OpA.struct Tryz.underlying70 (by kernel_rfl) (OpAF.cons rfl rfl (OpA.i64 Tryz.underlying3) (OpAF.cons rfl rfl (OpA.i64 Tryz.underlying3) (OpAF.cons rfl rfl (OpA.i64 Tryz.underlying3) (OpAF.cons rfl rfl (opCel w) (OpAF.cons rfl rfl (OpA.i64 Tryz.underlying3) OpAF.nil)))))).map (fun x => ⟨x.1, x.2.1, x.2.2.1, x.2.2.2.1, x.2.2.2.2.1⟩) (fun _ => rfl) (fun _ _ => trivial)
theorem opOrds (w : World) : OpA Tryz.prog 53 1 w ordsP (fun xs => (∀ x ∈ xs, True) ∧ xs.length * 48 ≤ 140737488351232 ∧ xs.length ≤ 9223372036854775807) :=
 OpA.slice Tryz.underlying53 (by kernel_rfl) (by decide) (by kernel_rfl) (opOrd w)
def ordssG (ts : List (List Ord)) : Prop := (∀ l ∈ ts, (∀ x ∈ l, True) ∧ l.length * 48 ≤ 140737488351232 ∧ l.length ≤ 9223372036854775807) ∧ ts.length * 24 ≤ 140737488351232 ∧ ts.length ≤ 9223372036854775807
theorem ordssG.in_ {ts : List (List Ord)} (h : ordssG ts) : ∀ l ∈ ts, l.length ≤ 9223372036854775807 := fun l hl => (h.1 l hl).2.2
theorem opOrdss (w : World) : OpA Tryz.prog 29 1 w (fun ts : List (List Ord) => [.sl 1 (ts.map ordsP)]) ordssG :=
 OpA.slice Tryz.underlying29 (by kernel_rfl) (by decide) (by kernel_rfl) (opOrds w)
end Go.Proofs.YtllmjdcblfkfaaaGreat
namespace Go.Proofs.YtllmjdcblfkfaaaGreat
set_option linter.all false
open Go.RowKit Go.ChangeShapes Go.WideShapes Go.ChangeAt
namespace storyShows
set_option maxRecDepth 100000
set_option maxHeartbeats 1000000
theorem u64_same (l : List Nat) (hl : l.length ≤ 9223372036854775807) : Spec Tryz.prog 10 [.c (.sl 1 (l.map u64P)), .c (.sl 1 (l.map u64P))] [] (B true) [] := by
 have h := u64_eq l l hl hl
 rwa [decide_eq_true rfl] at h
theorem sroot_bad (s : Sty) (n : Int) (E : Int) (hE : E ≠ 0) (C : Spec Tryz.prog 12 [styA s] [] (I .i64 E) []) : Spec Tryz.prog 4 [styA s, I .i64 n] [] (.tup [.c (.v (.int .u64 0)), I .i64 E]) [] := by
 refine spec_am Tryz.func4 rfl rfl mix 29 rfl [.tmp 4, .tmp 5] Tryz.results4 (Nat.le_of_ble_eq_true rfl) ?_
 (try (refine xst ?_; try exact xtI))
 refine caP (C) ?_
 (try (refine xst ?_; try exact xtI))
 refine cond_i (fun h1 => ?_) (fun h1 => ?_)
 ·(try replace h1 := xhh h1)
  (try (refine xst ?_; try exact xtI))
  exact xrz rfl
 ·(try replace h1 := xhh h1)
  exact absurd h1 hE
theorem sroot_arg (s : Sty) (n : Int) (hl : StyL s) (h : n < 0 ∨ (s.turns.length : Int) < n) (C : Spec Tryz.prog 12 [styA s] [] (I .i64 0) []) : Spec Tryz.prog 4 [styA s, I .i64 n] [] (.tup [.c (.v (.int .u64 0)), I .i64 1]) [] := by
 have hn := hl.n
 refine spec_am Tryz.func4 rfl rfl mix 29 rfl [.tmp 4, .tmp 5] Tryz.results4 (Nat.le_of_ble_eq_true rfl) ?_
 (try (refine xst ?_; try exact xtI))
 refine caP (C) ?_
 (try (refine xst ?_; try exact xtI))
 refine cond_i (fun h1 => ?_) (fun h1 => ?_)
 ·(try replace h1 := xhh h1)
  simp at h1
 ·(try replace h1 := xhh h1)
  (try (refine xst ?_; try exact xtI))
  refine cond_i (fun h2 => ?_) (fun h2 => ?_)
  ·(try replace h2 := xhh h2)
   (try (refine xst ?_; try exact xtI))
   exact xrz rfl
  ·(try replace h2 := xhh h2)
   omega
theorem sroot_ok (s : Sty) (n : Int) (hl : StyL s) (hn : s.turns.length ≤ 256) (h : ¬ (n < 0 ∨ (s.turns.length : Int) < n)) (C : Spec Tryz.prog 12 [styA s] [] (I .i64 0) []) : Spec Tryz.prog 4 [styA s, I .i64 n] [] (.tup [.c (.v (.int .u64 (rootN ((txtV s.turns).take n.toNat) : Nat))), I .i64 0]) [] := by
 have ht : (s.turns.map ordsP).take n.toNat = (s.turns.take n.toNat).map ordsP := List.map_take.symm
 have hx : (txtV s.turns).take n.toNat = txtV (s.turns.take n.toNat) := by unfold txtV; rw [List.map_take]
 rw [hx]
 refine spec_am Tryz.func4 rfl rfl mix 29 rfl [.tmp 4, .tmp 5] Tryz.results4 (Nat.le_of_ble_eq_true rfl) ?_
 (try (refine xst ?_; try exact xtI))
 refine caP (C) ?_
 (try (refine xst ?_; try exact xtI))
 refine cond_i (fun h1 => ?_) (fun h1 => ?_)
 ·(try replace h1 := xhh h1)
  simp at h1
 ·(try replace h1 := xhh h1)
  (try (refine xst ?_; try exact xtI))
  refine cond_i (fun h2 => ?_) (fun h2 => ?_)
  ·(try replace h2 := xhh h2)
   omega
  ·(try replace h2 := xhh h2)
   (iterate 2 ((try simp (etaStruct := .none) only [push_cast, DrawG, seval, ht]); (try (refine xsu ?_; try exact xtI))))
   refine caP (texts_s (s.turns.take n.toNat) (by rw [List.length_take]; omega) (fun l hl' => hl.t l (List.mem_of_mem_take hl'))) ?_
   (iterate 2 ((try simp (etaStruct := .none) only [push_cast, DrawG, seval, ht]); (try (refine xsu ?_; try exact xtI))))
   refine caP (treeRoot_s (txtV (s.turns.take n.toNat)) (by rw [txtV_len, List.length_take]; omega) (txtV_ok _)) ?_
   (iterate 2 ((try simp (etaStruct := .none) only [push_cast, DrawG, seval, ht]); (try (refine xsu ?_; try exact xtI))))
   exact xrz rfl
theorem sshow_bad (s : Sty) (n : Int) (E : Int) (hE : E ≠ 0) (C : Spec Tryz.prog 12 [styA s] [] (I .i64 E) []) : Spec Tryz.prog 5 [styA s, I .i64 n] [] (.tup [S ByteArray.empty, .c (.sl 1 (([] : List Nat).map u64P)), I .i64 E]) [] := by
 refine spec_am Tryz.func5 rfl rfl mix 33 rfl [.tmp 4, .tmp 5, .tmp 6] Tryz.results5 (Nat.le_of_ble_eq_true rfl) ?_
 (try (refine xst ?_; try exact xtI))
 refine caP (C) ?_
 (try (refine xst ?_; try exact xtI))
 refine cond_i (fun h1 => ?_) (fun h1 => ?_)
 ·(try replace h1 := xhh h1)
  (try (refine xst ?_; try exact xtI))
  exact xrz rfl
 ·(try replace h1 := xhh h1)
  exact absurd h1 hE
theorem sshow_none (s : Sty) (n : Int) (hl : StyL s) (hn : s.turns.length ≤ 256) (h : n < 0 ∨ (s.turns.length : Int) ≤ n) (C : Spec Tryz.prog 12 [styA s] [] (I .i64 0) []) : Spec Tryz.prog 5 [styA s, I .i64 n] [] (.tup [S ByteArray.empty, .c (.sl 1 (([] : List Nat).map u64P)), I .i64 7]) [] := by
 have T := Trail_s (txtV s.turns) n (by rw [txtV_len]; omega) (txtV_ok _)
 rw [show trailV (txtV s.turns) n = ([], 7) by unfold trailV; rw [if_neg (by rw [txtV_len]; omega), if_pos (by rw [txtV_len]; omega)]] at T
 refine spec_am Tryz.func5 rfl rfl mix 33 rfl [.tmp 4, .tmp 5, .tmp 6] Tryz.results5 (Nat.le_of_ble_eq_true rfl) ?_
 (try (refine xst ?_; try exact xtI))
 refine caP (C) ?_
 (try (refine xst ?_; try exact xtI))
 refine cond_i (fun h1 => ?_) (fun h1 => ?_)
 ·(try replace h1 := xhh h1)
  simp at h1
 ·(try replace h1 := xhh h1)
  (try (refine xst ?_; try exact xtI))
  refine caP (texts_s s.turns (by omega) hl.t) ?_
  (try (refine xst ?_; try exact xtI))
  refine caP (T) ?_
  (try (refine xst ?_; try exact xtI))
  refine cond_i (fun h2 => ?_) (fun h2 => ?_)
  ·(try replace h2 := xhh h2)
   (try (refine xst ?_; try exact xtI))
   exact xrz rfl
  ·(try replace h2 := xhh h2)
   simp at h2
theorem sshow_ok (s : Sty) (n : Int) (hl : StyL s) (hn : s.turns.length ≤ 256) (h : ¬ (n < 0 ∨ (s.turns.length : Int) ≤ n)) (C : Spec Tryz.prog 12 [styA s] [] (I .i64 0) []) : Spec Tryz.prog 5 [styA s, I .i64 n] [] (.tup [S ((txtV s.turns).getD n.toNat default), .c (.sl 1 ((tr pairN ((txtV s.turns).map leafN) n.toNat).map u64P)), I .i64 0]) [] := by
 have T := Trail_s (txtV s.turns) n (by rw [txtV_len]; omega) (txtV_ok _)
 rw [show trailV (txtV s.turns) n = (tr pairN ((txtV s.turns).map leafN) n.toNat, 0) by unfold trailV; rw [if_neg (by rw [txtV_len]; omega), if_neg (by rw [txtV_len]; omega)]] at T
 have hlt : n.toNat < (txtV s.turns).length := by rw [txtV_len]; omega
 refine spec_am Tryz.func5 rfl rfl mix 33 rfl [.tmp 4, .tmp 5, .tmp 6] Tryz.results5 (Nat.le_of_ble_eq_true rfl) ?_
 (iterate 2 ((try simp (etaStruct := .none) only [push_cast, DrawG, seval, getD_in _ _ _ hlt, strP]); (try (refine xsu ?_; try exact xtI))))
 refine caP (C) ?_
 (iterate 2 ((try simp (etaStruct := .none) only [push_cast, DrawG, seval, getD_in _ _ _ hlt, strP]); (try (refine xsu ?_; try exact xtI))))
 refine cond_i (fun h1 => ?_) (fun h1 => ?_)
 ·(try replace h1 := xhh h1)
  simp at h1
 ·(try replace h1 := xhh h1)
  (iterate 2 ((try simp (etaStruct := .none) only [push_cast, DrawG, seval, getD_in _ _ _ hlt, strP]); (try (refine xsu ?_; try exact xtI))))
  refine caP (texts_s s.turns (by omega) hl.t) ?_
  (iterate 2 ((try simp (etaStruct := .none) only [push_cast, DrawG, seval, getD_in _ _ _ hlt, strP]); (try (refine xsu ?_; try exact xtI))))
  refine caP (T) ?_
  (iterate 2 ((try simp (etaStruct := .none) only [push_cast, DrawG, seval, getD_in _ _ _ hlt, strP]); (try (refine xsu ?_; try exact xtI))))
  refine cond_i (fun h2 => ?_) (fun h2 => ?_)
  ·(try replace h2 := xhh h2)
   simp at h2
  ·(try replace h2 := xhh h2)
   (iterate 2 ((try simp (etaStruct := .none) only [push_cast, DrawG, seval, getD_in _ _ _ hlt, strP]); (try (refine xsu ?_; try exact xtI))))
   exact xrz rfl
theorem law_a (s : Sty) (n : Int) (E : Int) (hE : E ≠ 0) (C : Spec Tryz.prog 12 [styA s] [] (I .i64 E) []) (R : Spec Tryz.prog 6 [styA s] [] (I .i64 E) []) : Spec Tryz.prog 3 [styA s, I .i64 n] [] (B true) [] := by
 have A := sroot_bad s n _ hE C
 have W := sshow_bad s n _ hE C
 refine spec_am Tryz.func3 rfl rfl mix 118 rfl [.tmp 4] Tryz.results3 (Nat.le_of_ble_eq_true rfl) ?_
 (try (refine xst ?_; try exact xtI))
 refine caP (A) ?_
 (try (refine xst ?_; try exact xtI))
 refine caP (W) ?_
 (try (refine xst ?_; try exact xtI))
 refine caP (R) ?_
 (try (refine xst ?_; try exact xtI))
 refine cond_i (fun h1 => ?_) (fun h1 => ?_)
 ·(try replace h1 := xhh h1)
  (try (refine xst ?_; try exact xtI))
  exact xrz rfl
 ·(try replace h1 := xhh h1)
  exact absurd h1 hE
theorem law_b (s : Sty) (n : Int) (hl : StyL s) (C : Spec Tryz.prog 12 [styA s] [] (I .i64 0) []) (R : Spec Tryz.prog 6 [styA s] [] (I .i64 0) []) (h2 : s.turns.length ≤ 200) (h : n < 0 ∨ (s.turns.length : Int) < n) : Spec Tryz.prog 3 [styA s, I .i64 n] [] (B true) [] := by
 have A := sroot_arg s n hl h C
 have W := sshow_none s n hl (by omega) (by omega) C
 have BW := between_s n 0 s.turns.length
 rw [show within n 0 s.turns.length = false from within_f.2 (by omega)] at BW
 refine spec_am Tryz.func3 rfl rfl mix 118 rfl [.tmp 4] Tryz.results3 (Nat.le_of_ble_eq_true rfl) ?_
 (iterate 2 ((try simp (etaStruct := .none) only [push_cast, DrawG, seval, txtV_len]); (try (refine xsu ?_; try exact xtI))))
 refine caP (A) ?_
 (iterate 2 ((try simp (etaStruct := .none) only [push_cast, DrawG, seval, txtV_len]); (try (refine xsu ?_; try exact xtI))))
 refine caP (W) ?_
 (iterate 2 ((try simp (etaStruct := .none) only [push_cast, DrawG, seval, txtV_len]); (try (refine xsu ?_; try exact xtI))))
 refine caP (R) ?_
 (iterate 2 ((try simp (etaStruct := .none) only [push_cast, DrawG, seval, txtV_len]); (try (refine xsu ?_; try exact xtI))))
 refine cond_i (fun h1 => ?_) (fun h1 => ?_)
 ·(try replace h1 := xhh h1)
  simp at h1
 ·(try replace h1 := xhh h1)
  (iterate 2 ((try simp (etaStruct := .none) only [push_cast, DrawG, seval, txtV_len]); (try (refine xsu ?_; try exact xtI))))
  refine caP (turnTexts_s s (by omega) hl.t) ?_
  (iterate 2 ((try simp (etaStruct := .none) only [push_cast, DrawG, seval, txtV_len]); (try (refine xsu ?_; try exact xtI))))
  refine caP (BW) ?_
  (iterate 2 ((try simp (etaStruct := .none) only [push_cast, DrawG, seval, txtV_len]); (try (refine xsu ?_; try exact xtI))))
  refine cond_i (fun h2 => ?_) (fun h2 => ?_)
  ·(try replace h2 := xhh h2)
   (iterate 2 ((try simp (etaStruct := .none) only [push_cast, DrawG, seval, txtV_len]); (try (refine xsu ?_; try exact xtI))))
   exact xrz rfl
  ·(try replace h2 := xhh h2)
   simp at h2
theorem law_c (s : Sty) (n : Int) (hl : StyL s) (C : Spec Tryz.prog 12 [styA s] [] (I .i64 0) []) (R : Spec Tryz.prog 6 [styA s] [] (I .i64 0) []) (h2 : s.turns.length ≤ 200) (h : ¬ (n < 0 ∨ (s.turns.length : Int) < n)) (h3 : n = s.turns.length) : Spec Tryz.prog 3 [styA s, I .i64 n] [] (B true) [] := by
 have A := sroot_ok s n hl (by omega) h C
 have W := sshow_none s n hl (by omega) (by omega) C
 have BW := between_s n 0 s.turns.length
 rw [show within n 0 s.turns.length = true from within_iff.2 (by omega)] at BW
 have ht : ((txtV s.turns).map strP).take n.toNat = ((txtV s.turns).take n.toNat).map strP := List.map_take.symm
 refine spec_am Tryz.func3 rfl rfl mix 118 rfl [.tmp 4] Tryz.results3 (Nat.le_of_ble_eq_true rfl) ?_
 (iterate 2 ((try simp (etaStruct := .none) only [push_cast, DrawG, seval, txtV_len]); (try (refine xsu ?_; try exact xtI))))
 refine caP (A) ?_
 (iterate 2 ((try simp (etaStruct := .none) only [push_cast, DrawG, seval, txtV_len]); (try (refine xsu ?_; try exact xtI))))
 refine caP (W) ?_
 (iterate 2 ((try simp (etaStruct := .none) only [push_cast, DrawG, seval, txtV_len]); (try (refine xsu ?_; try exact xtI))))
 refine caP (R) ?_
 (iterate 2 ((try simp (etaStruct := .none) only [push_cast, DrawG, seval, txtV_len]); (try (refine xsu ?_; try exact xtI))))
 refine cond_i (fun h1 => ?_) (fun h1 => ?_)
 ·(try replace h1 := xhh h1)
  simp at h1
 ·(try replace h1 := xhh h1)
  (iterate 2 ((try simp (etaStruct := .none) only [push_cast, DrawG, seval, txtV_len]); (try (refine xsu ?_; try exact xtI))))
  refine caP (turnTexts_s s (by omega) hl.t) ?_
  (iterate 2 ((try simp (etaStruct := .none) only [push_cast, DrawG, seval, txtV_len]); (try (refine xsu ?_; try exact xtI))))
  refine caP (BW) ?_
  (iterate 2 ((try simp (etaStruct := .none) only [push_cast, DrawG, seval, txtV_len]); (try (refine xsu ?_; try exact xtI))))
  refine cond_i (fun h2 => ?_) (fun h2 => ?_)
  ·(try replace h2 := xhh h2)
   simp at h2
  ·(try replace h2 := xhh h2)
   (iterate 2 ((try simp (etaStruct := .none) only [push_cast, DrawG, seval, txtV_len, ht]); (try (refine xsu ?_; try exact xtI))))
   refine caP (rootOf_s ((txtV s.turns).take n.toNat) (by rw [List.length_take, txtV_len]; omega) (fun x hx => txtV_ok _ x (List.mem_of_mem_take hx))) ?_
   (iterate 2 ((try simp (etaStruct := .none) only [push_cast, DrawG, seval, txtV_len, ht]); (try (refine xsu ?_; try exact xtI))))
   refine cond_i (fun h3 => ?_) (fun h3 => ?_)
   ·(try replace h3 := xhh h3)
    simp at h3
   ·(try replace h3 := xhh h3)
    (iterate 2 ((try simp (etaStruct := .none) only [push_cast, DrawG, seval, txtV_len, ht]); (try (refine xsu ?_; try exact xtI))))
    refine cond_i (fun h4 => ?_) (fun h4 => ?_)
    ·(try replace h4 := xhh h4)
     (iterate 2 ((try simp (etaStruct := .none) only [push_cast, DrawG, seval, txtV_len, ht]); (try (refine xsu ?_; try exact xtI))))
     exact xrz rfl
    ·(try replace h4 := xhh h4)
     omega
theorem law_d (s : Sty) (n : Int) (hl : StyL s) (C : Spec Tryz.prog 12 [styA s] [] (I .i64 0) []) (R : Spec Tryz.prog 6 [styA s] [] (I .i64 0) []) (h2 : s.turns.length ≤ 200) (h : ¬ (n < 0 ∨ (s.turns.length : Int) ≤ n)) : Spec Tryz.prog 3 [styA s, I .i64 n] [] (B true) [] := by
 have A := sroot_ok s n hl (by omega) (by omega) C
 have W := sshow_ok s n hl (by omega) h C
 have BW := between_s n 0 s.turns.length
 rw [show within n 0 s.turns.length = true from within_iff.2 (by omega)] at BW
 have ht : ((txtV s.turns).map strP).take n.toNat = ((txtV s.turns).take n.toNat).map strP := List.map_take.symm
 have hlt : n.toNat < (txtV s.turns).length := by rw [txtV_len]; omega
 have TO := trailOf_s (txtV s.turns) n.toNat (by rw [txtV_len]; omega) (txtV_ok _) hlt
 rw [show ((n.toNat : Nat) : Int) = n by omega] at TO
 have TL := trN_len ((txtV s.turns).map leafN) n.toNat
 rw [List.length_map, txtV_len] at TL
 refine spec_am Tryz.func3 rfl rfl mix 118 rfl [.tmp 4] Tryz.results3 (Nat.le_of_ble_eq_true rfl) ?_
 (iterate 2 ((try simp (etaStruct := .none) only [push_cast, DrawG, seval, txtV_len]); (try (refine xsu ?_; try exact xtI))))
 refine caP (A) ?_
 (iterate 2 ((try simp (etaStruct := .none) only [push_cast, DrawG, seval, txtV_len]); (try (refine xsu ?_; try exact xtI))))
 refine caP (W) ?_
 (iterate 2 ((try simp (etaStruct := .none) only [push_cast, DrawG, seval, txtV_len]); (try (refine xsu ?_; try exact xtI))))
 refine caP (R) ?_
 (iterate 2 ((try simp (etaStruct := .none) only [push_cast, DrawG, seval, txtV_len]); (try (refine xsu ?_; try exact xtI))))
 refine cond_i (fun h1 => ?_) (fun h1 => ?_)
 ·(try replace h1 := xhh h1)
  simp at h1
 ·(try replace h1 := xhh h1)
  (iterate 2 ((try simp (etaStruct := .none) only [push_cast, DrawG, seval, txtV_len]); (try (refine xsu ?_; try exact xtI))))
  refine caP (turnTexts_s s (by omega) hl.t) ?_
  (iterate 2 ((try simp (etaStruct := .none) only [push_cast, DrawG, seval, txtV_len]); (try (refine xsu ?_; try exact xtI))))
  refine caP (BW) ?_
  (iterate 2 ((try simp (etaStruct := .none) only [push_cast, DrawG, seval, txtV_len]); (try (refine xsu ?_; try exact xtI))))
  refine cond_i (fun h2 => ?_) (fun h2 => ?_)
  ·(try replace h2 := xhh h2)
   simp at h2
  ·(try replace h2 := xhh h2)
   (iterate 2 ((try simp (etaStruct := .none) only [push_cast, DrawG, seval, txtV_len, ht, getD_in _ _ _ hlt, strP]); (try (refine xsu ?_; try exact xtI))))
   refine caP (rootOf_s ((txtV s.turns).take n.toNat) (by rw [List.length_take, txtV_len]; omega) (fun x hx => txtV_ok _ x (List.mem_of_mem_take hx))) ?_
   (iterate 2 ((try simp (etaStruct := .none) only [push_cast, DrawG, seval, txtV_len, ht, getD_in _ _ _ hlt, strP]); (try (refine xsu ?_; try exact xtI))))
   refine cond_i (fun h3 => ?_) (fun h3 => ?_)
   ·(try replace h3 := xhh h3)
    simp at h3
   ·(try replace h3 := xhh h3)
    (iterate 2 ((try simp (etaStruct := .none) only [push_cast, DrawG, seval, txtV_len, ht, getD_in _ _ _ hlt, strP]); (try (refine xsu ?_; try exact xtI))))
    refine cond_i (fun h4 => ?_) (fun h4 => ?_)
    ·(try replace h4 := xhh h4)
     omega
    ·(try replace h4 := xhh h4)
     (iterate 2 ((try simp (etaStruct := .none) only [push_cast, DrawG, seval, txtV_len, ht, getD_in _ _ _ hlt, strP]); (try (refine xsu ?_; try exact xtI))))
     refine gcP (fun hcc => TO) ?_
     (iterate 2 ((try simp (etaStruct := .none) only [push_cast, DrawG, seval, txtV_len, ht, getD_in _ _ _ hlt, strP]); (try (refine xsu ?_; try exact xtI))))
     refine gcP (fun hcc => u64_same (tr pairN ((txtV s.turns).map leafN) n.toNat) (by omega)) ?_
     (iterate 2 ((try simp (etaStruct := .none) only [push_cast, DrawG, seval, txtV_len, ht, getD_in _ _ _ hlt, strP]); (try (refine xsu ?_; try exact xtI))))
     exact xrz rfl
theorem law (s : Sty) (n : Int) (h1 : wldG s.start ∧ ordssG s.turns) (_ : In64 n) : Spec Tryz.prog 3 [styA s, I .i64 n] [] (B true) [] := by
 obtain ⟨WR, hWR⟩ := wr_ex s.start.f
 have hl : StyL s := ⟨h1.1.1, h1.2.in_, h1.2.2.2⟩
 have C := scheck_st s WR hWR hl
 have R := sright_st s WR hWR hl
 by_cases hE : styE WR s = 0
 ·have h2 := (runRE_ok hE).1
  rw [hE] at C R
  by_cases h : n < 0 ∨ (s.turns.length : Int) < n
  ·exact law_b s n hl C R h2 h
  by_cases h3 : n = s.turns.length
  ·exact law_c s n hl C R h2 h h3
  ·exact law_d s n hl C R h2 (by omega)
 ·exact law_a s n _ hE C R
theorem opSty (w : World) : OpA Tryz.prog 31 10 w (fun s : Sty => [pI s.start.f.w, pI s.start.f.h, .sl 1 (s.start.f.p.map i64P), .sl 2 (s.start.bases.map celP), .sl 1 (s.start.stocks.map i64P), .sl 1 (s.start.mines.map i64P), .sl 7 (s.start.troops.map trpP), pI s.start.next, pI s.start.now, .sl 1 (s.turns.map ordsP)]) (fun s => wldG s.start ∧ ordssG s.turns) :=
 (OpA.struct Tryz.underlying31 (by kernel_rfl) (OpAF.cons rfl rfl (opWld w) (OpAF.cons rfl rfl (opOrdss w) OpAF.nil))).map (fun x => ⟨x.1, x.2.1⟩) (fun _ => rfl) (fun _ h => ⟨h.1, h.2.1⟩)
theorem own : ownKnob Tryz.prog.godebug = none := by kernel_rfl
theorem laidOut : laidOutB Tryz.prog = true := by kernel_rfl
set_option maxRecDepth 100000 in
theorem lifted (os : Os) (started : os.Started) (H : Type) (enc : TypeId × Value → H) :
 ReturnsInHanded {} Tryz.checked os 3 .any (Rows.storyShowsSpec.pre6 enc Tryz.prog Tryz.f3 Rows.storyShowsRow.domain false) (Rows.storyShowsSpec.post enc Tryz.prog Tryz.f3 false true false false) := by
 refine returnsInHanded_of_change_sized (C := Tryz.checked) own started (by kernel_rfl) Tryz.func3
  (ChangeSpec.witness6 (enc := enc) (C := Tryz.checked) false ⟨#[], #[.agg #[.int .i64 0, .int .i64 0, .slice none 0 0, .slice none 0 0, .slice none 0 0, .slice none 0 0, .slice none 0 0, .int .i64 0, .int .i64 0, .slice none 0 0], .int .i64 0], []⟩ 8 (by kernel_rfl) (by kernel_rfl) (by kernel_rfl) (by kernel_rfl)) ?_
 intro W base args ds gs before hval0 hW hcnd hsz0 _
 have hval : ∀ (j : Nat) t v, Tryz.f3.params[j]? = some t → args[j]? = some v → Value.okWide Tryz.prog W .any base t v := hval0
 have hW' := hW
 obtain ⟨p, q, hA0, hV, rfl, hfz, hnd⟩ := hW
 have hA : DataW.TrodAll enc Tryz.prog W 0 (fun _ => true) true Tryz.f3.params.toList args.toList ds p := hA0
 rw [Tryz.params3] at hA hval hsz0
 obtain ⟨v0, vs0, d0, ds0, p0, q0, hargs, rfl, rfl, h0, r0⟩ := trodAll_cons hA
 obtain ⟨v1, vs1, d1, ds1, p1, q1, rfl, rfl, rfl, h1, r1⟩ := trodAll_cons r0
 obtain ⟨rfl, rfl, rfl⟩ := trodAll_nil r1
 obtain rfl : args = #[v0, v1] := by cases args; simp_all
 obtain ⟨rfl, rfl⟩ := trodVars_none hV
 have lt0 : ∀ x ∈ p0, x.block < W.heap.size := by obtain ⟨m, hm⟩ := h0; exact DataW.trod_lt m _ _ _ hm
 obtain ⟨x0, ok0, l0, q0r⟩ := OpA.arg (opSty W) h0 hsz0 0 rfl rfl
 have R0 := rel_agg (arg_struct (hval 0 31 v0 rfl rfl) Tryz.underlying31 rfl) l0 q0r
 have lt1 : ∀ x ∈ p1, x.block < W.heap.size := by obtain ⟨m, hm⟩ := h1; exact DataW.trod_lt m _ _ _ hm
 obtain ⟨x1, ok1, l1, q1r⟩ := OpA.arg (OpA.i64 Tryz.underlying3) h1 hsz0 1 rfl rfl
 have R1 := rel_one (one_int Tryz.underlying3 (hval 1 3 v1 rfl rfl)) q1r
 clear hA0 hval0
 refine (spec_law (law x0 x1 ok0 ok1) (relL_cons R0 (relL_cons R1 relL_nil))).mono fun e W' ⟨he, bel⟩ => ?_
 subst he
 exact ⟨_, rfl, _, _, _, [], _, [], hW', trodAll_mk1 (shut_bool Tryz.underlying4 _), (trodAll_cons_mk (Below.trod laidOut (by kernel_rfl) (of_decide_eq_true (by kernel_rfl)) h0 bel lt0) (trodAll_cons_mk (Below.trod laidOut (by kernel_rfl) (of_decide_eq_true (by kernel_rfl)) h1 bel lt1) trodAll_mk0)), rfl, bel.frame _, fun h => by cases h⟩
theorem over : Rows.storyShowsRow.holds Tryz.pinned (OpenSpec.ofChange Rows.storyShowsSpec) :=
 OpenClaim.holds_of_wide 3 Tryz.f3 rfl rfl rfl rfl rfl rfl rfl ⟨rfl, rfl, rfl, rfl, rfl⟩ rfl rfl rfl rfl rfl (by kernel_rfl) Tryz.func3 facts
  (of_decide_eq_true (by kernel_rfl)) (by unfold Func.isWrapper; first | (rw [if_pos (by decide +kernel)]; kernel_rfl) | (rw [if_neg (by decide +kernel)]; exact ⟨rfl, rfl⟩))
  (fun os started H enc _ => lifted os started H enc)
theorem proved : Rows.StoryShowsSaid := over
#print axioms proved
end storyShows
end Go.Proofs.YtllmjdcblfkfaaaGreat
