/- Lemmas for the proof of storyShows.proved. -/
import Derived.Test.YtllmjdcblfkfaaaGreatShowM7
namespace Go.Proofs.YtllmjdcblfkfaaaGreat
set_option linter.all false
open Go.RowKit
set_option maxRecDepth 100000
def isId (id : Int) (t : Trp) : Bool := decide (t.id = id)
def besB (a b : Cel) : Bool := within b.x (a.x - 1) (a.x + 1) && within b.y (a.y - 1) (a.y + 1)
def withLoad (t : Trp) (n : Int) : Trp := { t with load := n }
def mineAt (w : Wld) (i m : Nat) : Wld := { w with mines := w.mines.set m (w.mines.getD m default - 1), troops := w.troops.set i (withLoad (w.troops.getD i default) ((w.troops.getD i default).load + 1)) }
def mineOk (w : Wld) (d : Ded) (i : Nat) : Bool := decide ((w.troops.getD i default).kind = 1) && decide ((w.troops.getD i default).load < 5) && besB (w.troops.getD i default).c d.c && inF w.f d.c && decide (0 < w.mines.getD (idxN w.f d.c) default)
def dropN (w : Wld) (i : Nat) : Int := min (w.troops.getD i default).load (1000000 - w.stocks.getD (w.troops.getD i default).owner.toNat default)
def dropAt (w : Wld) (i : Nat) : Wld := { w with stocks := w.stocks.set (w.troops.getD i default).owner.toNat (w.stocks.getD (w.troops.getD i default).owner.toNat default + dropN w i), troops := w.troops.set i (withLoad (w.troops.getD i default) ((w.troops.getD i default).load - dropN w i)) }
def dropOk (w : Wld) (i : Nat) : Bool := besB (w.bases.getD (w.troops.getD i default).owner.toNat default) (w.troops.getD i default).c
def around (b : Cel) : List Cel := [b, ⟨b.x - 1, b.y - 1⟩, ⟨b.x, b.y - 1⟩, ⟨b.x + 1, b.y - 1⟩, ⟨b.x - 1, b.y⟩, b, ⟨b.x + 1, b.y⟩, ⟨b.x - 1, b.y + 1⟩, ⟨b.x, b.y + 1⟩, ⟨b.x + 1, b.y + 1⟩]
def freeB (w : Wld) (c : Cel) : Bool := groundV w.f c && !(w.troops.any fun t => decide (t.c = c))
def freeV (w : Wld) (b : Cel) : Option Cel := (around b).find? (freeB w)
def hireOk (w : Wld) (d : Ded) : Bool := decide (0 ≤ d.who) && decide (d.who < w.bases.length) && (decide (d.what = 1) || decide (d.what = 2)) && decide ((kindV d.what).price ≤ w.stocks.getD d.who.toNat default) && decide (w.troops.length < 100) && decide (w.next < 1000000)
def hireAt (w : Wld) (d : Ded) (c : Cel) : Wld := { w with troops := w.troops ++ [⟨w.next, d.who, d.what, c, (kindV d.what).life, 0⟩], next := w.next + 1, stocks := w.stocks.set d.who.toNat (w.stocks.getD d.who.toNat default - (kindV d.what).price) }
def deedV (w : Wld) (d : Ded) : Wld × Bool :=
 if d.kind = 1 then match w.troops.findIdx? (isId d.who) with
  | some i => if mineOk w d i then (mineAt w i (idxN w.f d.c), true) else (w, false)
  | none => (w, false)
 else if d.kind = 2 then match w.troops.findIdx? (isId d.who) with
  | some i => if dropOk w i then (dropAt w i, decide (0 < dropN w i)) else (w, false)
  | none => (w, false)
 else if d.kind = 3 then (if hireOk w d then match freeV w (w.bases.getD d.who.toNat default) with
  | some c => (hireAt w d c, true)
  | none => (w, false)
  else (w, false))
 else (w, false)
theorem withLoad_ok {w : Wld} {t : Trp} {n : Int} (h : TrpOk w t) (hn : 0 ≤ n ∧ n ≤ 5 * (2 - t.kind)) : TrpOk w (withLoad t n) := trpOk_of h.kind h.id h.owner h.at_ h.life hn
theorem own_at {w : Wld} (h : Right w) {i : Nat} (hi : i < w.troops.length) : ∃ o : Nat, (w.troops.getD i default).owner = (o : Int) ∧ o < w.bases.length ∧ o < w.stocks.length := by
 have := (h.trp i hi).owner
 have hs := h.sl
 refine ⟨(w.troops.getD i default).owner.toNat, by omega, by omega, by omega⟩
theorem idx_in {w : Wld} (h : Right w) {c : Cel} (hc : inF w.f c = true) : idxN w.f c < w.mines.length ∧ c.y * w.f.w + c.x = ((idxN w.f c : Nat) : Int) ∧ 0 ≤ c.y * w.f.w ∧ c.y * w.f.w ≤ 1600 := by
 obtain ⟨i1, i2, i3, i4, i5⟩ := place_ix h.f hc
 have := h.ml
 unfold idxN; omega
theorem right_load {w : Wld} (h : Right w) {i : Nat} (hi : i < w.troops.length) {n : Int} (hn : 0 ≤ n ∧ n ≤ 5 * (2 - (w.troops.getD i default).kind)) {st mi : List Int} (hs : st.length = w.stocks.length) (hm : mi.length = w.mines.length) (hs2 : ∀ j, j < st.length → 0 ≤ st.getD j default ∧ st.getD j default ≤ 1000000) (hm2 : ∀ j, j < mi.length → (0 ≤ mi.getD j default ∧ mi.getD j default ≤ 1000000) ∧ (mi.getD j default = 0 ∨ w.f.p.getD j default = 3)) :
 Right { w with stocks := st, mines := mi, troops := w.troops.set i (withLoad (w.troops.getD i default) n) } := by
 have G := fun p => getD_set (withLoad (w.troops.getD i default) n) p hi
 refine ⟨h.f, h.nb, by simpa using h.nt, by rw [hs]; exact h.sl, by rw [hm]; exact h.ml, h.nx, h.nw, fun j hj => ?_, hm2, fun k hk => ?_, fun j k hjk hk => ?_⟩
 ·obtain ⟨a1, _, a3⟩ := h.base j hj
  exact ⟨a1, hs2 j (by rw [hs, h.sl]; exact hj), a3⟩
 ·have hk' : k < w.troops.length := by simpa using hk
  have e : ∀ t, TrpOk w t → TrpOk { w with stocks := st, mines := mi, troops := w.troops.set i (withLoad (w.troops.getD i default) n) } t := fun t ht => ⟨ht.kind, ht.id, ht.owner, ht.at_, ht.x, ht.y, ht.life, ht.load⟩
  simp only [G]
  split
  ·exact e _ (withLoad_ok (h.trp i hi) hn)
  ·exact e _ (h.trp k hk')
 ·have hk' : k < w.troops.length := by simpa using hk
  have := h.ord j k hjk hk'
  simp only [G]
  have f1 : ∀ m, (if m = i then withLoad (w.troops.getD i default) n else w.troops.getD m default).id = (w.troops.getD m default).id ∧ (if m = i then withLoad (w.troops.getD i default) n else w.troops.getD m default).c = (w.troops.getD m default).c := fun m => by
   split
   ·rename_i e; subst e; exact ⟨rfl, rfl⟩
   ·exact ⟨rfl, rfl⟩
  rw [(f1 j).1, (f1 k).1, (f1 j).2, (f1 k).2]; exact this
theorem right_mine {w : Wld} (h : Right w) {i : Nat} (hi : i < w.troops.length) {d : Ded} (ho : mineOk w d i = true) : Right (mineAt w i (idxN w.f d.c)) := by
 unfold mineOk at ho
 simp only [Bool.and_eq_true, decide_eq_true_eq] at ho
 obtain ⟨⟨⟨⟨o1, o2⟩, _⟩, o4⟩, o5⟩ := ho
 obtain ⟨m1, _⟩ := idx_in h o4
 have hl := (h.trp i hi).load
 have G := fun p => getD_set (w.mines.getD (idxN w.f d.c) default - 1) p m1
 refine right_load h hi (by omega) rfl (by simp) (fun j hj => (h.base j (by rw [← h.sl]; exact hj)).2.1) (fun j hj => ?_)
 have hj' : j < w.mines.length := by simpa using hj
 rw [G]
 split
 ·rename_i e; subst e
  obtain ⟨a1, a2⟩ := h.mine _ hj'
  exact ⟨by omega, by rcases a2 with a2 | a2; omega; exact .inr a2⟩
 ·exact h.mine j hj'
theorem dropN_b {w : Wld} (h : Right w) {i : Nat} (hi : i < w.troops.length) : 0 ≤ dropN w i ∧ dropN w i ≤ (w.troops.getD i default).load ∧ w.stocks.getD (w.troops.getD i default).owner.toNat default + dropN w i ≤ 1000000 ∧ 0 ≤ w.stocks.getD (w.troops.getD i default).owner.toNat default := by
 obtain ⟨o, e, ho, hs⟩ := own_at h hi
 have hl := (h.trp i hi).load
 have hb := (h.base o ho).2.1
 have e2 : (w.troops.getD i default).owner.toNat = o := by omega
 unfold dropN
 rw [e2]; omega
theorem right_drop {w : Wld} (h : Right w) {i : Nat} (hi : i < w.troops.length) : Right (dropAt w i) := by
 obtain ⟨o, e, ho, hs⟩ := own_at h hi
 have e2 : (w.troops.getD i default).owner.toNat = o := by omega
 have hl := (h.trp i hi).load
 have hn := dropN_b h hi
 unfold dropAt
 rw [e2] at hn ⊢
 have G := fun p => getD_set (w.stocks.getD o default + dropN w i) p hs
 refine right_load h hi (by omega) (by simp) rfl (fun j hj => ?_) (fun j hj => h.mine j hj)
 rw [G]
 split
 ·omega
 ·exact (h.base j (by rw [← h.sl]; simpa using hj)).2.1
theorem hireOk_iff {w : Wld} {d : Ded} : hireOk w d = true ↔ ((((0 ≤ d.who ∧ d.who < w.bases.length) ∧ (d.what = 1 ∨ d.what = 2)) ∧ (kindV d.what).price ≤ w.stocks.getD d.who.toNat default) ∧ w.troops.length < 100) ∧ w.next < 1000000 := by
 unfold hireOk
 simp only [Bool.and_eq_true, Bool.or_eq_true, decide_eq_true_eq]
theorem snoc_getD {α : Type} [Inhabited α] (l : List α) (x : α) (k : Nat) : (l ++ [x]).getD k default = if k < l.length then l.getD k default else if k = l.length then x else default := by
 by_cases h : k < l.length
 ·rw [if_pos h, getD_snoc _ _ _ h]
 ·rw [if_neg h]
  by_cases h2 : k = l.length
  ·subst h2; rw [if_pos rfl, getD_at _ _ (by simp)]; simp
  ·rw [if_neg h2]; simp only [List.getD_eq_getElem?_getD]; rw [List.getElem?_eq_none (by simp; omega)]; rfl
theorem right_hire {w : Wld} (h : Right w) {d : Ded} (ho : hireOk w d = true) {c : Cel} (hc : freeB w c = true) : Right (hireAt w d c) := by
 obtain ⟨⟨⟨⟨⟨o1, o2⟩, o3⟩, o4⟩, o5⟩, o6⟩ := hireOk_iff.1 ho
 unfold freeB at hc
 simp only [Bool.and_eq_true, Bool.not_eq_true', List.any_eq_false, decide_eq_true_eq] at hc
 obtain ⟨c1, c2⟩ := hc
 have hs : d.who.toNat < w.stocks.length := by rw [h.sl]; omega
 have G := fun p => getD_set (w.stocks.getD d.who.toNat default - (kindV d.what).price) p hs
 have hp : 0 ≤ (kindV d.what).price := by rcases o3 with e | e <;> rw [e] <;> decide
 have hx := h.nx
 have T := fun k => snoc_getD w.troops (⟨w.next, d.who, d.what, c, (kindV d.what).life, 0⟩ : Trp) k
 refine ⟨h.f, h.nb, by simp only [hireAt, List.length_append, List.length_cons, List.length_nil]; omega, by simp only [hireAt, List.length_set]; exact h.sl, h.ml, by simp only [hireAt]; omega, h.nw, fun j hj => ?_, h.mine, fun k hk => ?_, fun j k hjk hk => ?_⟩
 ·obtain ⟨a1, a2, a3⟩ := h.base j hj
  refine ⟨a1, ?_, a3⟩
  simp only [hireAt, G]
  split
  ·rename_i e; subst e; omega
  ·exact a2
 ·simp only [hireAt, List.length_append, List.length_cons, List.length_nil] at hk
  simp only [hireAt, T]
  split
  ·rename_i hk2
   have ok := h.trp k hk2
   exact trpOk_of ok.kind ⟨ok.id.1, by have := ok.id.2; simp only; omega⟩ ok.owner ok.at_ ok.life ok.load
  ·rw [if_pos (by omega)]
   refine trpOk_of o3 ⟨hx.1, by simp only; omega⟩ ⟨o1, by simp only; omega⟩ c1 ⟨?_, Int.le_refl _⟩ ⟨Int.le_refl _, ?_⟩
   ·rcases o3 with e | e <;> simp only <;> rw [e] <;> decide
   ·simp only; omega
 ·simp only [hireAt, List.length_append, List.length_cons, List.length_nil] at hk
  simp only [hireAt, T]
  rw [if_pos (show j < w.troops.length by omega)]
  split
  ·rename_i hk2
   exact h.ord j k hjk hk2
  ·have hj : j < w.troops.length := by omega
   rw [if_pos (by omega)]
   have ok := (h.trp j hj).id
   refine ⟨by simp only; omega, fun e => ?_⟩
   exact c2 _ (getD_mem _ _ hj) e
theorem find_idx {w : Wld} {id : Int} {i : Nat} (h : w.troops.findIdx? (isId id) = some i) : i < w.troops.length := by
 obtain ⟨hi, _⟩ := List.findIdx?_eq_some_iff_getElem.1 h
 exact hi
theorem right_deed {w : Wld} (h : Right w) (d : Ded) : Right (deedV w d).1 := by
 unfold deedV
 split
 ·split
  ·rename_i i hi
   split
   ·rename_i ho; exact right_mine h (find_idx hi) ho
   ·exact h
  ·exact h
 ·split
  ·split
   ·rename_i i hi
    split
    ·exact right_drop h (find_idx hi)
    ·exact h
   ·exact h
  ·split
   ·split
    ·rename_i ho
     split
     ·rename_i c hc; exact right_hire h ho (List.find?_some hc)
     ·exact h
    ·exact h
   ·exact h
def deedsA (w : Wld) : List Ded → Wld × List Bool
 | [] => (w, [])
 | d :: r => ((deedsA (deedV w d).1 r).1, (deedV w d).2 :: (deedsA (deedV w d).1 r).2)
theorem deedsA_snoc (l : List Ded) (d : Ded) : ∀ w, deedsA w (l ++ [d]) = ((deedV (deedsA w l).1 d).1, (deedsA w l).2 ++ [(deedV (deedsA w l).1 d).2]) := by
 induction l with
 | nil => intro w; rfl
 | cons a r ih => intro w; simp only [List.cons_append, deedsA]; rw [ih]
theorem right_deeds (l : List Ded) : ∀ {w : Wld}, Right w → Right (deedsA w l).1 := by
 induction l with
 | nil => intro w h; exact h
 | cons a r ih => intro w h; exact ih (right_deed h a)
theorem deedsA_len (l : List Ded) : ∀ w, (deedsA w l).2.length = l.length := by
 induction l with
 | nil => intro w; rfl
 | cons a r ih => intro w; simp only [deedsA, List.length_cons, ih]
end Go.Proofs.YtllmjdcblfkfaaaGreat
namespace Go.Proofs.YtllmjdcblfkfaaaGreat
set_option linter.all false
open Go.RowKit
set_option maxRecDepth 100000
set_option maxHeartbeats 1000000
theorem getD_at' {α : Type} (l : List α) (i : Nat) (d : α) (h : i < l.length) : l.getD i d = l[i] := by simp [h]
abbrev dedA (d : Ded) : AV := .agg [I .i64 d.kind, I .i64 d.who, I .i64 d.c.x, I .i64 d.c.y, I .i64 d.what]
abbrev shpC (w : Wld) (i j k : Nat) : List AV := [I .i64 w.f.w, I .i64 w.f.h, .c (.sl 1 (w.f.p.map i64P)), .c (.sl 2 (w.bases.map celP)), .own i, .own j, .own k, I .i64 w.next, I .i64 w.now]
abbrev stR (w : Wld) : Chunk := .row 3 1 (w.stocks.map i64P)
abbrev miR (w : Wld) : Chunk := .row 3 1 (w.mines.map i64P)
abbrev trR (w : Wld) : Chunk := .row 83 7 (w.troops.map trpP)
abbrev shpH (w : Wld) : List Chunk := [.blk 157 (shpC w 1 2 3), stR w, miR w, trR w]
theorem gtc_s (id : Int) (t : Trp) : Spec Tryz.prog 158 ([] ++ [trpA t] ++ [.fel 1 [[pI id]] 0 0]) [] (B (isId id t)) [] := by
 refine spec_am Tryz.func158 rfl rfl mix 8 rfl [.tmp 3] Tryz.results158 (Nat.le_of_ble_eq_true rfl) ?_
 (try (refine xst ?_; try exact xtI))
 (first | (refine retA rfl (Wk.of ?_); (try simp (etaStruct := .none) only [push_cast, DrawG, seval]); first | done | (simp [isId, *]; done) | (simp_all [isId]; done)) | (refine retA rfl ?_; (try simp (etaStruct := .none) only [push_cast, DrawG, seval]); (try simp [isId, *]); (try exact wkc)))
theorem gtr_none (w : Wld) (id : Int) (hw : Right w) (h : w.troops.findIdx? (isId id) = none) : Spec Tryz.prog 149 [.ptr 0 0 0, I .i64 id] (shpH w) (.c (.v (.pointer none))) (shpH w) := by
 have hz : ixOf (isId id) w.troops = -1 := by unfold ixOf; rw [h]
 have hnt := hw.nt
 refine spec_am Tryz.func149 rfl rfl mix 22 rfl [.tmp 4] Tryz.results149 (Nat.le_of_ble_eq_true rfl) ?_
 (try (refine xst ?_; try exact xtI))
 refine callB (trp_ix _ [] [.fel 1 [[pI id]] 0 0] w.troops (isId id) (by omega) (fun t _ => gtc_s id t) (fun _ => rfl) (fun _ => rfl)) (WkL.refl _) rfl ?_
 rw [hz]
 (try (refine xst ?_; try exact xtI))
 refine cond_i (fun h1 => ?_) (fun h1 => ?_)
 ·(try replace h1 := xhh h1)
  (try (refine xst ?_; try exact xtI))
  refine retM [0, 1, 2, 3] rfl rfl (by decide) ⟨?_, ?_, ?_, ?_, trivial⟩ trivial ?_ <;> simp (etaStruct := .none) only [push_cast, DrawG, seval]
 ·(try replace h1 := xhh h1)
  exact absurd h1 (by decide)
theorem gtr_some (w : Wld) (id : Int) (i : Nat) (hw : Right w) (h : w.troops.findIdx? (isId id) = some i) : Spec Tryz.prog 149 [.ptr 0 0 0, I .i64 id] (shpH w) (.ptr 3 i 0) (shpH w) := by
 have hz : ixOf (isId id) w.troops = (i : Int) := by unfold ixOf; rw [h]
 have hnt := hw.nt
 have hi := find_idx h
 refine spec_am Tryz.func149 rfl rfl mix 22 rfl [.tmp 4] Tryz.results149 (Nat.le_of_ble_eq_true rfl) ?_
 (try (refine xst ?_; try exact xtI))
 refine callB (trp_ix _ [] [.fel 1 [[pI id]] 0 0] w.troops (isId id) (by omega) (fun t _ => gtc_s id t) (fun _ => rfl) (fun _ => rfl)) (WkL.refl _) rfl ?_
 rw [hz]
 (try (refine xst ?_; try exact xtI))
 refine cond_i (fun h1 => ?_) (fun h1 => ?_)
 ·(try replace h1 := xhh h1)
  omega
 ·(try replace h1 := xhh h1)
  (try (refine xst ?_; try exact xtI))
  refine retM [0, 1, 2, 3] rfl rfl (by decide) ⟨?_, ?_, ?_, ?_, trivial⟩ trivial ?_ <;> simp (etaStruct := .none) only [push_cast, DrawG, seval]
theorem gbes_s (a b : Cel) (ha : -1000000 ≤ a.x ∧ a.x ≤ 1000000 ∧ -1000000 ≤ a.y ∧ a.y ≤ 1000000) : Spec Tryz.prog 150 [celA a, celA b] [] (B (besB a b)) [] := by
 refine spec_am Tryz.func150 rfl rfl mix 35 rfl [.tmp 4] Tryz.results150 (Nat.le_of_ble_eq_true rfl) ?_
 (try (refine xst ?_; try exact xtI))
 (first | (refine retA rfl (Wk.of ?_); (try simp (etaStruct := .none) only [push_cast, DrawG, seval]); first | done | (simp [besB, within, Bool.and_assoc, *]; done) | (simp_all [besB, within, Bool.and_assoc]; done)) | (refine retA rfl ?_; (try simp (etaStruct := .none) only [push_cast, DrawG, seval]); (try simp [besB, within, Bool.and_assoc, *]); (try exact wkc)))
theorem gmine_none (w : Wld) (d : Ded) (hw : Right w) (h : w.troops.findIdx? (isId d.who) = none) : Spec Tryz.prog 132 [.ptr 0 0 0, dedA d] (shpH w) (B false) (shpH w) := by
 refine spec_am Tryz.func132 rfl rfl mix 88 rfl [.tmp 4] Tryz.results132 (Nat.le_of_ble_eq_true rfl) ?_
 (try (refine xst ?_; try exact xtI))
 refine caM [0, 1, 2, 3] (gtr_none w d.who hw h) ?_
 (try (refine xst ?_; try exact xtI))
 refine gcallN ?_ ?_
 ·rfl
 (try (refine xst ?_; try exact xtI))
 (try (refine ⟨by kernel_rfl, ?_⟩))
 (try (refine xst ?_; try exact xtI))
 refine cond_i (fun h1 => ?_) (fun h1 => ?_)
 ·(try replace h1 := xhh h1)
  (try (refine xst ?_; try exact xtI))
  refine retM [0, 1, 2, 3] rfl rfl (by decide) ⟨?_, ?_, ?_, ?_, trivial⟩ trivial ?_ <;> simp (etaStruct := .none) only [push_cast, DrawG, seval]
 ·(try replace h1 := xhh h1)
  exact absurd h1 (by decide)
theorem gmine_s (w : Wld) (d : Ded) (i : Nat) (hw : Right w) (h : w.troops.findIdx? (isId d.who) = some i) (b : Bool) (W : Wld) (hW : (mineOk w d i = true → W = mineAt w i (idxN w.f d.c) ∧ b = true) ∧ (mineOk w d i = false → W = w ∧ b = false)) : Spec Tryz.prog 132 [.ptr 0 0 0, dedA d] (shpH w) (B b) (shpH W) := by
 have hi := find_idx h
 have ok := hw.trp i hi
 have hav : atV w.f d.c = if inF w.f d.c then (placeV w.f d.c, 0) else (0, 7) := by unfold atV; rw [if_neg (by simp [hw.f])]
 have hx := ok.x; have hy := ok.y
 have hfl := fldE_ok hw.f
 have hld := ok.load
 refine spec_am Tryz.func132 rfl rfl mix 88 rfl [.tmp 4] Tryz.results132 (Nat.le_of_ble_eq_true rfl) ?_
 (iterate 2 ((try simp (etaStruct := .none) only [push_cast, DrawG, seval, getD_in _ _ _ hi, trpP]); (try (refine xsu ?_; try exact xtI))))
 refine caM [0, 1, 2, 3] (gtr_some w d.who i hw h) ?_
 (iterate 2 ((try simp (etaStruct := .none) only [push_cast, DrawG, seval, getD_in _ _ _ hi, trpP]); (try (refine xsu ?_; try exact xtI))))
 refine gcP (fun hcc => gbes_s (w.troops.getD i default).c d.c (by omega)) ?_
 (iterate 2 ((try simp (etaStruct := .none) only [push_cast, DrawG, seval, getD_in _ _ _ hi, trpP]); (try (refine xsu ?_; try exact xtI))))
 (try (refine ⟨by kernel_rfl, ?_⟩))
 (iterate 2 ((try simp (etaStruct := .none) only [push_cast, DrawG, seval, getD_in _ _ _ hi, trpP]); (try (refine xsu ?_; try exact xtI))))
 refine cond_i (fun h1 => ?_) (fun h1 => ?_)
 ·(try replace h1 := xhh h1)
  have e : mineOk w d i = false := by
   unfold mineOk
   simp only [Bool.and_eq_false_iff, decide_eq_false_iff_not]
   rcases h1 with (h1 | h1) | h1
   ·exact .inl (.inl (.inl (.inl (by omega))))
   ·exact .inl (.inl (.inl (.inr (by omega))))
   ·exact .inl (.inl (.inr h1))
  obtain ⟨rfl, rfl⟩ := hW.2 e
  (iterate 2 ((try simp (etaStruct := .none) only [push_cast, DrawG, seval, getD_in _ _ _ hi, trpP]); (try (refine xsu ?_; try exact xtI))))
  refine retM [0, 1, 2, 3] rfl rfl (by decide) ⟨?_, ?_, ?_, ?_, trivial⟩ trivial ?_ <;> simp (etaStruct := .none) only [push_cast, DrawG, seval, mineAt, withLoad, List.map_set, i64P, trpP]
 ·(try replace h1 := xhh h1)
  (iterate 2 ((try simp (etaStruct := .none) only [push_cast, DrawG, seval, getD_in _ _ _ hi, trpP]); (try (refine xsu ?_; try exact xtI))))
  refine caP (at_s w.f d.c hw.l.1) ?_
  rw [hav]
  (iterate 2 ((try simp (etaStruct := .none) only [push_cast, DrawG, seval, getD_in _ _ _ hi, trpP]); (try (refine xsu ?_; try exact xtI))))
  (try (refine ⟨by kernel_rfl, ?_⟩))
  (iterate 2 ((try simp (etaStruct := .none) only [push_cast, DrawG, seval, getD_in _ _ _ hi, trpP]); (try (refine xsu ?_; try exact xtI))))
  refine cond_i (fun h2 => ?_) (fun h2 => ?_)
  ·(try replace h2 := xhh h2)
   have hin : inF w.f d.c = false := by
    cases hc : inF w.f d.c with
    | false => rfl
    | true => rw [hc] at h2; simp at h2
   have e : mineOk w d i = false := by unfold mineOk; rw [hin]; simp
   obtain ⟨rfl, rfl⟩ := hW.2 e
   (iterate 2 ((try simp (etaStruct := .none) only [push_cast, DrawG, seval, getD_in _ _ _ hi, trpP]); (try (refine xsu ?_; try exact xtI))))
   refine retM [0, 1, 2, 3] rfl rfl (by decide) ⟨?_, ?_, ?_, ?_, trivial⟩ trivial ?_ <;> simp (etaStruct := .none) only [push_cast, DrawG, seval, mineAt, withLoad, List.map_set, i64P, trpP]
  ·(try replace h2 := xhh h2)
   have hin : inF w.f d.c = true := by
    cases hc : inF w.f d.c with
    | true => rfl
    | false => rw [hc] at h2; simp at h2
   obtain ⟨m1, m2, m3, m4⟩ := idx_in hw hin
   obtain ⟨m, hm⟩ : ∃ m, m = idxN w.f d.c := ⟨_, rfl⟩
   rw [← hm] at m1 m2
   have hml := hw.ml
   have hpl := hw.places
   have ew1 : IntKind.i64.wrap (IntKind.i64.wrap (d.c.y * w.f.w) + d.c.x) = (m : Int) := by rw [wrap_in (d.c.y * w.f.w) (by omega) (by omega), wrap_in _ (by omega) (by omega)]; exact m2
   have hmb := (hw.mine m m1).1
   (iterate 2 ((try simp (etaStruct := .none) only [push_cast, DrawG, seval, getD_in _ _ _ hi, trpP, ew1, getD_in _ _ _ m1, i64P]); (try (refine xsu ?_; try exact xtI))))
   (try (refine ⟨by kernel_rfl, ?_⟩))
   (iterate 2 ((try simp (etaStruct := .none) only [push_cast, DrawG, seval, getD_in _ _ _ hi, trpP, ew1, getD_in _ _ _ m1, i64P]); (try (refine xsu ?_; try exact xtI))))
   refine cond_i (fun h3 => ?_) (fun h3 => ?_)
   ·(try replace h3 := xhh h3)
    have e : mineOk w d i = false := by
     unfold mineOk
     rw [← hm, h3]; simp
    obtain ⟨rfl, rfl⟩ := hW.2 e
    (iterate 2 ((try simp (etaStruct := .none) only [push_cast, DrawG, seval, getD_in _ _ _ hi, trpP, ew1, getD_in _ _ _ m1, i64P]); (try (refine xsu ?_; try exact xtI))))
    refine retM [0, 1, 2, 3] rfl rfl (by decide) ⟨?_, ?_, ?_, ?_, trivial⟩ trivial ?_ <;> simp (etaStruct := .none) only [push_cast, DrawG, seval, mineAt, withLoad, List.map_set, i64P, trpP]
   ·(try replace h3 := xhh h3)
    have e : mineOk w d i = true := by
     unfold mineOk
     rw [← hm, hin]
     simp only [Bool.and_eq_true, decide_eq_true_eq]
     exact ⟨⟨⟨⟨by omega, by omega⟩, h1.2⟩, trivial⟩, by omega⟩
    obtain ⟨rfl, rfl⟩ := hW.1 e
    rw [← hm]
    (iterate 2 ((try simp (etaStruct := .none) only [push_cast, DrawG, seval, getD_in _ _ _ hi, trpP, ew1, getD_in _ _ _ m1, i64P]); (try (refine xsu ?_; try exact xtI))))
    refine retM [0, 1, 2, 3] rfl rfl (by decide) ⟨?_, ?_, ?_, ?_, trivial⟩ trivial ?_ <;> simp (etaStruct := .none) only [push_cast, DrawG, seval, mineAt, withLoad, List.map_set, i64P, trpP]
theorem gdrop_none (w : Wld) (d : Ded) (hw : Right w) (h : w.troops.findIdx? (isId d.who) = none) : Spec Tryz.prog 133 [.ptr 0 0 0, dedA d] (shpH w) (B false) (shpH w) := by
 refine spec_am Tryz.func133 rfl rfl mix 80 rfl [.tmp 4] Tryz.results133 (Nat.le_of_ble_eq_true rfl) ?_
 (try (refine xst ?_; try exact xtI))
 refine caM [0, 1, 2, 3] (gtr_none w d.who hw h) ?_
 (try (refine xst ?_; try exact xtI))
 refine gcallN ?_ ?_
 ·rfl
 (try (refine xst ?_; try exact xtI))
 (try (refine ⟨by kernel_rfl, ?_⟩))
 (try (refine xst ?_; try exact xtI))
 refine cond_i (fun h1 => ?_) (fun h1 => ?_)
 ·(try replace h1 := xhh h1)
  (try (refine xst ?_; try exact xtI))
  refine retM [0, 1, 2, 3] rfl rfl (by decide) ⟨?_, ?_, ?_, ?_, trivial⟩ trivial ?_ <;> simp (etaStruct := .none) only [push_cast, DrawG, seval]
 ·(try replace h1 := xhh h1)
  exact absurd h1 (by decide)
theorem drop_zero {w : Wld} (hw : Right w) {i : Nat} (hi : i < w.troops.length) (h : (w.troops.getD i default).load = 0) : dropN w i = 0 ∧ dropAt w i = w := by
 have hn := dropN_b hw hi
 have h0 : dropN w i = 0 := by omega
 obtain ⟨o, e, ho, hs⟩ := own_at hw hi
 refine ⟨h0, ?_⟩
 unfold dropAt
 rw [h0, Int.add_zero, Int.sub_zero, set_same _ _ (by omega)]
 have : withLoad (w.troops.getD i default) (w.troops.getD i default).load = w.troops.getD i default := rfl
 rw [this, set_same _ _ hi]
theorem gdrop_s (w : Wld) (d : Ded) (i : Nat) (hw : Right w) (h : w.troops.findIdx? (isId d.who) = some i) (b : Bool) (W : Wld) (hW : (dropOk w i = true → W = dropAt w i ∧ b = decide (0 < dropN w i)) ∧ (dropOk w i = false → W = w ∧ b = false)) : Spec Tryz.prog 133 [.ptr 0 0 0, dedA d] (shpH w) (B b) (shpH W) := by
 have hi := find_idx h
 have ok := hw.trp i hi
 obtain ⟨o, eo, ho, hs⟩ := own_at hw hi
 have hn := dropN_b hw hi
 have hb := hw.base o ho
 have hbx := inF_iff.1 (ground_iff.1 hb.1).1
 have hfl := fldE_ok hw.f
 have hld := ok.load
 have eo2 : (w.troops.getD i default).owner.toNat = o := by omega
 have edN : dropN w i = min (w.troops.getD i default).load (1000000 - w.stocks.getD o default) := by unfold dropN; rw [eo2]
 have ew1 : IntKind.i64.wrap (1000000 - w.stocks.getD o default) = 1000000 - w.stocks.getD o default := wrap_in _ (by omega) (by omega)
 have emn : (if 1000000 - w.stocks.getD o default < (w.troops.getD i default).load then 1000000 - w.stocks.getD o default else (w.troops.getD i default).load) = dropN w i := by rw [edN]; split <;> omega
 rw [eo2] at hn
 have ew3 : IntKind.i64.wrap ((w.troops.getD i default).load - dropN w i) = (w.troops.getD i default).load - dropN w i := wrap_in _ (by rcases ok.kind with k | k <;> omega) (by rcases ok.kind with k | k <;> omega)
 have setg : ∀ x : List PV, ((w.troops.map trpP).set i x).getD i [] = x := fun x => by rw [getD_at' _ _ _ (by simpa using hi)]; simp
 refine spec_am Tryz.func133 rfl rfl mix 80 rfl [.tmp 4] Tryz.results133 (Nat.le_of_ble_eq_true rfl) ?_
 (iterate 2 ((try simp (etaStruct := .none) only [push_cast, DrawG, seval, setg, getD_in _ _ _ hi, trpP, eo, getD_in _ _ _ ho, celP, getD_in _ _ _ hs, i64P, ew1, emn]); (try (refine xsu ?_; try exact xtI))))
 refine caM [0, 1, 2, 3] (gtr_some w d.who i hw h) ?_
 (iterate 2 ((try simp (etaStruct := .none) only [push_cast, DrawG, seval, setg, getD_in _ _ _ hi, trpP, eo, getD_in _ _ _ ho, celP, getD_in _ _ _ hs, i64P, ew1, emn]); (try (refine xsu ?_; try exact xtI))))
 refine gcP (fun hcc => gbes_s (w.bases.getD o default) (w.troops.getD i default).c (by omega)) ?_
 (iterate 2 ((try simp (etaStruct := .none) only [push_cast, DrawG, seval, setg, getD_in _ _ _ hi, trpP, eo, getD_in _ _ _ ho, celP, getD_in _ _ _ hs, i64P, ew1, emn]); (try (refine xsu ?_; try exact xtI))))
 (try (refine ⟨by kernel_rfl, ?_⟩))
 (iterate 2 ((try simp (etaStruct := .none) only [push_cast, DrawG, seval, setg, getD_in _ _ _ hi, trpP, eo, getD_in _ _ _ ho, celP, getD_in _ _ _ hs, i64P, ew1, emn]); (try (refine xsu ?_; try exact xtI))))
 refine cond_i (fun h1 => ?_) (fun h1 => ?_)
 ·(try replace h1 := xhh h1)
  have hd : W = w ∧ b = false := by
   rcases h1 with h1 | h1
   ·obtain ⟨z1, z2⟩ := drop_zero hw hi h1
    cases hk : dropOk w i with
    | true => obtain ⟨q1, q2⟩ := hW.1 hk; rw [q1, q2, z1, z2]; exact ⟨rfl, rfl⟩
    | false => exact hW.2 hk
   ·exact hW.2 (by unfold dropOk; rw [eo2]; exact h1)
  obtain ⟨rfl, rfl⟩ := hd
  (iterate 2 ((try simp (etaStruct := .none) only [push_cast, DrawG, seval, setg, getD_in _ _ _ hi, trpP, eo, getD_in _ _ _ ho, celP, getD_in _ _ _ hs, i64P, ew1, emn]); (try (refine xsu ?_; try exact xtI))))
  refine retM [0, 1, 2, 3] rfl rfl (by decide) ⟨?_, ?_, ?_, ?_, trivial⟩ trivial ?_
  ·simp (etaStruct := .none) only [push_cast, DrawG, seval, dropAt]
  ·simp (etaStruct := .none) only [push_cast, DrawG, seval, dropAt, eo2, List.map_set, i64P]
  ·simp (etaStruct := .none) only [push_cast, DrawG, seval, dropAt]
  ·simp (etaStruct := .none) only [push_cast, DrawG, seval, dropAt, withLoad, List.map_set, trpP, eo, ew3]
  ·simp (etaStruct := .none) only [push_cast, DrawG, seval]
 ·(try replace h1 := xhh h1)
  obtain ⟨rfl, rfl⟩ := hW.1 (by unfold dropOk; rw [eo2]; exact h1.2)
  (iterate 2 ((try simp (etaStruct := .none) only [push_cast, DrawG, seval, setg, getD_in _ _ _ hi, trpP, eo, getD_in _ _ _ ho, celP, getD_in _ _ _ hs, i64P, ew1, emn]); (try (refine xsu ?_; try exact xtI))))
  (try (refine ⟨by kernel_rfl, ?_⟩))
  (iterate 2 ((try simp (etaStruct := .none) only [push_cast, DrawG, seval, setg, getD_in _ _ _ hi, trpP, eo, getD_in _ _ _ ho, celP, getD_in _ _ _ hs, i64P, ew1, emn]); (try (refine xsu ?_; try exact xtI))))
  (try (refine ⟨by kernel_rfl, ?_⟩))
  (iterate 2 ((try simp (etaStruct := .none) only [push_cast, DrawG, seval, setg, getD_in _ _ _ hi, trpP, eo, getD_in _ _ _ ho, celP, getD_in _ _ _ hs, i64P, ew1, emn]); (try (refine xsu ?_; try exact xtI))))
  refine retM [0, 1, 2, 3] rfl rfl (by decide) ⟨?_, ?_, ?_, ?_, trivial⟩ trivial ?_
  ·simp (etaStruct := .none) only [push_cast, DrawG, seval, dropAt]
  ·simp (etaStruct := .none) only [push_cast, DrawG, seval, dropAt, eo2, List.map_set, i64P]
  ·simp (etaStruct := .none) only [push_cast, DrawG, seval, dropAt]
  ·simp (etaStruct := .none) only [push_cast, DrawG, seval, dropAt, withLoad, List.map_set, trpP, eo, ew3]
  ·simp (etaStruct := .none) only [push_cast, DrawG, seval]
theorem trp_any (F : FuncId) (a b : List AV) (l : List Trp) (p : Trp → Bool) (hl : l.length ≤ 9223372036854775807) (hp : ∀ n ∈ l, Spec Tryz.prog F (a ++ [trpA n] ++ b) [] (B (p n)) []) (ha : ∀ h, cvL [] h a = a) (hb : ∀ h, cvL [] h b = b) :
 Spec Tryz.prog 80 [.c (.sl 7 (l.map trpP)), .clo (.func F) a b] [] (B (l.any p)) [] := by
 refine spec_am Tryz.func80 rfl rfl mix 9 rfl [.tmp 4] Tryz.results80 (Nat.le_of_ble_eq_true rfl) ?_
 simp (etaStruct := .none) only [push_cast, DrawG, seval]
 refine callP (trp_ix F a b l p hl hp ha hb) (by simp only [ha, hb, cvL, cv]; exact WkL.refl _) ?_
 simp (etaStruct := .none) only [push_cast, DrawG, seval]
 exact ret0 rfl trivial (Wk.of (by rw [ixOf_any]; rfl))
theorem gfc_s (t : Trp) (c : Cel) : Spec Tryz.prog 159 ([] ++ [trpA t] ++ [.fel 2 [[pI c.x, pI c.y]] 0 0]) [] (B (decide (t.c = c))) [] := by
 refine spec_am Tryz.func159 rfl rfl mix 8 rfl [.tmp 3] Tryz.results159 (Nat.le_of_ble_eq_true rfl) ?_
 (iterate 2 ((try simp (etaStruct := .none) only [push_cast, DrawG, seval, cel_dec]); (try (refine xsu ?_; try exact xtI))))
 exact xrz rfl
theorem around_at (b : Cel) {i j : Nat} (hi : i < 3) (hj : j < 3) : (around b).getD (1 + 3 * i + j) default = ⟨b.x + ((j : Int) - 1), b.y + ((i : Int) - 1)⟩ := by
 have h1 : i = 0 ∨ i = 1 ∨ i = 2 := by omega
 have h2 : j = 0 ∨ j = 1 ∨ j = 2 := by omega
 obtain ⟨x, y⟩ := b
 have e1 : x + (((1 : Nat) : Int) - 1) = x := by omega
 have e2 : y + (((1 : Nat) : Int) - 1) = y := by omega
 have e3 : x + (((0 : Nat) : Int) - 1) = x - 1 := by omega
 have e4 : y + (((0 : Nat) : Int) - 1) = y - 1 := by omega
 have e5 : x + (((2 : Nat) : Int) - 1) = x + 1 := by omega
 have e6 : y + (((2 : Nat) : Int) - 1) = y + 1 := by omega
 rcases h1 with rfl | rfl | rfl <;> rcases h2 with rfl | rfl | rfl <;> simp only [e1, e2, e3, e4, e5, e6] <;> rfl
theorem around_step (b : Cel) {i j : Nat} (hi : i < 3) (hj : j < 3) : (around b).take (1 + 3 * i + (j + 1)) = (around b).take (1 + 3 * i + j) ++ [(⟨b.x + ((j : Int) - 1), b.y + ((i : Int) - 1)⟩ : Cel)] := by
 rw [← around_at b hi hj]
 change (around b).take ((1 + 3 * i + j) + 1) = _
 exact take_snoc _ _ (by rw [show (around b).length = 10 from rfl]; omega)
theorem gfree_s (w : Wld) (b : Cel) (hw : Right w) (hb : -1000 ≤ b.x ∧ b.x ≤ 1000 ∧ -1000 ≤ b.y ∧ b.y ≤ 1000) (c : Cel) (q : Bool) (h : (∀ c', freeV w b = some c' → c = c' ∧ q = true) ∧ (freeV w b = none → c = ⟨0, 0⟩ ∧ q = false)) : Spec Tryz.prog 151 [.ptr 0 0 0, celA b] (shpH w) (.tup [celA c, B q]) (shpH w) := by
 have hal : (around b).length = 10 := rfl
 have hnt := hw.nt
 have hav : ∀ c, atV w.f c = if inF w.f c then (placeV w.f c, 0) else (0, 7) := fun c => by unfold atV; rw [if_neg (by simp [hw.f])]
 refine spec_am Tryz.func151 rfl rfl mix 70 rfl [.cell 4 68, .tmp 5] Tryz.results151 (Nat.le_of_ble_eq_true rfl) ?_
 (try (refine xst ?_; try exact xtI))
 refine loopI (fun i : Nat => ⟨[(7, I .i64 ((i : Int) - 1)), (6, .own 6), (4, .ptr 5 0 0), (3, .ptr 4 0 0), (0, .ptr 0 0 0)], [(0, .blk 157 (shpC w 1 2 3)), (1, stR w), (2, miR w), (3, trR w), (4, .blk 68 [I .i64 b.x, I .i64 b.y]), (5, .blk 68 [I .i64 0, I .i64 0]), (6, .row 68 2 (((around b).take (1 + 3 * i)).map celP))], 7⟩) (fun i : Nat => i ≤ 3) (fun i : Nat => 3 - i) (0) (Nat.zero_le _) (To.mk [0, 1, 2, 3, 4, 5, 6] rfl rfl (by decide) ?_ ?_) ?_
 ·simp (etaStruct := .none) only [push_cast, DrawG, seval, around, celP]
 ·simp (etaStruct := .none) only [push_cast, DrawG, seval, Int.zero_sub]
 rintro i hi
 (try (refine xst ?_; try exact xtI))
 refine cond_i (fun h1 => ?_) (fun h1 => ?_)
 ·(try replace h1 := xhh h1)
  have hi3 : i < 3 := by omega
  (try (refine xst ?_; try exact xtI))
  refine loopI (fun j : Nat => ⟨[(8, I .i64 ((j : Int) - 1)), (7, I .i64 ((i : Int) - 1)), (6, .own 6), (4, .ptr 5 0 0), (3, .ptr 4 0 0), (0, .ptr 0 0 0)], [(0, .blk 157 (shpC w 1 2 3)), (1, stR w), (2, miR w), (3, trR w), (4, .blk 68 [I .i64 b.x, I .i64 b.y]), (5, .blk 68 [I .i64 0, I .i64 0]), (6, .row 68 2 (((around b).take (1 + 3 * i + j)).map celP))], 7⟩) (fun j : Nat => j ≤ 3) (fun j : Nat => 3 - j) (0) (Nat.zero_le _) (To.mk [0, 1, 2, 3, 4, 5, 6] rfl rfl (by decide) ?_ ?_) ?_
  ·simp (etaStruct := .none) only [push_cast, DrawG, seval]
  ·simp (etaStruct := .none) only [push_cast, DrawG, seval, Int.zero_sub]
  rintro j hj
  (try (refine xst ?_; try exact xtI))
  refine cond_i (fun h2 => ?_) (fun h2 => ?_)
  ·(try replace h2 := xhh h2)
   have hj3 : j < 3 := by omega
   have hst := around_step b hi3 hj3
   have hln : ((around b).take (1 + 3 * i + j)).length ≤ 10 := by rw [List.length_take, hal]; omega
   (try (refine xst ?_; try exact xtI))
   refine ⟨j + 1, by omega, by omega, To.mk [0, 1, 2, 3, 4, 5, 8] rfl rfl (by decide) ?_ ?_⟩
   ·(iterate 2 ((try simp (etaStruct := .none) only [push_cast, DrawG, seval, hst, List.map_append, celP]); (try (refine xsu ?_; try exact xtI))))
   ·(iterate 2 ((try simp (etaStruct := .none) only [push_cast, DrawG, seval, Int.add_sub_cancel, Int.sub_add_cancel]); (try (refine xsu ?_; try exact xtI))))
  ·(try replace h2 := xhh h2)
   obtain rfl : j = 3 := by omega
   (try (refine xst ?_; try exact xtI))
   refine ⟨i + 1, by omega, by omega, To.mk [0, 1, 2, 3, 4, 5, 6] rfl rfl (by decide) ?_ ?_⟩
   ·(iterate 2 ((try simp (etaStruct := .none) only [push_cast, DrawG, seval, Nat.mul_add, Nat.mul_one, Nat.add_assoc]); (try (refine xsu ?_; try exact xtI))))
   ·(iterate 2 ((try simp (etaStruct := .none) only [push_cast, DrawG, seval, Int.add_sub_cancel, Int.sub_add_cancel]); (try (refine xsu ?_; try exact xtI))))
 ·(try replace h1 := xhh h1)
  obtain rfl : i = 3 := by omega
  have hta : (around b).take (1 + 3 * 3) = around b := rfl
  (try (refine xst ?_; try exact xtI))
  refine loopI (fun k : Nat => ⟨[(37, I .i64 k), (36, I .i64 10), (35, .own 6), (4, .ptr 5 0 0), (0, .ptr 0 0 0)], [(0, .blk 157 (shpC w 1 2 3)), (1, stR w), (2, miR w), (3, trR w), (4, .blk 68 [I .i64 b.x, I .i64 b.y]), (5, .blk 68 [I .i64 0, I .i64 0]), (6, .row 68 2 ((around b).map celP))], 7⟩) (fun k : Nat => k ≤ 10 ∧ ∀ j, j < k → freeB w ((around b).getD j default) = false) (fun k : Nat => 10 - k) (0) (⟨Nat.zero_le _, fun j h => absurd h (Nat.not_lt_zero _)⟩) (To.mk [0, 1, 2, 3, 4, 5, 6] rfl rfl (by decide) ?_ ?_) ?_
  ·simp (etaStruct := .none) only [push_cast, DrawG, seval, hta]
  ·simp (etaStruct := .none) only [push_cast, DrawG, seval, hta, hal]
  rintro k ⟨hk, hn⟩
  (try (refine xst ?_; try exact xtI))
  refine cond_i (fun h3 => ?_) (fun h3 => ?_)
  ·(try replace h3 := xhh h3)
   have hlt : k < (around b).length := by rw [hal]; omega
   obtain ⟨x, hx⟩ : ∃ x, x = (around b).getD k default := ⟨_, rfl⟩
   (iterate 2 ((try simp (etaStruct := .none) (maxSteps := 1000000) only [push_cast, DrawG, seval, getD_in _ _ _ hlt, ← hx, celP]); (try (refine xsu ?_; try exact xtI))))
   refine caP (at_s w.f x hw.l.1) ?_
   rw [hav]
   (iterate 2 ((try simp (etaStruct := .none) (maxSteps := 1000000) only [push_cast, DrawG, seval, getD_in _ _ _ hlt, ← hx, celP]); (try (refine xsu ?_; try exact xtI))))
   (try (refine ⟨by kernel_rfl, ?_⟩))
   (iterate 2 ((try simp (etaStruct := .none) (maxSteps := 1000000) only [push_cast, DrawG, seval, getD_in _ _ _ hlt, ← hx, celP]); (try (refine xsu ?_; try exact xtI))))
   refine gcallB (fun hcc => trp_any _ [] [.fel 2 [[pI x.x, pI x.y]] 0 0] w.troops (fun t => decide (t.c = x)) (by omega) (fun t _ => gfc_s t x) (fun _ => rfl) (fun _ => rfl)) (WkL.refl _) rfl (by intro hc; (try simp (etaStruct := .none) only [push_cast, DrawG, seval]); (try simp_all)) ?_
   (iterate 2 ((try simp (etaStruct := .none) (maxSteps := 1000000) only [push_cast, DrawG, seval, getD_in _ _ _ hlt, ← hx, celP]); (try (refine xsu ?_; try exact xtI))))
   refine cond_i (fun h4 => ?_) (fun h4 => ?_)
   ·(try replace h4 := xhh h4)
    have hfb : freeB w x = true := by
     unfold freeB groundV
     cases hc : inF w.f x with
     | false => rw [hc] at h4; simp at h4
     | true =>
      rw [hc] at h4
      simp only [if_true] at h4
      rw [h4.2]; simp; exact h4.1.2
    obtain ⟨rfl, rfl⟩ := h.1 x (by unfold freeV; rw [hx]; exact find_hit _ _ k hlt (by rw [← hx]; exact hfb) hn)
    (iterate 2 ((try simp (etaStruct := .none) (maxSteps := 1000000) only [push_cast, DrawG, seval, getD_in _ _ _ hlt, ← hx, celP]); (try (refine xsu ?_; try exact xtI))))
    refine retM [0, 1, 2, 3] rfl rfl (by decide) ⟨?_, ?_, ?_, ?_, trivial⟩ ?_ ?_ <;> first | exact Wk.refl _ | (try simp (etaStruct := .none) only [push_cast, DrawG, seval])
   ·(try replace h4 := xhh h4)
    have hfb : freeB w x = false := by
     unfold freeB groundV
     cases hc : inF w.f x with
     | false => rfl
     | true =>
      rw [hc] at h4
      simp only [if_true] at h4
      rcases h4 with h4 | h4
      ·by_cases hp : placeV w.f x = 1
       ·simp [hp]
       ·exact absurd (h4.resolve_left (fun n => n trivial)) hp
      ·rw [h4]; simp
    (iterate 2 ((try simp (etaStruct := .none) (maxSteps := 1000000) only [push_cast, DrawG, seval, getD_in _ _ _ hlt, ← hx, celP]); (try (refine xsu ?_; try exact xtI))))
    refine ⟨k + 1, ⟨by omega, fun j hj => by
 rcases Nat.lt_or_ge j k with h' | h'
 ·exact hn j h'
 ·rw [show j = k by omega, ← hx]; exact hfb⟩, by omega, To.mk [0, 1, 2, 3, 4, 5, 6] rfl rfl (by decide) ?_ ?_⟩
    ·(iterate 2 ((try simp (etaStruct := .none) (maxSteps := 1000000) only [push_cast, DrawG, seval, getD_in _ _ _ hlt, ← hx, celP]); (try (refine xsu ?_; try exact xtI))))
    ·(iterate 2 ((try simp (etaStruct := .none) (maxSteps := 1000000) only [push_cast, DrawG, seval, getD_in _ _ _ hlt, ← hx, celP]); (try (refine xsu ?_; try exact xtI))))
  ·(try replace h3 := xhh h3)
   obtain ⟨rfl, rfl⟩ := h.2 (find_miss _ _ (fun j hj => hn j (by rw [hal] at hj; omega)))
   (try (refine xst ?_; try exact xtI))
   refine retM [0, 1, 2, 3] rfl rfl (by decide) ⟨?_, ?_, ?_, ?_, trivial⟩ ?_ ?_ <;> first | exact Wk.refl _ | (try simp (etaStruct := .none) only [push_cast, DrawG, seval])
end Go.Proofs.YtllmjdcblfkfaaaGreat
namespace Go.Proofs.YtllmjdcblfkfaaaGreat
set_option linter.all false
open Go.RowKit
set_option maxRecDepth 100000
set_option maxHeartbeats 2000000
theorem kindE_iff (k : Int) : kindE k = 0 ↔ k = 1 ∨ k = 2 := by unfold kindE; split <;> (try split) <;> omega
theorem base_box {w : Wld} (hw : Right w) {i : Nat} (hi : i < w.bases.length) : -1000 ≤ (w.bases.getD i default).x ∧ (w.bases.getD i default).x ≤ 1000 ∧ -1000 ≤ (w.bases.getD i default).y ∧ (w.bases.getD i default).y ≤ 1000 := by
 have := inF_iff.1 (ground_iff.1 (hw.base i hi).1).1
 have := fldE_ok hw.f
 omega
theorem ghire_out (w : Wld) (d : Ded) (hw : Right w) (h : w.stocks.length ≤ d.who.toNat) : Spec Tryz.prog 134 [.ptr 0 0 0, dedA d] (shpH w) (B false) (shpH w) := by
 have hsl := hw.sl
 have hg : (w.stocks.map i64P).getD d.who.toNat [] = [] := by
  simp only [List.getD_eq_getElem?_getD]; rw [List.getElem?_eq_none (by rw [List.length_map]; exact h)]; rfl
 have hge : d.who < 0 ∨ (w.bases.length : Int) ≤ d.who := by omega
 refine spec_am Tryz.func134 rfl rfl mix 126 rfl [.tmp 4] Tryz.results134 (Nat.le_of_ble_eq_true rfl) ?_
 (iterate 2 ((try simp (etaStruct := .none) (maxSteps := 1000000) only [push_cast, DrawG, seval, hg]); (try (refine xsu ?_; try exact xtI))))
 refine caP (tkind_s d.what) ?_
 (iterate 2 ((try simp (etaStruct := .none) (maxSteps := 1000000) only [push_cast, DrawG, seval, hg]); (try (refine xsu ?_; try exact xtI))))
 (try (refine ⟨by kernel_rfl, ?_⟩))
 (iterate 2 ((try simp (etaStruct := .none) (maxSteps := 1000000) only [push_cast, DrawG, seval, hg]); (try (refine xsu ?_; try exact xtI))))
 refine cond_i (fun h1 => ?_) (fun h1 => ?_)
 ·(try replace h1 := xhh h1)
  (iterate 2 ((try simp (etaStruct := .none) (maxSteps := 1000000) only [push_cast, DrawG, seval, hg]); (try (refine xsu ?_; try exact xtI))))
  refine retM [0, 1, 2, 3] rfl rfl (by decide) ⟨?_, ?_, ?_, ?_, trivial⟩ trivial ?_ <;> first | exact Wk.refl _ | simp (etaStruct := .none) only [push_cast, DrawG, seval]
 ·(try replace h1 := xhh h1)
  exact absurd h1 (by decide)
theorem ghire_no (w : Wld) (d : Ded) (hw : Right w) (h : d.who.toNat < w.stocks.length) (hno : hireOk w d = false ∨ freeV w (w.bases.getD d.who.toNat default) = none) : Spec Tryz.prog 134 [.ptr 0 0 0, dedA d] (shpH w) (B false) (shpH w) := by
 have hsl := hw.sl
 have hb : d.who.toNat < w.bases.length := by omega
 have hbb := base_box hw hb
 have hnt := hw.nt
 refine spec_am Tryz.func134 rfl rfl mix 126 rfl [.tmp 4] Tryz.results134 (Nat.le_of_ble_eq_true rfl) ?_
 (iterate 2 ((try simp (etaStruct := .none) (maxSteps := 1000000) only [push_cast, DrawG, seval, getD_in _ _ _ h, getD_in _ _ _ hb, i64P, celP]); (try (refine xsu ?_; try exact xtI))))
 refine caP (tkind_s d.what) ?_
 (iterate 2 ((try simp (etaStruct := .none) (maxSteps := 1000000) only [push_cast, DrawG, seval, getD_in _ _ _ h, getD_in _ _ _ hb, i64P, celP]); (try (refine xsu ?_; try exact xtI))))
 (try (refine ⟨by kernel_rfl, ?_⟩))
 (iterate 2 ((try simp (etaStruct := .none) (maxSteps := 1000000) only [push_cast, DrawG, seval, getD_in _ _ _ h, getD_in _ _ _ hb, i64P, celP]); (try (refine xsu ?_; try exact xtI))))
 refine cond_i (fun h1 => ?_) (fun h1 => ?_)
 ·(try replace h1 := xhh h1)
  (iterate 2 ((try simp (etaStruct := .none) (maxSteps := 1000000) only [push_cast, DrawG, seval, getD_in _ _ _ h, getD_in _ _ _ hb, i64P, celP]); (try (refine xsu ?_; try exact xtI))))
  refine retM [0, 1, 2, 3] rfl rfl (by decide) ⟨?_, ?_, ?_, ?_, trivial⟩ trivial ?_ <;> first | exact Wk.refl _ | simp (etaStruct := .none) only [push_cast, DrawG, seval]
 ·(try replace h1 := xhh h1)
  have hy : hireOk w d = true := by rw [hireOk_iff, ← kindE_iff]; exact ⟨⟨⟨⟨⟨by omega, by omega⟩, by omega⟩, by omega⟩, by omega⟩, by omega⟩
  have hf : freeV w (w.bases.getD d.who.toNat default) = none := by rcases hno with h2 | h2; rw [hy] at h2; simp at h2; exact h2
  (iterate 2 ((try simp (etaStruct := .none) (maxSteps := 1000000) only [push_cast, DrawG, seval, getD_in _ _ _ h, getD_in _ _ _ hb, i64P, celP]); (try (refine xsu ?_; try exact xtI))))
  refine callM [0, 1, 2, 3] (gfree_s w (w.bases.getD d.who.toNat default) hw hbb ⟨0, 0⟩ false ⟨fun c' hc => by rw [hf] at hc; simp at hc, fun _ => ⟨rfl, rfl⟩⟩) (WkL.refl _) rfl (by decide) (by simp [lookC_c, onlyC, memN]) ?_
  (iterate 2 ((try simp (etaStruct := .none) (maxSteps := 1000000) only [push_cast, DrawG, seval, getD_in _ _ _ h, getD_in _ _ _ hb, i64P, celP]); (try (refine xsu ?_; try exact xtI))))
  (try (refine ⟨by kernel_rfl, ?_⟩))
  (iterate 2 ((try simp (etaStruct := .none) (maxSteps := 1000000) only [push_cast, DrawG, seval, getD_in _ _ _ h, getD_in _ _ _ hb, i64P, celP]); (try (refine xsu ?_; try exact xtI))))
  refine cond_i (fun h2 => ?_) (fun h2 => ?_)
  ·(try replace h2 := xhh h2)
   (iterate 2 ((try simp (etaStruct := .none) (maxSteps := 1000000) only [push_cast, DrawG, seval, getD_in _ _ _ h, getD_in _ _ _ hb, i64P, celP]); (try (refine xsu ?_; try exact xtI))))
   refine retM [0, 1, 2, 3] rfl rfl (by decide) ⟨?_, ?_, ?_, ?_, trivial⟩ trivial ?_ <;> first | exact Wk.refl _ | simp (etaStruct := .none) only [push_cast, DrawG, seval]
  ·(try replace h2 := xhh h2)
   exact absurd h2 (by decide)
abbrev shpH' (w : Wld) : List Chunk := [.blk 157 (shpC w 1 2 4), stR w, miR w, .dead, trR w]
theorem ghire_yes (w : Wld) (d : Ded) (hw : Right w) (ho : hireOk w d = true) (c : Cel) (hc : freeV w (w.bases.getD d.who.toNat default) = some c) : Spec Tryz.prog 134 [.ptr 0 0 0, dedA d] (shpH w) (B true) (shpH' (hireAt w d c)) := by
 have hsl := hw.sl
 have hoi := hireOk_iff.1 ho
 rw [← kindE_iff] at hoi
 have h : d.who.toNat < w.stocks.length := by omega
 have hb : d.who.toNat < w.bases.length := by omega
 have hbb := base_box hw hb
 have hnt := hw.nt
 have hnx := hw.nx
 have hst := (hw.base _ hb).2.1
 have hpr : 0 ≤ (kindV d.what).price ∧ (kindV d.what).price ≤ 12 := by rcases (kindE_iff _).1 hoi.1.1.1.2 with e | e <;> rw [e] <;> decide
 have ew : IntKind.i64.wrap (w.stocks.getD d.who.toNat default - (kindV d.what).price) = w.stocks.getD d.who.toNat default - (kindV d.what).price := wrap_in _ (by omega) (by omega)
 have ew2 : IntKind.i64.wrap (w.next + 1) = w.next + 1 := wrap_in _ (by omega) (by omega)
 refine spec_am Tryz.func134 rfl rfl mix 126 rfl [.tmp 4] Tryz.results134 (Nat.le_of_ble_eq_true rfl) ?_
 (iterate 2 ((try simp (etaStruct := .none) (maxSteps := 1000000) only [push_cast, DrawG, seval, getD_in _ _ _ h, getD_in _ _ _ hb, i64P, celP, ew, ew2]); (try (refine xsu ?_; try exact xtI))))
 refine caP (tkind_s d.what) ?_
 (iterate 2 ((try simp (etaStruct := .none) (maxSteps := 1000000) only [push_cast, DrawG, seval, getD_in _ _ _ h, getD_in _ _ _ hb, i64P, celP, ew, ew2]); (try (refine xsu ?_; try exact xtI))))
 (try (refine ⟨by kernel_rfl, ?_⟩))
 (iterate 2 ((try simp (etaStruct := .none) (maxSteps := 1000000) only [push_cast, DrawG, seval, getD_in _ _ _ h, getD_in _ _ _ hb, i64P, celP, ew, ew2]); (try (refine xsu ?_; try exact xtI))))
 refine cond_i (fun h1 => ?_) (fun h1 => ?_)
 ·(try replace h1 := xhh h1)
  exfalso; omega
 ·(try replace h1 := xhh h1)
  (iterate 2 ((try simp (etaStruct := .none) (maxSteps := 1000000) only [push_cast, DrawG, seval, getD_in _ _ _ h, getD_in _ _ _ hb, i64P, celP, ew, ew2]); (try (refine xsu ?_; try exact xtI))))
  refine callM [0, 1, 2, 3] (gfree_s w (w.bases.getD d.who.toNat default) hw hbb c true ⟨fun c' hc' => by rw [hc] at hc'; exact ⟨(Option.some.inj hc'), rfl⟩, fun hn => by rw [hc] at hn; simp at hn⟩) (WkL.refl _) rfl (by decide) (by simp [lookC_c, onlyC, memN]) ?_
  (iterate 2 ((try simp (etaStruct := .none) (maxSteps := 1000000) only [push_cast, DrawG, seval, getD_in _ _ _ h, getD_in _ _ _ hb, i64P, celP, ew, ew2]); (try (refine xsu ?_; try exact xtI))))
  (try (refine ⟨by kernel_rfl, ?_⟩))
  (iterate 2 ((try simp (etaStruct := .none) (maxSteps := 1000000) only [push_cast, DrawG, seval, getD_in _ _ _ h, getD_in _ _ _ hb, i64P, celP, ew, ew2]); (try (refine xsu ?_; try exact xtI))))
  refine cond_i (fun h2 => ?_) (fun h2 => ?_)
  ·(try replace h2 := xhh h2)
   exact absurd h2 (by decide)
  ·(try replace h2 := xhh h2)
   (iterate 2 ((try simp (etaStruct := .none) (maxSteps := 1000000) only [push_cast, DrawG, seval, getD_in _ _ _ h, getD_in _ _ _ hb, i64P, celP, ew, ew2]); (try (refine xsu ?_; try exact xtI))))
   (try (refine ⟨by kernel_rfl, ?_⟩))
   (iterate 2 ((try simp (etaStruct := .none) (maxSteps := 1000000) only [push_cast, DrawG, seval, getD_in _ _ _ h, getD_in _ _ _ hb, i64P, celP, ew, ew2]); (try (refine xsu ?_; try exact xtI))))
   (try (refine ⟨by kernel_rfl, ?_⟩))
   (iterate 2 ((try simp (etaStruct := .none) (maxSteps := 1000000) only [push_cast, DrawG, seval, getD_in _ _ _ h, getD_in _ _ _ hb, i64P, celP, ew, ew2]); (try (refine xsu ?_; try exact xtI))))
   refine retM [0, 1, 2, 3, 350] rfl rfl (by decide) ⟨?_, ?_, ?_, ?_, ?_, trivial⟩ trivial ?_
   ·simp (etaStruct := .none) (maxSteps := 1000000) only [push_cast, DrawG, seval, hireAt]
   ·simp (etaStruct := .none) (maxSteps := 1000000) only [push_cast, DrawG, seval, hireAt, List.map_set, i64P]
   ·simp (etaStruct := .none) (maxSteps := 1000000) only [push_cast, DrawG, seval, hireAt]
   ·simp (etaStruct := .none) (maxSteps := 1000000) only [push_cast, DrawG, seval, hireAt]
   ·simp (etaStruct := .none) (maxSteps := 1000000) only [push_cast, DrawG, seval, hireAt, List.map_append, trpP]
   ·exact Wk.refl _
theorem gdeed_1 (w W : Wld) (d : Ded) (b : Bool) (h : d.kind = 1) (M : Spec Tryz.prog 132 [.ptr 0 0 0, dedA d] (shpH w) (B b) (shpH W)) : Spec Tryz.prog 98 [.ptr 0 0 0, dedA d] (shpH w) (B b) (shpH W) := by
 refine spec_am Tryz.func98 rfl rfl mix 22 rfl [.tmp 4] Tryz.results98 (Nat.le_of_ble_eq_true rfl) ?_
 (try (refine xst ?_; try exact xtI))
 refine cond_i (fun h1 => ?_) (fun h1 => ?_)
 ·(try replace h1 := xhh h1)
  (try (refine xst ?_; try exact xtI))
  refine caM [0, 1, 2, 3] (M) ?_
  (try (refine xst ?_; try exact xtI))
  refine retM [0, 1, 2, 3] rfl rfl (by decide) ⟨?_, ?_, ?_, ?_, trivial⟩ trivial ?_ <;> first | exact Wk.refl _ | simp (etaStruct := .none) only [push_cast, DrawG, seval]
 ·(try replace h1 := xhh h1)
  exact absurd h h1
theorem gdeed_2 (w W : Wld) (d : Ded) (b : Bool) (h : d.kind = 2) (M : Spec Tryz.prog 133 [.ptr 0 0 0, dedA d] (shpH w) (B b) (shpH W)) : Spec Tryz.prog 98 [.ptr 0 0 0, dedA d] (shpH w) (B b) (shpH W) := by
 refine spec_am Tryz.func98 rfl rfl mix 22 rfl [.tmp 4] Tryz.results98 (Nat.le_of_ble_eq_true rfl) ?_
 (try (refine xst ?_; try exact xtI))
 refine cond_i (fun h1 => ?_) (fun h1 => ?_)
 ·(try replace h1 := xhh h1)
  exfalso; omega
 ·(try replace h1 := xhh h1)
  (try (refine xst ?_; try exact xtI))
  refine cond_i (fun h2 => ?_) (fun h2 => ?_)
  ·(try replace h2 := xhh h2)
   (try (refine xst ?_; try exact xtI))
   refine caM [0, 1, 2, 3] (M) ?_
   (try (refine xst ?_; try exact xtI))
   refine retM [0, 1, 2, 3] rfl rfl (by decide) ⟨?_, ?_, ?_, ?_, trivial⟩ trivial ?_ <;> first | exact Wk.refl _ | simp (etaStruct := .none) only [push_cast, DrawG, seval]
  ·(try replace h2 := xhh h2)
   exact absurd h h2
theorem gdeed_3 (w : Wld) (d : Ded) (h : d.kind = 3) (M : Spec Tryz.prog 134 [.ptr 0 0 0, dedA d] (shpH w) (B false) (shpH w)) : Spec Tryz.prog 98 [.ptr 0 0 0, dedA d] (shpH w) (B false) (shpH w) := by
 refine spec_am Tryz.func98 rfl rfl mix 22 rfl [.tmp 4] Tryz.results98 (Nat.le_of_ble_eq_true rfl) ?_
 (try (refine xst ?_; try exact xtI))
 refine cond_i (fun h1 => ?_) (fun h1 => ?_)
 ·(try replace h1 := xhh h1)
  exfalso; omega
 ·(try replace h1 := xhh h1)
  (try (refine xst ?_; try exact xtI))
  refine cond_i (fun h2 => ?_) (fun h2 => ?_)
  ·(try replace h2 := xhh h2)
   exfalso; omega
  ·(try replace h2 := xhh h2)
   (try (refine xst ?_; try exact xtI))
   refine cond_i (fun h3 => ?_) (fun h3 => ?_)
   ·(try replace h3 := xhh h3)
    (try (refine xst ?_; try exact xtI))
    refine caM [0, 1, 2, 3] (M) ?_
    (try (refine xst ?_; try exact xtI))
    refine retM [0, 1, 2, 3] rfl rfl (by decide) ⟨?_, ?_, ?_, ?_, trivial⟩ trivial ?_ <;> first | exact Wk.refl _ | simp (etaStruct := .none) only [push_cast, DrawG, seval]
   ·(try replace h3 := xhh h3)
    exact absurd h h3
theorem gdeed_0 (w : Wld) (d : Ded) (h : d.kind ≠ 1 ∧ d.kind ≠ 2 ∧ d.kind ≠ 3) : Spec Tryz.prog 98 [.ptr 0 0 0, dedA d] (shpH w) (B false) (shpH w) := by
 refine spec_am Tryz.func98 rfl rfl mix 22 rfl [.tmp 4] Tryz.results98 (Nat.le_of_ble_eq_true rfl) ?_
 (try (refine xst ?_; try exact xtI))
 refine cond_i (fun h1 => ?_) (fun h1 => ?_)
 ·(try replace h1 := xhh h1)
  exfalso; omega
 ·(try replace h1 := xhh h1)
  (try (refine xst ?_; try exact xtI))
  refine cond_i (fun h2 => ?_) (fun h2 => ?_)
  ·(try replace h2 := xhh h2)
   exfalso; omega
  ·(try replace h2 := xhh h2)
   (try (refine xst ?_; try exact xtI))
   refine cond_i (fun h3 => ?_) (fun h3 => ?_)
   ·(try replace h3 := xhh h3)
    exfalso; omega
   ·(try replace h3 := xhh h3)
    (try (refine xst ?_; try exact xtI))
    refine retM [0, 1, 2, 3] rfl rfl (by decide) ⟨?_, ?_, ?_, ?_, trivial⟩ trivial ?_ <;> first | exact Wk.refl _ | simp (etaStruct := .none) only [push_cast, DrawG, seval]
theorem gdeed_h (w W : Wld) (d : Ded) (h : d.kind = 3) (M : Spec Tryz.prog 134 [.ptr 0 0 0, dedA d] (shpH w) (B true) (shpH' W)) : Spec Tryz.prog 98 [.ptr 0 0 0, dedA d] (shpH w) (B true) (shpH' W) := by
 refine spec_am Tryz.func98 rfl rfl mix 22 rfl [.tmp 4] Tryz.results98 (Nat.le_of_ble_eq_true rfl) ?_
 (try (refine xst ?_; try exact xtI))
 refine cond_i (fun h1 => ?_) (fun h1 => ?_)
 ·(try replace h1 := xhh h1)
  exfalso; omega
 ·(try replace h1 := xhh h1)
  (try (refine xst ?_; try exact xtI))
  refine cond_i (fun h2 => ?_) (fun h2 => ?_)
  ·(try replace h2 := xhh h2)
   exfalso; omega
  ·(try replace h2 := xhh h2)
   (try (refine xst ?_; try exact xtI))
   refine cond_i (fun h3 => ?_) (fun h3 => ?_)
   ·(try replace h3 := xhh h3)
    (try (refine xst ?_; try exact xtI))
    refine caM [0, 1, 2, 3] (M) ?_
    (try (refine xst ?_; try exact xtI))
    refine retM [0, 1, 2, 3, 5] rfl rfl (by decide) ⟨?_, ?_, ?_, ?_, ?_, trivial⟩ trivial ?_ <;> first | exact Wk.refl _ | simp (etaStruct := .none) only [push_cast, DrawG, seval]
   ·(try replace h3 := xhh h3)
    exact absurd h h3
theorem gdeed_s (w : Wld) (d : Ded) (hw : Right w) : Spec Tryz.prog 98 [.ptr 0 0 0, dedA d] (shpH w) (B (deedV w d).2) (shpH (deedV w d).1) ∨ Spec Tryz.prog 98 [.ptr 0 0 0, dedA d] (shpH w) (B (deedV w d).2) (shpH' (deedV w d).1) := by
 unfold deedV
 split
 ·rename_i h
  split
  ·rename_i i hi
   split
   ·rename_i ho; exact .inl (gdeed_1 w _ d true h (gmine_s w d i hw hi true _ ⟨fun _ => ⟨rfl, rfl⟩, fun h2 => by rw [ho] at h2; simp at h2⟩))
   ·rename_i ho; exact .inl (gdeed_1 w _ d false h (gmine_s w d i hw hi false _ ⟨fun h2 => absurd h2 ho, fun _ => ⟨rfl, rfl⟩⟩))
  ·rename_i hi; exact .inl (gdeed_1 w _ d false h (gmine_none w d hw hi))
 ·split
  ·rename_i h
   split
   ·rename_i i hi
    split
    ·rename_i ho; exact .inl (gdeed_2 w _ d _ h (gdrop_s w d i hw hi _ _ ⟨fun _ => ⟨rfl, rfl⟩, fun h2 => by rw [ho] at h2; simp at h2⟩))
    ·rename_i ho; exact .inl (gdeed_2 w _ d false h (gdrop_s w d i hw hi false _ ⟨fun h2 => absurd h2 ho, fun _ => ⟨rfl, rfl⟩⟩))
   ·rename_i hi; exact .inl (gdeed_2 w _ d false h (gdrop_none w d hw hi))
  ·split
   ·rename_i h
    split
    ·rename_i ho
     split
     ·rename_i c hc; exact .inr (gdeed_h w _ d h (ghire_yes w d hw ho c hc))
     ·rename_i hc
      have hoi := hireOk_iff.1 ho
      exact .inl (gdeed_3 w d h (ghire_no w d hw (by have := hw.sl; omega) (.inr hc)))
    ·rename_i ho
     rcases Nat.lt_or_ge d.who.toNat w.stocks.length with h2 | h2
     ·exact .inl (gdeed_3 w d h (ghire_no w d hw h2 (.inl (by simpa using ho))))
     ·exact .inl (gdeed_3 w d h (ghire_out w d hw h2))
   ·exact .inl (gdeed_0 w d ⟨by assumption, by assumption, by assumption⟩)
theorem gown_s (w : Wld) (hw : Right w) : Spec Tryz.prog 97 [wldA w] [] (.agg [I .i64 w.f.w, I .i64 w.f.h, .c (.sl 1 (w.f.p.map i64P)), .c (.sl 2 (w.bases.map celP)), .own 0, .own 1, .own 2, I .i64 w.next, I .i64 w.now]) [stR w, miR w, trR w] := by
 have h1 := hw.places
 have h2 := hw.nb
 have h3 := hw.sl
 have h4 := hw.ml
 have h5 := hw.nt
 refine spec_am Tryz.func97 rfl rfl mix 26 rfl [.cell 2 28] Tryz.results97 (Nat.le_of_ble_eq_true rfl) ?_
 (try (refine xst ?_; try exact xtI))
 refine caP (int_copy w.f.p (by omega)) ?_
 (try (refine xst ?_; try exact xtI))
 refine caP (cel_copy w.bases (by omega)) ?_
 (try (refine xst ?_; try exact xtI))
 refine caM [] (int_clone w.stocks (by omega)) ?_
 (try (refine xst ?_; try exact xtI))
 (try (refine ⟨by kernel_rfl, ?_⟩))
 (try (refine xst ?_; try exact xtI))
 refine caM [] (int_clone w.mines (by omega)) ?_
 (try (refine xst ?_; try exact xtI))
 refine caM [] (trp_clone w.troops (by omega)) ?_
 (try (refine xst ?_; try exact xtI))
 (try (refine ⟨by kernel_rfl, ?_⟩))
 (try (refine xst ?_; try exact xtI))
 refine retM [22, 50, 62] rfl rfl (by decide) ⟨?_, ?_, ?_, trivial⟩ ?_ ?_ <;> first | exact Wk.refl _ | (try simp (etaStruct := .none) only [push_cast, DrawG, seval])
theorem do_k (w : Wld) (l : List Ded) (hw : Right w) (hll : l.length ≤ 200) : Spec Tryz.prog 63 [wldA w, .c (.sl 5 (l.map dedP))] [] (.tup [wldA (deedsA w l).1, .c (.sl 1 ((deedsA w l).2.map boolP)), I .i64 0]) [] := by
 have he := hw.e
 refine spec_am Tryz.func63 rfl rfl mix 40 rfl [.cell 4 28, .tmp 5, .tmp 6] Tryz.results63 (Nat.le_of_ble_eq_true rfl) ?_
 (try (refine xst ?_; try exact xtI))
 refine caP (tcheck_s w hw.l) ?_
 (try (refine xst ?_; try exact xtI))
 refine cond_i (fun h1 => ?_) (fun h1 => ?_)
 ·(try replace h1 := xhh h1)
  exact absurd he h1
 ·(try replace h1 := xhh h1)
  (try (refine xst ?_; try exact xtI))
  refine cond_i (fun h2 => ?_) (fun h2 => ?_)
  ·(try replace h2 := xhh h2)
   omega
  ·(try replace h2 := xhh h2)
   (try (refine xst ?_; try exact xtI))
   refine caM [] (gown_s w hw) ?_
   (try (refine xst ?_; try exact xtI))
   refine loopI (fun k : Nat => ⟨[(27, I .i64 k), (26, I .i64 l.length), (25, .c (.sl 5 (l.map dedP))), (9, .own 5), (8, .ptr 1 0 0), (4, .ptr 0 0 0)], [(0, .blk 28 [I .i64 0, I .i64 0, .c (.v (.slice none 0 0)), .c (.v (.slice none 0 0)), .c (.v (.slice none 0 0)), .c (.v (.slice none 0 0)), .c (.v (.slice none 0 0)), I .i64 0, I .i64 0]), (1, .blk 157 (shpC (deedsA w (l.take k)).1 2 3 4)), (2, stR (deedsA w (l.take k)).1), (3, miR (deedsA w (l.take k)).1), (4, trR (deedsA w (l.take k)).1), (5, .row 4 1 ((deedsA w (l.take k)).2.map boolP))], 6⟩) (fun k : Nat => k ≤ l.length) (fun k : Nat => l.length - k) (0) (Nat.zero_le _) ((To.nil 9 4 1 rfl).trans (To.mk [1, 5, 2, 3, 4, 6] rfl rfl (by decide) ?_ ?_)) ?_
   ·simp (etaStruct := .none) only [push_cast, DrawG, seval, List.take_zero, deedsA]
   ·simp (etaStruct := .none) only [push_cast, DrawG, seval]
   rintro k hk
   (try (refine xst ?_; try exact xtI))
   refine cond_i (fun h3 => ?_) (fun h3 => ?_)
   ·(try replace h3 := xhh h3)
    have hlt : k < l.length := by omega
    obtain ⟨d, hd⟩ : ∃ d, d = l.getD k default := ⟨_, rfl⟩
    have hst : deedsA w (l.take (k + 1)) = ((deedV (deedsA w (l.take k)).1 d).1, (deedsA w (l.take k)).2 ++ [(deedV (deedsA w (l.take k)).1 d).2]) := by rw [take_snoc _ _ hlt, ← hd, deedsA_snoc]
    have hR := right_deeds (l.take k) hw
    have hbl := deedsA_len (l.take k) w
    rw [List.length_take] at hbl
    generalize (deedsA w (l.take k)).1 = W at *
    generalize (deedsA w (l.take k)).2 = bs at *
    (iterate 2 ((try simp (etaStruct := .none) only [push_cast, DrawG, seval, getD_in _ _ _ hlt, ← hd, dedP]); (try (refine xsu ?_; try exact xtI))))
    rcases gdeed_s W d hR with M | M
    ·refine callM [1, 2, 3, 4] M (WkL.refl _) rfl (by decide) (by simp [lookC_c]) ?_
     (iterate 2 ((try simp (etaStruct := .none) only [push_cast, DrawG, seval, boolP]); (try (refine xsu ?_; try exact xtI))))
     refine ⟨k + 1, by omega, by omega, To.mk [0, 1, 2, 3, 4, 8] rfl rfl (by decide) ?_ ?_⟩
     ·(iterate 2 ((try simp (etaStruct := .none) only [push_cast, DrawG, seval, hst, List.map_append, boolP]); (try (refine xsu ?_; try exact xtI))))
     ·(try (refine xst ?_; try exact xtI))
    ·refine callM [1, 2, 3, 4] M (WkL.refl _) rfl (by decide) (by simp [lookC_c]) ?_
     (iterate 2 ((try simp (etaStruct := .none) only [push_cast, DrawG, seval, boolP]); (try (refine xsu ?_; try exact xtI))))
     refine ⟨k + 1, by omega, by omega, To.mk [0, 1, 2, 3, 7, 9] rfl rfl (by decide) ?_ ?_⟩
     ·(iterate 2 ((try simp (etaStruct := .none) only [push_cast, DrawG, seval, hst, List.map_append, boolP]); (try (refine xsu ?_; try exact xtI))))
     ·(try (refine xst ?_; try exact xtI))
   ·(try replace h3 := xhh h3)
    obtain rfl : k = l.length := by omega
    (iterate 2 ((try simp (etaStruct := .none) only [push_cast, DrawG, seval, List.take_length]); (try (refine xsu ?_; try exact xtI))))
    exact xrz rfl
end Go.Proofs.YtllmjdcblfkfaaaGreat
namespace Go.Proofs.YtllmjdcblfkfaaaGreat
set_option linter.all false
open Go.RowKit
set_option maxRecDepth 100000
set_option maxHeartbeats 1000000
theorem add_blow (o : Ord) (b : List Blw) (g : List Gop) (d : List Ded) (h : o.kind = 1) (hb : b.length ≤ 1000) :
 Spec Tryz.prog 94 [.ptr 0 0 0, ordA o] [.blk 153 [.own 1, .own 2, .own 3], .row 128 2 (b.map blwP), .row 130 3 (g.map gopP), .row 132 5 (d.map dedP)] (.tup [])
  [.blk 153 [.own 4, .own 2, .own 3], .dead, .row 130 3 (g.map gopP), .row 132 5 (d.map dedP), .row 128 2 ((b ++ [(⟨o.who, o.what⟩ : Blw)]).map blwP)] := by
 refine spec_am Tryz.func94 rfl rfl mix 84 rfl [] Tryz.results94 (Nat.le_of_ble_eq_true rfl) ?_
 (try (refine xst ?_; try exact xtI))
 refine cond_i (fun h1 => ?_) (fun h1 => ?_)
 ·(try replace h1 := xhh h1)
  (try (refine xst ?_; try exact xtI))
  (try (refine ⟨by kernel_rfl, ?_⟩))
  (try (refine xst ?_; try exact xtI))
  refine retM [0, 1, 2, 3, 49] rfl rfl (by decide) ⟨?_, ?_, ?_, ?_, ?_, trivial⟩ trivial ?_
  ·simp (etaStruct := .none) only [push_cast, DrawG, seval]
  ·simp (etaStruct := .none) only [push_cast, DrawG, seval]
  ·simp (etaStruct := .none) only [push_cast, DrawG, seval]
  ·simp (etaStruct := .none) only [push_cast, DrawG, seval]
  ·simp (etaStruct := .none) only [push_cast, DrawG, seval, List.map_append, blwP]
  ·simp (etaStruct := .none) only [push_cast, DrawG, seval]
 ·(try replace h1 := xhh h1)
  omega
theorem add_go (o : Ord) (b : List Blw) (g : List Gop) (d : List Ded) (h : o.kind = 2) (hb : g.length ≤ 1000) :
 Spec Tryz.prog 94 [.ptr 0 0 0, ordA o] [.blk 153 [.own 1, .own 2, .own 3], .row 128 2 (b.map blwP), .row 130 3 (g.map gopP), .row 132 5 (d.map dedP)] (.tup [])
  [.blk 153 [.own 1, .own 4, .own 3], .row 128 2 (b.map blwP), .dead, .row 132 5 (d.map dedP), .row 130 3 ((g ++ [(⟨o.who, o.c⟩ : Gop)]).map gopP)] := by
 refine spec_am Tryz.func94 rfl rfl mix 84 rfl [] Tryz.results94 (Nat.le_of_ble_eq_true rfl) ?_
 (try (refine xst ?_; try exact xtI))
 refine cond_i (fun h1 => ?_) (fun h1 => ?_)
 ·(try replace h1 := xhh h1)
  omega
 ·(try replace h1 := xhh h1)
  (try (refine xst ?_; try exact xtI))
  refine cond_i (fun h2 => ?_) (fun h2 => ?_)
  ·(try replace h2 := xhh h2)
   (try (refine xst ?_; try exact xtI))
   (try (refine ⟨by kernel_rfl, ?_⟩))
   (try (refine xst ?_; try exact xtI))
   refine retM [0, 1, 2, 3, 49] rfl rfl (by decide) ⟨?_, ?_, ?_, ?_, ?_, trivial⟩ trivial ?_
   ·simp (etaStruct := .none) only [push_cast, DrawG, seval]
   ·simp (etaStruct := .none) only [push_cast, DrawG, seval]
   ·simp (etaStruct := .none) only [push_cast, DrawG, seval]
   ·simp (etaStruct := .none) only [push_cast, DrawG, seval]
   ·simp (etaStruct := .none) only [push_cast, DrawG, seval, List.map_append, gopP]
   ·simp (etaStruct := .none) only [push_cast, DrawG, seval]
  ·(try replace h2 := xhh h2)
   omega
theorem add_mine (o : Ord) (b : List Blw) (g : List Gop) (d : List Ded) (h : o.kind = 3) (hb : d.length ≤ 1000) :
 Spec Tryz.prog 94 [.ptr 0 0 0, ordA o] [.blk 153 [.own 1, .own 2, .own 3], .row 128 2 (b.map blwP), .row 130 3 (g.map gopP), .row 132 5 (d.map dedP)] (.tup [])
  [.blk 153 [.own 1, .own 2, .own 4], .row 128 2 (b.map blwP), .row 130 3 (g.map gopP), .dead, .row 132 5 ((d ++ [(⟨1, o.who, o.c, 0⟩ : Ded)]).map dedP)] := by
 refine spec_am Tryz.func94 rfl rfl mix 84 rfl [] Tryz.results94 (Nat.le_of_ble_eq_true rfl) ?_
 (try (refine xst ?_; try exact xtI))
 refine cond_i (fun h1 => ?_) (fun h1 => ?_)
 ·(try replace h1 := xhh h1)
  omega
 ·(try replace h1 := xhh h1)
  (try (refine xst ?_; try exact xtI))
  refine cond_i (fun h2 => ?_) (fun h2 => ?_)
  ·(try replace h2 := xhh h2)
   omega
  ·(try replace h2 := xhh h2)
   (try (refine xst ?_; try exact xtI))
   refine cond_i (fun h3 => ?_) (fun h3 => ?_)
   ·(try replace h3 := xhh h3)
    (try (refine xst ?_; try exact xtI))
    (try (refine ⟨by kernel_rfl, ?_⟩))
    (try (refine xst ?_; try exact xtI))
    refine retM [0, 1, 2, 3, 49] rfl rfl (by decide) ⟨?_, ?_, ?_, ?_, ?_, trivial⟩ trivial ?_
    ·simp (etaStruct := .none) only [push_cast, DrawG, seval]
    ·simp (etaStruct := .none) only [push_cast, DrawG, seval]
    ·simp (etaStruct := .none) only [push_cast, DrawG, seval]
    ·simp (etaStruct := .none) only [push_cast, DrawG, seval]
    ·simp (etaStruct := .none) only [push_cast, DrawG, seval, List.map_append, dedP]
    ·simp (etaStruct := .none) only [push_cast, DrawG, seval]
   ·(try replace h3 := xhh h3)
    omega
theorem add_drop (o : Ord) (b : List Blw) (g : List Gop) (d : List Ded) (h : o.kind = 4) (hb : d.length ≤ 1000) :
 Spec Tryz.prog 94 [.ptr 0 0 0, ordA o] [.blk 153 [.own 1, .own 2, .own 3], .row 128 2 (b.map blwP), .row 130 3 (g.map gopP), .row 132 5 (d.map dedP)] (.tup [])
  [.blk 153 [.own 1, .own 2, .own 4], .row 128 2 (b.map blwP), .row 130 3 (g.map gopP), .dead, .row 132 5 ((d ++ [(⟨2, o.who, ⟨0, 0⟩, 0⟩ : Ded)]).map dedP)] := by
 refine spec_am Tryz.func94 rfl rfl mix 84 rfl [] Tryz.results94 (Nat.le_of_ble_eq_true rfl) ?_
 (try (refine xst ?_; try exact xtI))
 refine cond_i (fun h1 => ?_) (fun h1 => ?_)
 ·(try replace h1 := xhh h1)
  omega
 ·(try replace h1 := xhh h1)
  (try (refine xst ?_; try exact xtI))
  refine cond_i (fun h2 => ?_) (fun h2 => ?_)
  ·(try replace h2 := xhh h2)
   omega
  ·(try replace h2 := xhh h2)
   (try (refine xst ?_; try exact xtI))
   refine cond_i (fun h3 => ?_) (fun h3 => ?_)
   ·(try replace h3 := xhh h3)
    omega
   ·(try replace h3 := xhh h3)
    (try (refine xst ?_; try exact xtI))
    refine cond_i (fun h4 => ?_) (fun h4 => ?_)
    ·(try replace h4 := xhh h4)
     (try (refine xst ?_; try exact xtI))
     (try (refine ⟨by kernel_rfl, ?_⟩))
     (try (refine xst ?_; try exact xtI))
     refine retM [0, 1, 2, 3, 41] rfl rfl (by decide) ⟨?_, ?_, ?_, ?_, ?_, trivial⟩ trivial ?_
     ·simp (etaStruct := .none) only [push_cast, DrawG, seval]
     ·simp (etaStruct := .none) only [push_cast, DrawG, seval]
     ·simp (etaStruct := .none) only [push_cast, DrawG, seval]
     ·simp (etaStruct := .none) only [push_cast, DrawG, seval]
     ·simp (etaStruct := .none) only [push_cast, DrawG, seval, List.map_append, dedP]
     ·simp (etaStruct := .none) only [push_cast, DrawG, seval]
    ·(try replace h4 := xhh h4)
     omega
theorem add_make (o : Ord) (b : List Blw) (g : List Gop) (d : List Ded) (h : o.kind = 5) (hb : d.length ≤ 1000) :
 Spec Tryz.prog 94 [.ptr 0 0 0, ordA o] [.blk 153 [.own 1, .own 2, .own 3], .row 128 2 (b.map blwP), .row 130 3 (g.map gopP), .row 132 5 (d.map dedP)] (.tup [])
  [.blk 153 [.own 1, .own 2, .own 4], .row 128 2 (b.map blwP), .row 130 3 (g.map gopP), .dead, .row 132 5 ((d ++ [(⟨3, o.by_, ⟨0, 0⟩, o.what⟩ : Ded)]).map dedP)] := by
 refine spec_am Tryz.func94 rfl rfl mix 84 rfl [] Tryz.results94 (Nat.le_of_ble_eq_true rfl) ?_
 (try (refine xst ?_; try exact xtI))
 refine cond_i (fun h1 => ?_) (fun h1 => ?_)
 ·(try replace h1 := xhh h1)
  omega
 ·(try replace h1 := xhh h1)
  (try (refine xst ?_; try exact xtI))
  refine cond_i (fun h2 => ?_) (fun h2 => ?_)
  ·(try replace h2 := xhh h2)
   omega
  ·(try replace h2 := xhh h2)
   (try (refine xst ?_; try exact xtI))
   refine cond_i (fun h3 => ?_) (fun h3 => ?_)
   ·(try replace h3 := xhh h3)
    omega
   ·(try replace h3 := xhh h3)
    (try (refine xst ?_; try exact xtI))
    refine cond_i (fun h4 => ?_) (fun h4 => ?_)
    ·(try replace h4 := xhh h4)
     omega
    ·(try replace h4 := xhh h4)
     (try (refine xst ?_; try exact xtI))
     refine cond_i (fun h5 => ?_) (fun h5 => ?_)
     ·(try replace h5 := xhh h5)
      (try (refine xst ?_; try exact xtI))
      (try (refine ⟨by kernel_rfl, ?_⟩))
      (try (refine xst ?_; try exact xtI))
      refine retM [0, 1, 2, 3, 49] rfl rfl (by decide) ⟨?_, ?_, ?_, ?_, ?_, trivial⟩ trivial ?_
      ·simp (etaStruct := .none) only [push_cast, DrawG, seval]
      ·simp (etaStruct := .none) only [push_cast, DrawG, seval]
      ·simp (etaStruct := .none) only [push_cast, DrawG, seval]
      ·simp (etaStruct := .none) only [push_cast, DrawG, seval]
      ·simp (etaStruct := .none) only [push_cast, DrawG, seval, List.map_append, dedP]
      ·simp (etaStruct := .none) only [push_cast, DrawG, seval]
     ·(try replace h5 := xhh h5)
      omega
def OwnM (w : Wld) (k : Nat) (es : List (List Int × Int)) : Prop := (∀ i : Int, mhas [i] es = (w.troops.take k).any fun t => decide (t.id = i)) ∧ ∀ j, j < k → mget [(w.troops.getD j default).id] es = (w.troops.getD j default).owner
theorem OwnM.step {w : Wld} (hw : worldE w = 0) {k : Nat} {es : List (List Int × Int)} (h : OwnM w k es) (hk : k < w.troops.length) : OwnM w (k + 1) (mput [(w.troops.getD k default).id] (w.troops.getD k default).owner es) := by
 refine ⟨fun i => ?_, fun j hj => ?_⟩
 ·rw [mhas_put_if, take_snoc _ _ hk, List.any_append, h.1 i]
  simp only [List.any_cons, List.any_nil, Bool.or_false, List.cons.injEq, and_true]
  by_cases hi : i = (w.troops.getD k default).id
  ·rw [if_pos hi, decide_eq_true hi.symm, Bool.or_true]
  ·rw [if_neg hi, decide_eq_false (Ne.symm hi), Bool.or_false]
 ·rw [mget_put_if]
  by_cases hjk : j = k
  ·subst hjk; rw [if_pos rfl]
  ·have h2 := (troop_ok hw hk).2
   unfold trp2 at h2
   rw [and_all, Bool.and_eq_true] at h2
   have := (allN_iff _ _).1 h2.1 j (by omega)
   rw [decide_eq_true_eq] at this
   rw [if_neg (fun h => by have := (List.cons.inj h).1; omega)]
   exact h.2 j (by omega)
theorem OwnM.find {w : Wld} {es : List (List Int × Int)} (h : OwnM w w.troops.length es) (i b : Int) : (mhas [i] es && decide (mget [i] es = b)) = match findT w i with | some t => decide (t.owner = b) | none => false := by
 have h1 := h.1 i
 rw [List.take_length] at h1
 unfold findT
 cases hf : w.troops.find? (fun t => decide (t.id = i)) with
 | none =>
  have : (w.troops.any fun t => decide (t.id = i)) = false := by
   rw [List.any_eq_false]; intro x hx; simpa using List.find?_eq_none.1 hf x hx
  rw [h1, this]; rfl
 | some t =>
  have hm := List.mem_of_find?_eq_some hf
  have hp := List.find?_some hf
  rw [decide_eq_true_eq] at hp
  have : (w.troops.any fun t => decide (t.id = i)) = true := by
   rw [List.any_eq_true]; exact ⟨t, hm, by simpa using hp⟩
  obtain ⟨j, hj, rfl⟩ := List.getElem_of_mem hm
  have h2 := h.2 j hj
  rw [getD_at _ _ hj, hp] at h2
  rw [h1, this, h2]; rfl
def splitE (l : List Ord) (w : Wld) : Int := if ordsE l ≠ 0 then ordsE l else worldE w
theorem addB_of {o : Ord} (h : o.kind ≠ 1) : addB o = [] := by unfold addB; rw [if_neg h]
theorem addG_of {o : Ord} (h : o.kind ≠ 2) : addG o = [] := by unfold addG; rw [if_neg h]
theorem addD_of {o : Ord} (h : ¬ 2 < o.kind) : addD o = [] := by unfold addD; rw [if_neg h]
theorem addB_1 {o : Ord} (h : o.kind = 1) : addB o = [⟨o.who, o.what⟩] := by unfold addB; rw [if_pos h]
theorem addG_2 {o : Ord} (h : o.kind = 2) : addG o = [⟨o.who, o.c⟩] := by unfold addG; rw [if_pos h]
theorem addD_3 {o : Ord} (ho : ordE o = 0) (h : o.kind = 3) : addD o = [⟨1, o.who, o.c, 0⟩] := by
 have := ordE_ok ho
 unfold addD dedOf; rw [if_pos (by omega), h, if_neg (by decide), this.2.2.2.2.2.2.2 (by omega) (by omega)]; rfl
theorem addD_4 {o : Ord} (ho : ordE o = 0) (h : o.kind = 4) : addD o = [⟨2, o.who, ⟨0, 0⟩, 0⟩] := by
 have := ordE_ok ho
 unfold addD dedOf; rw [if_pos (by omega), h, if_neg (by decide), this.2.2.2.2.2.2.2 (by omega) (by omega), this.2.2.2.2.2.2.1 (by omega) (by omega)]; rfl
theorem addD_5 {o : Ord} (ho : ordE o = 0) (h : o.kind = 5) : addD o = [⟨3, o.by_, ⟨0, 0⟩, o.what⟩] := by
 have := ordE_ok ho
 unfold addD dedOf; rw [if_pos (by omega), h, if_pos rfl, this.2.2.2.2.2.2.1 (by omega) (by omega)]; rfl
theorem split_bad (l : List Ord) (w : Wld) (hll : l.length ≤ 9223372036854775807) (hl : wldL w) (h : splitE l w ≠ 0) : Spec Tryz.prog 61 [.c (.sl 6 (l.map ordP)), wldA w] [] (.tup [.c (.v (.slice none 0 0)), .c (.v (.slice none 0 0)), .c (.v (.slice none 0 0)), I .i64 (splitE l w)]) [] := by
 refine spec_am Tryz.func61 rfl rfl mix 82 rfl [.tmp 4, .tmp 5, .tmp 6, .tmp 7] Tryz.results61 (Nat.le_of_ble_eq_true rfl) ?_
 (try (refine xst ?_; try exact xtI))
 refine caP (oall_s l hll) ?_
 (try (refine xst ?_; try exact xtI))
 refine cond_i (fun h1 => ?_) (fun h1 => ?_)
 ·(try replace h1 := xhh h1)
  have e : splitE l w = ordsE l := by unfold splitE; rw [if_pos h1]
  (try (refine xst ?_; try exact xtI))
  (first | (refine retA rfl (Wk.of ?_); (try simp (etaStruct := .none) only [push_cast, DrawG, seval]); first | done | (simp [e, *]; done) | (simp_all [e]; done)) | (refine retA rfl ?_; (try simp (etaStruct := .none) only [push_cast, DrawG, seval]); (try simp [e, *]); (try exact wkc)))
 ·(try replace h1 := xhh h1)
  (try (refine xst ?_; try exact xtI))
  refine caP (tcheck_s w hl) ?_
  (try (refine xst ?_; try exact xtI))
  refine cond_i (fun h2 => ?_) (fun h2 => ?_)
  ·(try replace h2 := xhh h2)
   have e : splitE l w = worldE w := by unfold splitE; rw [if_neg (by simpa using h1)]
   (try (refine xst ?_; try exact xtI))
   (first | (refine retA rfl (Wk.of ?_); (try simp (etaStruct := .none) only [push_cast, DrawG, seval]); first | done | (simp [e, *]; done) | (simp_all [e]; done)) | (refine retA rfl ?_; (try simp (etaStruct := .none) only [push_cast, DrawG, seval]); (try simp [e, *]); (try exact wkc)))
  ·(try replace h2 := xhh h2)
   exact absurd (by unfold splitE; rw [if_neg (by simpa using h1)]; exact h2) h
theorem split_s (l : List Ord) (w : Wld) (hll : l.length ≤ 9223372036854775807) (hl : wldL w) (ho : ordsE l = 0) (hw : worldE w = 0) : Spec Tryz.prog 61 [.c (.sl 6 (l.map ordP)), wldA w] [] (.tup [.c (.sl 2 ((blowsV l w).map blwP)), .c (.sl 3 ((goesV l w).map gopP)), .c (.sl 5 ((deedsV l w).map dedP)), I .i64 0]) [] := by
 obtain ⟨ho1, ho2⟩ := ordsE_ok ho
 obtain ⟨w1, w2, w3, w4, w5⟩ := worldE_ok hw
 refine spec_am Tryz.func61 rfl rfl mix 82 rfl [.tmp 4, .tmp 5, .tmp 6, .tmp 7] Tryz.results61 (Nat.le_of_ble_eq_true rfl) ?_
 (try (refine xst ?_; try exact xtI))
 refine caP (oall_s l hll) ?_
 (try (refine xst ?_; try exact xtI))
 refine cond_i (fun h1 => ?_) (fun h1 => ?_)
 ·(try replace h1 := xhh h1)
  exact absurd ho h1
 ·(try replace h1 := xhh h1)
  (try (refine xst ?_; try exact xtI))
  refine caP (tcheck_s w hl) ?_
  (try (refine xst ?_; try exact xtI))
  refine cond_i (fun h2 => ?_) (fun h2 => ?_)
  ·(try replace h2 := xhh h2)
   exact absurd hw h2
  ·(try replace h2 := xhh h2)
   (try (refine xst ?_; try exact xtI))
   refine loopI (fun x : Nat × List (List Int × Int) => ⟨[(32, I .i64 x.1), (31, I .i64 w.troops.length), (30, .c (.sl 7 (w.troops.map trpP))), (10, .map 1), (3, .ptr 0 0 0), (0, .c (.sl 6 (l.map ordP)))], [(0, .blk 28 (wldC w)), (1, .mp false 1 x.2)], 2⟩) (fun x : Nat × List (List Int × Int) => x.1 ≤ w.troops.length ∧ OwnM w x.1 x.2) (fun x : Nat × List (List Int × Int) => w.troops.length - x.1) ((0, [])) (⟨Nat.zero_le _, fun i => rfl, fun j h => absurd h (Nat.not_lt_zero _)⟩) (To.mk [0, 1] rfl rfl (by decide) ?_ ?_) ?_
   ·simp (etaStruct := .none) only [push_cast, DrawG, seval]
   ·simp (etaStruct := .none) only [push_cast, DrawG, seval]
   rintro ⟨k, es⟩ ⟨hk, hn⟩
   simp only at hk hn
   (try (refine xst ?_; try exact xtI))
   refine cond_i (fun h3 => ?_) (fun h3 => ?_)
   ·(try replace h3 := xhh h3)
    have hlt : k < w.troops.length := by omega
    (iterate 2 ((try simp (etaStruct := .none) only [push_cast, DrawG, seval, getD_in _ _ _ hlt, trpP]); (try (refine xsu ?_; try exact xtI))))
    refine ⟨(k + 1, mput [(w.troops.getD k default).id] (w.troops.getD k default).owner es), ⟨by simp only; omega, hn.step hw hlt⟩, by simp only; omega, To.mk [0, 1] rfl rfl (by decide) ?_ ?_⟩
    ·(iterate 2 ((try simp (etaStruct := .none) only [push_cast, DrawG, seval, getD_in _ _ _ hlt, trpP]); (try (refine xsu ?_; try exact xtI))))
    ·(iterate 2 ((try simp (etaStruct := .none) only [push_cast, DrawG, seval, getD_in _ _ _ hlt, trpP]); (try (refine xsu ?_; try exact xtI))))
   ·(try replace h3 := xhh h3)
    obtain rfl : k = w.troops.length := by omega
    have of := hn.find
    (try (refine xst ?_; try exact xtI))
    refine loopI (fun k : Nat => ⟨[(44, I .i64 k), (43, I .i64 l.length), (42, .c (.sl 6 (l.map ordP))), (13, .ptr 2 0 0), (10, .map 1), (3, .ptr 0 0 0)], [(0, .blk 28 (wldC w)), (1, .mp false 1 es), (2, .blk 153 [.own 3, .own 4, .own 5]), (3, .row 128 2 ((blowsV (l.take k) w).map blwP)), (4, .row 130 3 ((goesV (l.take k) w).map gopP)), (5, .row 132 5 ((deedsV (l.take k) w).map dedP))], 6⟩) (fun k : Nat => k ≤ l.length) (fun k : Nat => l.length - k) (0) (Nat.zero_le _) (((To.nilC 2 0 128 2 153 _ rfl rfl).trans ((To.nilC 2 1 130 3 153 _ rfl rfl).trans (To.nilC 2 2 132 5 153 _ rfl rfl))).trans (To.mk [0, 1, 2, 3, 4, 5] rfl rfl (by decide) ?_ ?_)) ?_
    ·simp (etaStruct := .none) only [push_cast, DrawG, seval, List.set_cons_zero, List.set_cons_succ, blowsV, goesV, deedsV, List.filter_nil, List.flatMap_nil]
    ·simp (etaStruct := .none) only [push_cast, DrawG, seval]
    rintro k hk
    (try (refine xst ?_; try exact xtI))
    refine cond_i (fun h4 => ?_) (fun h4 => ?_)
    ·(try replace h4 := xhh h4)
     have hlt : k < l.length := by omega
     have hor := ho2 _ (getD_mem l k hlt)
     have hok := ordE_ok hor
     have st1 := flat_step (fun o => allowV o w) addB l k hlt
     have st2 := flat_step (fun o => allowV o w) addG l k hlt
     have st3 := flat_step (fun o => allowV o w) addD l k hlt
     have fl1 := ford_len (fun o => allowV o w) addB addB_len (l.take k)
     have fl2 := ford_len (fun o => allowV o w) addG addG_len (l.take k)
     have fl3 := ford_len (fun o => allowV o w) addD addD_len (l.take k)
     rw [List.length_take] at fl1 fl2 fl3
     change blowsV (l.take (k + 1)) w = blowsV (l.take k) w ++ _ at st1
     change goesV (l.take (k + 1)) w = goesV (l.take k) w ++ _ at st2
     change deedsV (l.take (k + 1)) w = deedsV (l.take k) w ++ _ at st3
     change (blowsV (l.take k) w).length ≤ _ at fl1
     change (goesV (l.take k) w).length ≤ _ at fl2
     change (deedsV (l.take k) w).length ≤ _ at fl3
     (iterate 2 ((try simp (etaStruct := .none) only [push_cast, DrawG, seval, getD_in _ _ _ hlt, ordP]); (try (refine xsu ?_; try exact xtI))))
     refine cond_j (fun x : Int × Bool => ⟨[(44, I .i64 k), (43, I .i64 l.length), (42, .c (.sl 6 (l.map ordP))), (17, B x.2), (16, I .i64 x.1), (15, .ptr 6 0 0), (13, .ptr 2 0 0), (10, .map 1), (3, .ptr 0 0 0)], [(0, .blk 28 (wldC w)), (1, .mp false 1 es), (2, .blk 153 [.own 3, .own 4, .own 5]), (3, .row 128 2 ((blowsV (l.take k) w).map blwP)), (4, .row 130 3 ((goesV (l.take k) w).map gopP)), (5, .row 132 5 ((deedsV (l.take k) w).map dedP)), (6, .blk 70 [I .i64 (l.getD k default).by_, I .i64 (l.getD k default).kind, I .i64 (l.getD k default).who, I .i64 (l.getD k default).c.x, I .i64 (l.getD k default).c.y, I .i64 (l.getD k default).what])], 7⟩) (fun x : Int × Bool => (x.2 && decide (x.1 = (l.getD k default).by_)) = allowV (l.getD k default) w) (fun h5 => ?_) (fun h5 => ?_) ?_
     ·(try replace h5 := xhh h5)
      (iterate 2 ((try simp (etaStruct := .none) only [push_cast, DrawG, seval, getD_in _ _ _ hlt, ordP]); (try (refine xsu ?_; try exact xtI))))
      (try (refine ⟨by kernel_rfl, ?_⟩))
      (iterate 2 ((try simp (etaStruct := .none) only [push_cast, DrawG, seval, getD_in _ _ _ hlt, ordP]); (try (refine xsu ?_; try exact xtI))))
      refine ⟨((l.getD k default).by_, decide ((l.getD k default).by_ < w.bases.length)), by unfold allowV; rw [if_pos h5]; simp, To.mk [0, 1, 2, 3, 4, 5, 6] rfl rfl (by decide) ?_ ?_⟩
      ·(iterate 2 ((try simp (etaStruct := .none) only [push_cast, DrawG, seval, getD_in _ _ _ hlt, ordP]); (try (refine xsu ?_; try exact xtI))))
      ·(iterate 2 ((try simp (etaStruct := .none) only [push_cast, DrawG, seval, getD_in _ _ _ hlt, ordP]); (try (refine xsu ?_; try exact xtI))))
     ·(try replace h5 := xhh h5)
      (iterate 2 ((try simp (etaStruct := .none) only [push_cast, DrawG, seval, getD_in _ _ _ hlt, ordP]); (try (refine xsu ?_; try exact xtI))))
      refine ⟨(mget [(l.getD k default).who] es, mhas [(l.getD k default).who] es), by rw [of]; unfold allowV; rw [if_neg h5]; cases findT w (l.getD k default).who <;> rfl, To.mk [0, 1, 2, 3, 4, 5, 6] rfl rfl (by decide) ?_ ?_⟩
      ·(iterate 2 ((try simp (etaStruct := .none) only [push_cast, DrawG, seval, getD_in _ _ _ hlt, ordP]); (try (refine xsu ?_; try exact xtI))))
      ·(iterate 2 ((try simp (etaStruct := .none) only [push_cast, DrawG, seval, getD_in _ _ _ hlt, ordP]); (try (refine xsu ?_; try exact xtI))))
     ·rintro ⟨by1, ok1⟩ hx
      simp only at hx
      (iterate 2 ((try simp (etaStruct := .none) only [push_cast, DrawG, seval, getD_in _ _ _ hlt, ordP]); (try (refine xsu ?_; try exact xtI))))
      refine cond_i (fun h6 => ?_) (fun h6 => ?_)
      ·(try replace h6 := xhh h6)
       have ha : allowV (l.getD k default) w = true := by rw [← hx]; simp only [h6.1, h6.2, decide_true, Bool.and_self]
       rw [if_pos ha] at st1 st2 st3
       (iterate 2 ((try simp (etaStruct := .none) only [push_cast, DrawG, seval, getD_in _ _ _ hlt, ordP]); (try (refine xsu ?_; try exact xtI))))
       have hkind : (l.getD k default).kind = 1 ∨ (l.getD k default).kind = 2 ∨ (l.getD k default).kind = 3 ∨ (l.getD k default).kind = 4 ∨ (l.getD k default).kind = 5 := by omega
       rcases hkind with h | h | h | h | h
       ·rw [addB_1 h] at st1; rw [addG_of (by omega)] at st2; rw [addD_of (by omega)] at st3
        refine callM [2, 3, 4, 5] (add_blow (l.getD k default) (blowsV (l.take k) w) (goesV (l.take k) w) (deedsV (l.take k) w) h (by omega)) (WkL.refl _) rfl (by decide) (by simp [lookC_c]) ?_
        (iterate 2 ((try simp (etaStruct := .none) only [push_cast, DrawG, seval, getD_in _ _ _ hlt, ordP]); (try (refine xsu ?_; try exact xtI))))
        refine ⟨k + 1, by omega, by omega, To.mk [0, 1, 2, 7, 4, 5] rfl rfl (by decide) ?_ ?_⟩
        ·(iterate 2 ((try simp (etaStruct := .none) only [push_cast, DrawG, seval, st1, st2, st3, List.append_nil, List.map_append, blwP]); (try (refine xsu ?_; try exact xtI))))
        ·(try (refine xst ?_; try exact xtI))
       ·rw [addB_of (by omega)] at st1; rw [addG_2 h] at st2; rw [addD_of (by omega)] at st3
        refine callM [2, 3, 4, 5] (add_go (l.getD k default) (blowsV (l.take k) w) (goesV (l.take k) w) (deedsV (l.take k) w) h (by omega)) (WkL.refl _) rfl (by decide) (by simp [lookC_c]) ?_
        (iterate 2 ((try simp (etaStruct := .none) only [push_cast, DrawG, seval, getD_in _ _ _ hlt, ordP]); (try (refine xsu ?_; try exact xtI))))
        refine ⟨k + 1, by omega, by omega, To.mk [0, 1, 2, 3, 7, 5] rfl rfl (by decide) ?_ ?_⟩
        ·(iterate 2 ((try simp (etaStruct := .none) only [push_cast, DrawG, seval, st1, st2, st3, List.append_nil, List.map_append, gopP]); (try (refine xsu ?_; try exact xtI))))
        ·(try (refine xst ?_; try exact xtI))
       ·rw [addB_of (by omega)] at st1; rw [addG_of (by omega)] at st2; rw [addD_3 hor h] at st3
        refine callM [2, 3, 4, 5] (add_mine (l.getD k default) (blowsV (l.take k) w) (goesV (l.take k) w) (deedsV (l.take k) w) h (by omega)) (WkL.refl _) rfl (by decide) (by simp [lookC_c]) ?_
        (iterate 2 ((try simp (etaStruct := .none) only [push_cast, DrawG, seval, getD_in _ _ _ hlt, ordP]); (try (refine xsu ?_; try exact xtI))))
        refine ⟨k + 1, by omega, by omega, To.mk [0, 1, 2, 3, 4, 7] rfl rfl (by decide) ?_ ?_⟩
        ·(iterate 2 ((try simp (etaStruct := .none) only [push_cast, DrawG, seval, st1, st2, st3, List.append_nil, List.map_append, dedP]); (try (refine xsu ?_; try exact xtI))))
        ·(try (refine xst ?_; try exact xtI))
       ·rw [addB_of (by omega)] at st1; rw [addG_of (by omega)] at st2; rw [addD_4 hor h] at st3
        refine callM [2, 3, 4, 5] (add_drop (l.getD k default) (blowsV (l.take k) w) (goesV (l.take k) w) (deedsV (l.take k) w) h (by omega)) (WkL.refl _) rfl (by decide) (by simp [lookC_c]) ?_
        (iterate 2 ((try simp (etaStruct := .none) only [push_cast, DrawG, seval, getD_in _ _ _ hlt, ordP]); (try (refine xsu ?_; try exact xtI))))
        refine ⟨k + 1, by omega, by omega, To.mk [0, 1, 2, 3, 4, 7] rfl rfl (by decide) ?_ ?_⟩
        ·(iterate 2 ((try simp (etaStruct := .none) only [push_cast, DrawG, seval, st1, st2, st3, List.append_nil, List.map_append, dedP]); (try (refine xsu ?_; try exact xtI))))
        ·(try (refine xst ?_; try exact xtI))
       ·rw [addB_of (by omega)] at st1; rw [addG_of (by omega)] at st2; rw [addD_5 hor h] at st3
        refine callM [2, 3, 4, 5] (add_make (l.getD k default) (blowsV (l.take k) w) (goesV (l.take k) w) (deedsV (l.take k) w) h (by omega)) (WkL.refl _) rfl (by decide) (by simp [lookC_c]) ?_
        (iterate 2 ((try simp (etaStruct := .none) only [push_cast, DrawG, seval, getD_in _ _ _ hlt, ordP]); (try (refine xsu ?_; try exact xtI))))
        refine ⟨k + 1, by omega, by omega, To.mk [0, 1, 2, 3, 4, 7] rfl rfl (by decide) ?_ ?_⟩
        ·(iterate 2 ((try simp (etaStruct := .none) only [push_cast, DrawG, seval, st1, st2, st3, List.append_nil, List.map_append, dedP]); (try (refine xsu ?_; try exact xtI))))
        ·(try (refine xst ?_; try exact xtI))
      ·(try replace h6 := xhh h6)
       have ha : allowV (l.getD k default) w = false := by
        rw [← hx]
        rcases h6 with h | h
        ·rw [h]; rfl
        ·rw [decide_eq_false h, Bool.and_false]
       rw [ha] at st1 st2 st3
       simp only [Bool.false_eq_true, if_false, List.append_nil] at st1 st2 st3
       (iterate 2 ((try simp (etaStruct := .none) only [push_cast, DrawG, seval, getD_in _ _ _ hlt, ordP]); (try (refine xsu ?_; try exact xtI))))
       refine ⟨k + 1, by omega, by omega, To.mk [0, 1, 2, 3, 4, 5] rfl rfl (by decide) ?_ ?_⟩
       ·(iterate 2 ((try simp (etaStruct := .none) only [push_cast, DrawG, seval, st1, st2, st3]); (try (refine xsu ?_; try exact xtI))))
       ·(iterate 2 ((try simp (etaStruct := .none) only [push_cast, DrawG, seval, getD_in _ _ _ hlt, ordP]); (try (refine xsu ?_; try exact xtI))))
    ·(try replace h4 := xhh h4)
     obtain rfl : k = l.length := by omega
     (iterate 2 ((try simp (etaStruct := .none) only [push_cast, DrawG, seval, List.take_length]); (try (refine xsu ?_; try exact xtI))))
     (try (refine ⟨by kernel_rfl, ?_⟩))
     (iterate 2 ((try simp (etaStruct := .none) only [push_cast, DrawG, seval, List.take_length]); (try (refine xsu ?_; try exact xtI))))
     exact xrz rfl
end Go.Proofs.YtllmjdcblfkfaaaGreat
namespace Go.Proofs.YtllmjdcblfkfaaaGreat
set_option linter.all false
open Go.RowKit
set_option maxRecDepth 100000
theorem deedV_now (w : Wld) (d : Ded) : (deedV w d).1.now = w.now := by
 unfold deedV
 repeat' split
 all_goals rfl
theorem deedsA_now (l : List Ded) : ∀ w, (deedsA w l).1.now = w.now := by
 induction l with
 | nil => intro w; rfl
 | cons a r ih => intro w; rw [deedsA, ih, deedV_now]
def tkA (w : Wld) (l : List Ord) : Wld := struckW w (blowsV l w)
def tkB (WR : Cel → List Int) (w : Wld) (l : List Ord) : Wld := setT (tkA w l) (marchV w.f WR (goesV l w) (tkA w l).troops).1
def tkC (WR : Cel → List Int) (w : Wld) (l : List Ord) : Wld := (deedsA (tkB WR w l) (deedsV l w)).1
def nowUp (w : Wld) : Wld := { w with now := w.now + 1 }
def turnV (WR : Cel → List Int) (w : Wld) (l : List Ord) : Wld := nowUp (tkC WR w l)
def turnG (w : Wld) (l : List Ord) : List Int := goneV w (blowsV l w)
def turnM (WR : Cel → List Int) (w : Wld) (l : List Ord) : List Int := (marchV w.f WR (goesV l w) (tkA w l).troops).2
def turnD (WR : Cel → List Int) (w : Wld) (l : List Ord) : List Bool := (deedsA (tkB WR w l) (deedsV l w)).2
def turnE (l : List Ord) (w : Wld) : Int := if splitE l w ≠ 0 then splitE l w else if 1000000 ≤ w.now then 6 else 0
theorem splitE_ok {l : List Ord} {w : Wld} (h : splitE l w = 0) : ordsE l = 0 ∧ worldE w = 0 := by
 have ho : ordsE l = 0 := by
  unfold splitE at h
  split at h
  ·rename_i h1; exact absurd h h1
  ·rename_i h1; simpa using h1
 exact ⟨ho, by unfold splitE at h; rwa [if_neg (by simp [ho])] at h⟩
theorem split_lens {l : List Ord} {w : Wld} (h : ordsE l = 0) : (blowsV l w).length ≤ 100 ∧ (goesV l w).length ≤ 100 ∧ (deedsV l w).length ≤ 100 := by
 obtain ⟨o1, o2⟩ := ordsE_ok h
 have f1 := ford_len (fun o => allowV o w) addB addB_len l
 have f2 := ford_len (fun o => allowV o w) addG addG_len l
 have f3 := ford_len (fun o => allowV o w) addD addD_len l
 change (blowsV l w).length ≤ _ at f1
 change (goesV l w).length ≤ _ at f2
 change (deedsV l w).length ≤ _ at f3
 omega
theorem right_tkA {w : Wld} (h : Right w) (l : List Ord) : Right (tkA w l) := right_struck h _ fun id => (harmV_b w _ id).1
theorem right_tkB {w : Wld} (h : Right w) {WR : Cel → List Int} (hWR : ∀ a, FloodIs w.f [a] (WR a)) (l : List Ord) : Right (tkB WR w l) := right_marched (w := tkA w l) (right_tkA h l) hWR _
theorem right_tkC {w : Wld} (h : Right w) {WR : Cel → List Int} (hWR : ∀ a, FloodIs w.f [a] (WR a)) (l : List Ord) : Right (tkC WR w l) := right_deeds _ (right_tkB h hWR l)
theorem tkC_now (WR : Cel → List Int) (w : Wld) (l : List Ord) : (tkC WR w l).now = w.now := by unfold tkC; rw [deedsA_now]; rfl
theorem right_nowUp {w : Wld} (h : Right w) (hn : w.now < 1000000) : Right (nowUp w) := by
 have := h.nw
 refine ⟨h.f, h.nb, h.nt, h.sl, h.ml, h.nx, ?_, h.base, h.mine, fun k hk => ?_, h.ord⟩
 ·change 0 ≤ w.now + 1 ∧ w.now + 1 ≤ 1000000; omega
 ·have t := h.trp k hk
  exact ⟨t.kind, t.id, t.owner, t.at_, t.x, t.y, t.life, t.load⟩
theorem right_turn {w : Wld} (h : Right w) {WR : Cel → List Int} (hWR : ∀ a, FloodIs w.f [a] (WR a)) (l : List Ord) (hn : w.now < 1000000) : Right (turnV WR w l) := right_nowUp (right_tkC h hWR l) (by rw [tkC_now]; exact hn)
end Go.Proofs.YtllmjdcblfkfaaaGreat
namespace Go.Proofs.YtllmjdcblfkfaaaGreat
set_option linter.all false
open Go.RowKit
set_option maxRecDepth 100000
set_option maxHeartbeats 1000000
abbrev repA (g m : List Int) (d : List Bool) : AV := .agg [.c (.sl 1 (g.map i64P)), .c (.sl 1 (m.map i64P)), .c (.sl 1 (d.map boolP))]
theorem tturn_k (w : Wld) (l : List Ord) (WR : Cel → List Int) (hWR : ∀ a, FloodIs w.f [a] (WR a)) (hll : l.length ≤ 9223372036854775807) (h : turnE l w = 0) : Spec Tryz.prog 34 [wldA w, .c (.sl 6 (l.map ordP))] [] (.tup [wldA (turnV WR w l), repA (turnG w l) (turnM WR w l) (turnD WR w l), I .i64 0]) [] := by
 have hs : splitE l w = 0 := by unfold turnE at h; split at h; rename_i h1; exact absurd h h1; rename_i h1; simpa using h1
 have hn : w.now < 1000000 := by unfold turnE at h; rw [if_neg (by simp [hs])] at h; split at h; exact absurd h (by decide); omega
 obtain ⟨ho, hw⟩ := splitE_ok hs
 have R0 := right_of hw
 have RA := right_tkA R0 l
 have RB := right_tkB R0 hWR l
 have RC := right_tkC R0 hWR l
 obtain ⟨n1, n2, n3⟩ := split_lens (w := w) ho
 have hnow : (tkC WR w l).now = w.now := tkC_now WR w l
 have hnw := R0.nw
 have e1 : blowsE w (blowsV l w) = 0 := by unfold blowsE; rw [if_neg (by simp [hw]), if_neg (by omega)]
 have HK := hstruck_k w (blowsV l w) R0.l (by omega) e1
 rw [e1, show struckR w (blowsV l w) = tkA w l from by unfold struckR; rw [if_pos e1]; rfl, show goneR w (blowsV l w) = turnG w l from by unfold goneR; rw [if_pos e1]; rfl] at HK
 have e2 : stepE (tkA w l) (goesV l w) = 0 := by unfold stepE; rw [if_neg (by simp [RA.e]), if_neg (by omega)]
 have MK := mstepW_s (tkA w l) (goesV l w) WR hWR RA.l (by omega)
 rw [e2, if_pos rfl, if_pos rfl, show setT (tkA w l) (marchV (tkA w l).f WR (goesV l w) (tkA w l).troops).1 = tkB WR w l from rfl, show (marchV (tkA w l).f WR (goesV l w) (tkA w l).troops).2 = turnM WR w l from rfl] at MK
 have DK := do_k (tkB WR w l) (deedsV l w) RB (by omega)
 rw [show (deedsA (tkB WR w l) (deedsV l w)).1 = tkC WR w l from rfl, show (deedsA (tkB WR w l) (deedsV l w)).2 = turnD WR w l from rfl] at DK
 have hup : IntKind.i64.wrap ((tkC WR w l).now + 1) = w.now + 1 := by rw [hnow]; exact wrap_in _ (by omega) (by omega)
 have htv : turnV WR w l = { tkC WR w l with now := w.now + 1 } := by unfold turnV nowUp; rw [hnow]
 rw [htv]
 refine spec_am Tryz.func34 rfl rfl mix 62 rfl [.cell 4 28, .cell 5 62, .tmp 6] Tryz.results34 (Nat.le_of_ble_eq_true rfl) ?_
 (try (refine xst ?_; try exact xtI))
 refine caP (split_s l w hll R0.l ho hw) ?_
 (try (refine xst ?_; try exact xtI))
 refine cond_i (fun h1 => ?_) (fun h1 => ?_)
 ·(try replace h1 := xhh h1)
  omega
 ·(try replace h1 := xhh h1)
  (try (refine xst ?_; try exact xtI))
  refine cond_i (fun h2 => ?_) (fun h2 => ?_)
  ·(try replace h2 := xhh h2)
   simp at h2
  ·(try replace h2 := xhh h2)
   (iterate 2 ((try simp (etaStruct := .none) only [push_cast, DrawG, seval, hup]); (try (refine xsu ?_; try exact xtI))))
   refine caP (HK) ?_
   (iterate 2 ((try simp (etaStruct := .none) only [push_cast, DrawG, seval, hup]); (try (refine xsu ?_; try exact xtI))))
   refine caP (MK) ?_
   (iterate 2 ((try simp (etaStruct := .none) only [push_cast, DrawG, seval, hup]); (try (refine xsu ?_; try exact xtI))))
   refine caP (DK) ?_
   (iterate 2 ((try simp (etaStruct := .none) only [push_cast, DrawG, seval, hup]); (try (refine xsu ?_; try exact xtI))))
   (try (refine ⟨by kernel_rfl, ?_⟩))
   (iterate 2 ((try simp (etaStruct := .none) only [push_cast, DrawG, seval, hup]); (try (refine xsu ?_; try exact xtI))))
   exact xrz rfl
theorem tturn_e (w : Wld) (l : List Ord) (hl : wldL w) (hll : l.length ≤ 9223372036854775807) (h : splitE l w ≠ 0) : Spec Tryz.prog 34 [wldA w, .c (.sl 6 (l.map ordP))] [] (.tup [wldA default, repA [] [] [], I .i64 (splitE l w)]) [] := by
 refine spec_am Tryz.func34 rfl rfl mix 62 rfl [.cell 4 28, .cell 5 62, .tmp 6] Tryz.results34 (Nat.le_of_ble_eq_true rfl) ?_
 (try (refine xst ?_; try exact xtI))
 refine caP (split_bad l w hll hl h) ?_
 (try (refine xst ?_; try exact xtI))
 refine cond_i (fun h1 => ?_) (fun h1 => ?_)
 ·(try replace h1 := xhh h1)
  exact absurd h1.1 h
 ·(try replace h1 := xhh h1)
  (try (refine xst ?_; try exact xtI))
  refine cond_i (fun h2 => ?_) (fun h2 => ?_)
  ·(try replace h2 := xhh h2)
   (try (refine xst ?_; try exact xtI))
   exact xrz rfl
  ·(try replace h2 := xhh h2)
   exact absurd h2 h
theorem tturn_f (w : Wld) (l : List Ord) (hl : wldL w) (hll : l.length ≤ 9223372036854775807) (hs : splitE l w = 0) (hn : 1000000 ≤ w.now) : Spec Tryz.prog 34 [wldA w, .c (.sl 6 (l.map ordP))] [] (.tup [wldA default, repA [] [] [], I .i64 6]) [] := by
 obtain ⟨ho, hw⟩ := splitE_ok hs
 refine spec_am Tryz.func34 rfl rfl mix 62 rfl [.cell 4 28, .cell 5 62, .tmp 6] Tryz.results34 (Nat.le_of_ble_eq_true rfl) ?_
 (try (refine xst ?_; try exact xtI))
 refine caP (split_s l w hll hl ho hw) ?_
 (try (refine xst ?_; try exact xtI))
 refine cond_i (fun h1 => ?_) (fun h1 => ?_)
 ·(try replace h1 := xhh h1)
  (try (refine xst ?_; try exact xtI))
  refine cond_i (fun h2 => ?_) (fun h2 => ?_)
  ·(try replace h2 := xhh h2)
   (try (refine xst ?_; try exact xtI))
   exact xrz rfl
  ·(try replace h2 := xhh h2)
   simp at h2
 ·(try replace h1 := xhh h1)
  omega
end Go.Proofs.YtllmjdcblfkfaaaGreat
namespace Go.Proofs.YtllmjdcblfkfaaaGreat
set_option linter.all false
open Go.RowKit
set_option maxRecDepth 100000
set_option maxHeartbeats 2000000
theorem mat_s (wl : List Cel) (h1 : 1 < wl.length) (o : Trp) : Spec Tryz.prog 81 [trpA o, .fel 1 [[.sl 2 (wl.map celP)]] 0 0] [] (B (decide (o.c = wl.getD 1 default))) [] := by
 have e := cel_dec o.c (wl.getD 1 default)
 refine spec_am Tryz.func81 rfl rfl mix 10 rfl [.tmp 3] Tryz.results81 (Nat.le_of_ble_eq_true rfl) ?_
 (iterate 2 ((try simp (etaStruct := .none) only [push_cast, DrawG, seval, getD_in _ _ _ h1, celP]); (try (refine xsu ?_; try exact xtI))))
 (try (refine ⟨by kernel_rfl, ?_⟩))
 (iterate 2 ((try simp (etaStruct := .none) only [push_cast, DrawG, seval, getD_in _ _ _ h1, celP]); (try (refine xsu ?_; try exact xtI))))
 (first | (refine retA rfl (Wk.of ?_); (try simp (etaStruct := .none) only [push_cast, DrawG, seval]); first | done | (simp [e, *]; done) | (simp_all [e]; done)) | (refine retA rfl ?_; (try simp (etaStruct := .none) only [push_cast, DrawG, seval]); (try simp [e, *]); (try exact wkc)))
theorem marched_s (w : Wld) (l : List Gop) (WR : Cel → List Int) (hWR : ∀ a, FloodIs w.f [a] (WR a)) (hl : w.f.p.length ≤ 9223372036854775807) (hll : l.length ≤ 1000) (hnt : w.troops.length ≤ 100) : Spec Tryz.prog 50 [wldA w, .c (.sl 3 (l.map gopP))] [] (.tup [wldA (setT w (marchV w.f WR l w.troops).1), .c (.sl 1 ((marchV w.f WR l w.troops).2.map i64P))]) [] := by
 refine spec_am Tryz.func50 rfl rfl mix 75 rfl [.cell 4 28, .tmp 5] Tryz.results50 (Nat.le_of_ble_eq_true rfl) ?_
 (try (refine xst ?_; try exact xtI))
 refine caM [] (trp_clone w.troops (by omega)) ?_
 (try (refine xst ?_; try exact xtI))
 refine loopI (fun k : Nat => ⟨[(21, I .i64 k), (20, I .i64 w.troops.length), (19, .own 1), (6, .own 2), (4, .ptr 3 0 0), (2, .ptr 0 0 0), (1, .c (.sl 3 (l.map gopP)))], [(0, .blk 28 (wldT w (.own 1))), (1, .row 83 7 ((marchK w.f WR l w.troops k).1.map trpP)), (2, .row 3 1 ((marchK w.f WR l w.troops k).2.map i64P)), (3, .blk 28 [I .i64 0, I .i64 0, .c (.v (.slice none 0 0)), .c (.v (.slice none 0 0)), .c (.v (.slice none 0 0)), .c (.v (.slice none 0 0)), .c (.v (.slice none 0 0)), I .i64 0, I .i64 0])], 4⟩) (fun k : Nat => k ≤ w.troops.length) (fun k : Nat => w.troops.length - k) (0) (Nat.zero_le _) ((To.nil 6 3 1 rfl).trans (To.mk [0, 2, 3, 1] rfl rfl (by decide) ?_ ?_)) ?_
 ·simp (etaStruct := .none) only [push_cast, DrawG, seval, marchK_zero, List.map_nil]
 ·simp (etaStruct := .none) only [push_cast, DrawG, seval]
 rintro k hk
 have hln := marchK_len w.f WR l w.troops k
 have hsk := marchK_succ w.f WR l w.troops k
 obtain ⟨S, hS⟩ : ∃ S, S = marchK w.f WR l w.troops k := ⟨_, rfl⟩
 rw [← hS] at hln hsk
 (iterate 2 ((try simp (etaStruct := .none) only [push_cast, DrawG, seval, ← hS, hln.1]); (try (refine xsu ?_; try exact xtI))))
 refine cond_i (fun h1 => ?_) (fun h1 => ?_)
 ·(try replace h1 := xhh h1)
  have hlt : k < S.1.length := by omega
  (iterate 2 ((try simp (etaStruct := .none) only [push_cast, DrawG, seval, ← hS, hln.1, getD_in _ _ _ hlt, trpP]); (try (refine xsu ?_; try exact xtI))))
  refine loopI (fun j : Nat => ⟨[(28, I .i64 j), (27, I .i64 l.length), (26, .c (.sl 3 (l.map gopP))), (21, I .i64 k), (20, I .i64 w.troops.length), (19, .own 1), (8, .ptr 4 0 0), (7, I .i64 k), (6, .own 2), (4, .ptr 3 0 0), (2, .ptr 0 0 0), (1, .c (.sl 3 (l.map gopP)))], [(0, .blk 28 (wldT w (.own 1))), (1, .row 83 7 (S.1.map trpP)), (2, .row 3 1 (S.2.map i64P)), (3, .blk 28 [I .i64 0, I .i64 0, .c (.v (.slice none 0 0)), .c (.v (.slice none 0 0)), .c (.v (.slice none 0 0)), .c (.v (.slice none 0 0)), .c (.v (.slice none 0 0)), I .i64 0, I .i64 0]), (4, .blk 83 (trpC (S.1.getD k default)))], 5⟩) (fun j : Nat => j ≤ l.length ∧ ∀ i, i < j → ¬ (l.getD i default).id = (S.1.getD k default).id) (fun j : Nat => l.length - j) (0) (⟨Nat.zero_le _, fun i h => absurd h (Nat.not_lt_zero _)⟩) (To.mk [0, 1, 2, 3, 4] rfl rfl (by decide) ?_ ?_) ?_
  ·simp (etaStruct := .none) only [push_cast, DrawG, seval, ← hS]
  ·simp (etaStruct := .none) only [push_cast, DrawG, seval]
  rintro j ⟨hj, hno⟩
  (iterate 2 ((try simp (etaStruct := .none) only [push_cast, DrawG, seval, ← hS, hln.1, getD_in _ _ _ hlt, trpP]); (try (refine xsu ?_; try exact xtI))))
  refine cond_i (fun h2 => ?_) (fun h2 => ?_)
  ·(try replace h2 := xhh h2)
   have hjl : j < l.length := by omega
   (iterate 2 ((try simp (etaStruct := .none) only [push_cast, DrawG, seval, ← hS, hln.1, getD_in _ _ _ hlt, trpP, getD_in _ _ _ hjl, gopP]); (try (refine xsu ?_; try exact xtI))))
   refine cond_i (fun h3 => ?_) (fun h3 => ?_)
   ·(try replace h3 := xhh h3)
    have hno2 : ∀ i, i < j + 1 → ¬ (l.getD i default).id = (S.1.getD k default).id := fun i hi => by
     rcases Nat.lt_or_ge i j with h | h
     ·exact hno i h
     ·rw [show i = j by omega]; exact h3
    (iterate 2 ((try simp (etaStruct := .none) only [push_cast, DrawG, seval, ← hS, hln.1, getD_in _ _ _ hlt, trpP, getD_in _ _ _ hjl, gopP]); (try (refine xsu ?_; try exact xtI))))
    refine ⟨j + 1, ⟨by omega, hno2⟩, by omega, To.mk [0, 1, 2, 3, 4] rfl rfl (by decide) ?_ ?_⟩
    ·(iterate 2 ((try simp (etaStruct := .none) only [push_cast, DrawG, seval, ← hS, hln.1, getD_in _ _ _ hlt, trpP, getD_in _ _ _ hjl, gopP]); (try (refine xsu ?_; try exact xtI))))
    ·(iterate 2 ((try simp (etaStruct := .none) only [push_cast, DrawG, seval, ← hS, hln.1, getD_in _ _ _ hlt, trpP, getD_in _ _ _ hjl, gopP]); (try (refine xsu ?_; try exact xtI))))
   ·(try replace h3 := xhh h3)
    have hg : findG l (S.1.getD k default).id = some (l.getD j default) := find_hit _ l j hjl (by simpa using h3) (fun i hi => by simpa using hno i hi)
    obtain ⟨wl, hwl⟩ : ∃ wl, wl = wayW w.f WR (S.1.getD k default).c (l.getD j default).to := ⟨_, rfl⟩
    have hwy : (if wayE (WR (S.1.getD k default).c) w.f (S.1.getD k default).c (l.getD j default).to = 0 then wayV (WR (S.1.getD k default).c) w.f (S.1.getD k default).c (l.getD j default).to else []) = wl := hwl.symm
    have hst := stepT_some (f := w.f) (WR := WR) (ts := S.1) hg
    rw [← hwl] at hst
    (iterate 2 ((try simp (etaStruct := .none) only [push_cast, DrawG, seval, ← hS, hln.1, getD_in _ _ _ hlt, trpP, getD_in _ _ _ hjl, gopP]); (try (refine xsu ?_; try exact xtI))))
    refine caP (wayOf_s w.f (S.1.getD k default).c (l.getD j default).to hl (WR (S.1.getD k default).c) (hWR _)) ?_
    rw [hwy]
    (iterate 2 ((try simp (etaStruct := .none) only [push_cast, DrawG, seval, ← hS, hln.1, getD_in _ _ _ hlt, trpP, getD_in _ _ _ hjl, gopP]); (try (refine xsu ?_; try exact xtI))))
    refine gcallB (fun hcc => trp_any 81 [] [.fel 1 [[.sl 2 (wl.map celP)]] 0 0] S.1 (fun o => decide (o.c = wl.getD 1 default)) (by omega) (fun o _ => mat_s wl (by simp only [decide_eq_true_eq] at hcc; omega) o) (fun _ => rfl) (fun _ => rfl)) (WkL.refl _) rfl (by intro hc; (try simp (etaStruct := .none) only [push_cast, DrawG, seval]); (try simp_all)) ?_
    (iterate 2 ((try simp (etaStruct := .none) only [push_cast, DrawG, seval, ← hS, hln.1, getD_in _ _ _ hlt, trpP, getD_in _ _ _ hjl, gopP]); (try (refine xsu ?_; try exact xtI))))
    refine cond_i (fun h4 => ?_) (fun h4 => ?_)
    ·(try replace h4 := xhh h4)
     have hB1 : 1 < wl.length := by omega
     have hms : marchS w.f WR l S k = (S.1.set k (setC (S.1.getD k default) (wl.getD 1 default)), S.2 ++ [(S.1.getD k default).id]) := marchS_some (by
      rw [hst, if_neg]
      rintro (h | h)
      ·omega
      ·rw [h] at h4; simp at h4)
     (iterate 2 ((try simp (etaStruct := .none) only [push_cast, DrawG, seval, ← hS, hln.1, getD_in _ _ _ hlt, trpP, getD_in _ _ _ hjl, gopP, getD_in _ _ _ hB1, celP]); (try (refine xsu ?_; try exact xtI))))
     (try (refine ⟨by kernel_rfl, ?_⟩))
     (iterate 2 ((try simp (etaStruct := .none) only [push_cast, DrawG, seval, ← hS, hln.1, getD_in _ _ _ hlt, trpP, getD_in _ _ _ hjl, gopP, getD_in _ _ _ hB1, celP]); (try (refine xsu ?_; try exact xtI))))
     refine ⟨k + 1, by omega, by omega, To.mk [0, 1, 44, 3] rfl rfl (by decide) ?_ ?_⟩
     ·(iterate 2 ((try simp (etaStruct := .none) only [push_cast, DrawG, seval, hsk, hms, List.map_set, List.map_append, trpP, setC, i64P]); (try (refine xsu ?_; try exact xtI))))
     ·(iterate 2 ((try simp (etaStruct := .none) only [push_cast, DrawG, seval, ← hS, hln.1, getD_in _ _ _ hlt, trpP, getD_in _ _ _ hjl, gopP, getD_in _ _ _ hB1, celP]); (try (refine xsu ?_; try exact xtI))))
    ·(try replace h4 := xhh h4)
     have hms : marchS w.f WR l S k = S := marchS_none (by
      rw [hst, if_pos]
      rcases h4 with h | h
      ·exact .inl (by omega)
      ·exact .inr h)
     (iterate 2 ((try simp (etaStruct := .none) only [push_cast, DrawG, seval, ← hS, hln.1, getD_in _ _ _ hlt, trpP, getD_in _ _ _ hjl, gopP]); (try (refine xsu ?_; try exact xtI))))
     refine ⟨k + 1, by omega, by omega, To.mk [0, 1, 2, 3] rfl rfl (by decide) ?_ ?_⟩
     ·(iterate 2 ((try simp (etaStruct := .none) only [push_cast, DrawG, seval, hsk, hms]); (try (refine xsu ?_; try exact xtI))))
     ·(iterate 2 ((try simp (etaStruct := .none) only [push_cast, DrawG, seval, ← hS, hln.1, getD_in _ _ _ hlt, trpP, getD_in _ _ _ hjl, gopP]); (try (refine xsu ?_; try exact xtI))))
  ·(try replace h2 := xhh h2)
   have hnone : findG l (S.1.getD k default).id = none := by
    unfold findG
    rw [List.find?_eq_none]
    intro g hg
    obtain ⟨i, hi, rfl⟩ := mem_getD.1 hg
    simpa using hno i (by omega)
   have hms : marchS w.f WR l S k = S := marchS_none (by unfold stepT; rw [hnone])
   (iterate 2 ((try simp (etaStruct := .none) only [push_cast, DrawG, seval, ← hS, hln.1, getD_in _ _ _ hlt, trpP]); (try (refine xsu ?_; try exact xtI))))
   refine ⟨k + 1, by omega, by omega, To.mk [0, 1, 2, 3] rfl rfl (by decide) ?_ ?_⟩
   ·(iterate 2 ((try simp (etaStruct := .none) only [push_cast, DrawG, seval, hsk, hms]); (try (refine xsu ?_; try exact xtI))))
   ·(iterate 2 ((try simp (etaStruct := .none) only [push_cast, DrawG, seval, ← hS, hln.1, getD_in _ _ _ hlt, trpP]); (try (refine xsu ?_; try exact xtI))))
 ·(try replace h1 := xhh h1)
  obtain rfl : k = w.troops.length := by omega
  have hmv : marchV w.f WR l w.troops = S := hS.symm
  rw [hmv]
  (iterate 2 ((try simp (etaStruct := .none) only [push_cast, DrawG, seval, ← hS, hln.1]); (try (refine xsu ?_; try exact xtI))))
  refine ret0 rfl (by repeat' (first | exact trivial | exact rfl | refine ⟨?_, ?_⟩)) (Wk.of ?_)
  first | rfl | kernel_rfl
theorem king_s (a b : Cel) (ha : -1000000 ≤ a.x ∧ a.x ≤ 1000000 ∧ -1000000 ≤ a.y ∧ a.y ≤ 1000000) : Spec Tryz.prog 118 [celA a, celA b] [] (B (besB a b)) [] := by
 refine spec_am Tryz.func118 rfl rfl mix 25 rfl [.tmp 4] Tryz.results118 (Nat.le_of_ble_eq_true rfl) ?_
 (try (refine xst ?_; try exact xtI))
 refine caP (between_s b.x (a.x - 1) (a.x + 1)) ?_
 (try (refine xst ?_; try exact xtI))
 refine gcP (fun hcc => between_s b.y (a.y - 1) (a.y + 1)) ?_
 (try (refine xst ?_; try exact xtI))
 (first | (refine retA rfl (Wk.of ?_); (try simp (etaStruct := .none) only [push_cast, DrawG, seval]); first | done | (simp [besB, *]; done) | (simp_all [besB]; done)) | (refine retA rfl ?_; (try simp (etaStruct := .none) only [push_cast, DrawG, seval]); (try simp [besB, *]); (try exact wkc)))
abbrev dedPV (d : Ded) : List PV := [pI d.kind, pI d.who, pI d.c.x, pI d.c.y, pI d.what]
theorem rdc1_s (t : Trp) (d : Ded) : Spec Tryz.prog 117 ([] ++ [trpA t] ++ [.fel 5 [dedPV d] 0 0]) [] (B (isId d.who t)) [] := by
 refine spec_am Tryz.func117 rfl rfl mix 9 rfl [.tmp 3] Tryz.results117 (Nat.le_of_ble_eq_true rfl) ?_
 (try (refine xst ?_; try exact xtI))
 (first | (refine retA rfl (Wk.of ?_); (try simp (etaStruct := .none) only [push_cast, DrawG, seval]); first | done | (simp [isId, *]; done) | (simp_all [isId]; done)) | (refine retA rfl ?_; (try simp (etaStruct := .none) only [push_cast, DrawG, seval]); (try simp [isId, *]); (try exact wkc)))
theorem rdc2_s (t : Trp) (c : Cel) : Spec Tryz.prog 119 ([] ++ [trpA t] ++ [.fel 2 [[pI c.x, pI c.y]] 0 0]) [] (B (decide (t.c = c))) [] := by
 refine spec_am Tryz.func119 rfl rfl mix 8 rfl [.tmp 3] Tryz.results119 (Nat.le_of_ble_eq_true rfl) ?_
 (iterate 2 ((try simp (etaStruct := .none) only [push_cast, DrawG, seval, cel_dec]); (try (refine xsu ?_; try exact xtI))))
 exact xrz rfl
theorem rd_0 (w : Wld) (d : Ded) (hw : Right w) (h : d.kind ≠ 1 ∧ d.kind ≠ 2 ∧ d.kind ≠ 3) : Spec Tryz.prog 82 [wldA w, dedA d] [] (.tup [wldA w, B false]) [] := by
 have p1 := hw.places
 have p2 := hw.nb
 have p3 := hw.sl
 have p4 := hw.ml
 have p5 := hw.nt
 refine spec_am Tryz.func82 rfl rfl mix 292 rfl [.cell 4 28, .tmp 5] Tryz.results82 (Nat.le_of_ble_eq_true rfl) ?_
 (try (refine xst ?_; try exact xtI))
 refine caM [] (int_clone w.stocks (by omega)) ?_
 (try (refine xst ?_; try exact xtI))
 refine caM [] (int_clone w.mines (by omega)) ?_
 (try (refine xst ?_; try exact xtI))
 refine caM [] (trp_clone w.troops (by omega)) ?_
 (try (refine xst ?_; try exact xtI))
 (try (refine ⟨by kernel_rfl, ?_⟩))
 (try (refine xst ?_; try exact xtI))
 refine callB (trp_ix _ [] [.fel 5 [dedPV d] 0 0] w.troops (isId d.who) (by omega) (fun t _ => rdc1_s t d) (fun _ => rfl) (fun _ => rfl)) (WkL.refl _) rfl ?_
 (try (refine xst ?_; try exact xtI))
 refine cond_i (fun h1 => ?_) (fun h1 => ?_)
 ·(try replace h1 := xhh h1)
  exfalso; omega
 ·(try replace h1 := xhh h1)
  (try (refine xst ?_; try exact xtI))
  refine cond_i (fun h2 => ?_) (fun h2 => ?_)
  ·(try replace h2 := xhh h2)
   exfalso; omega
  ·(try replace h2 := xhh h2)
   (try (refine xst ?_; try exact xtI))
   refine cond_i (fun h3 => ?_) (fun h3 => ?_)
   ·(try replace h3 := xhh h3)
    exfalso; omega
   ·(try replace h3 := xhh h3)
    (try (refine xst ?_; try exact xtI))
    exact xrz rfl
theorem rd_none (w : Wld) (d : Ded) (hw : Right w) (h : d.kind = 1 ∨ d.kind = 2) (hf : w.troops.findIdx? (isId d.who) = none) (hpos : 0 < w.troops.length) : Spec Tryz.prog 82 [wldA w, dedA d] [] (.tup [wldA w, B false]) [] := by
 have p1 := hw.places
 have p2 := hw.nb
 have p3 := hw.sl
 have p4 := hw.ml
 have p5 := hw.nt
 have hz : ixOf (isId d.who) w.troops = -1 := by unfold ixOf; rw [hf]
 have hz2 : (ixOf (isId d.who) w.troops).toNat = 0 := by rw [hz]; rfl
 obtain ⟨o, eo, ho, hs⟩ := own_at hw hpos
 refine spec_am Tryz.func82 rfl rfl mix 292 rfl [.cell 4 28, .tmp 5] Tryz.results82 (Nat.le_of_ble_eq_true rfl) ?_
 (iterate 2 ((try simp (etaStruct := .none) only [push_cast, DrawG, seval, hz2, getD_in _ _ _ hpos, trpP, eo, getD_in _ _ _ ho, celP]); (try (refine xsu ?_; try exact xtI))))
 refine caM [] (int_clone w.stocks (by omega)) ?_
 (iterate 2 ((try simp (etaStruct := .none) only [push_cast, DrawG, seval, hz2, getD_in _ _ _ hpos, trpP, eo, getD_in _ _ _ ho, celP]); (try (refine xsu ?_; try exact xtI))))
 refine caM [] (int_clone w.mines (by omega)) ?_
 (iterate 2 ((try simp (etaStruct := .none) only [push_cast, DrawG, seval, hz2, getD_in _ _ _ hpos, trpP, eo, getD_in _ _ _ ho, celP]); (try (refine xsu ?_; try exact xtI))))
 refine caM [] (trp_clone w.troops (by omega)) ?_
 (iterate 2 ((try simp (etaStruct := .none) only [push_cast, DrawG, seval, hz2, getD_in _ _ _ hpos, trpP, eo, getD_in _ _ _ ho, celP]); (try (refine xsu ?_; try exact xtI))))
 (try (refine ⟨by kernel_rfl, ?_⟩))
 (iterate 2 ((try simp (etaStruct := .none) only [push_cast, DrawG, seval, hz2, getD_in _ _ _ hpos, trpP, eo, getD_in _ _ _ ho, celP]); (try (refine xsu ?_; try exact xtI))))
 refine callB (trp_ix _ [] [.fel 5 [dedPV d] 0 0] w.troops (isId d.who) (by omega) (fun t _ => rdc1_s t d) (fun _ => rfl) (fun _ => rfl)) (WkL.refl _) rfl ?_
 (iterate 2 ((try simp (etaStruct := .none) only [push_cast, DrawG, seval, hz2, getD_in _ _ _ hpos, trpP, eo, getD_in _ _ _ ho, celP]); (try (refine xsu ?_; try exact xtI))))
 refine cond_i (fun h1 => ?_) (fun h1 => ?_)
 ·(try replace h1 := xhh h1)
  (iterate 2 ((try simp (etaStruct := .none) only [push_cast, DrawG, seval, hz2, getD_in _ _ _ hpos, trpP, eo, getD_in _ _ _ ho, celP]); (try (refine xsu ?_; try exact xtI))))
  repeat (with_reducible refine And.intro ?_ ?_; · (simp [hz]; done))
  refine gcP (fun hcc => in_s' w.f d.c hw.f) ?_
  (iterate 2 ((try simp (etaStruct := .none) only [push_cast, DrawG, seval, hz2, getD_in _ _ _ hpos, trpP, eo, getD_in _ _ _ ho, celP]); (try (refine xsu ?_; try exact xtI))))
  refine gcallN ?_ ?_
  ·simp [hz]
  (iterate 2 ((try simp (etaStruct := .none) only [push_cast, DrawG, seval, hz2, getD_in _ _ _ hpos, trpP, eo, getD_in _ _ _ ho, celP]); (try (refine xsu ?_; try exact xtI))))
  (try (refine ⟨by kernel_rfl, ?_⟩))
  (iterate 2 ((try simp (etaStruct := .none) only [push_cast, DrawG, seval, hz2, getD_in _ _ _ hpos, trpP, eo, getD_in _ _ _ ho, celP]); (try (refine xsu ?_; try exact xtI))))
  refine cond_i (fun h2 => ?_) (fun h2 => ?_)
  ·(try replace h2 := xhh h2)
   (iterate 2 ((try simp (etaStruct := .none) only [push_cast, DrawG, seval, hz2, getD_in _ _ _ hpos, trpP, eo, getD_in _ _ _ ho, celP]); (try (refine xsu ?_; try exact xtI))))
   exact xrz rfl
  ·(try replace h2 := xhh h2)
   exact absurd h2 (by decide)
 ·(try replace h1 := xhh h1)
  (iterate 2 ((try simp (etaStruct := .none) only [push_cast, DrawG, seval, hz2, getD_in _ _ _ hpos, trpP, eo, getD_in _ _ _ ho, celP]); (try (refine xsu ?_; try exact xtI))))
  refine cond_i (fun h3 => ?_) (fun h3 => ?_)
  ·(try replace h3 := xhh h3)
   (iterate 2 ((try simp (etaStruct := .none) only [push_cast, DrawG, seval, hz2, getD_in _ _ _ hpos, trpP, eo, getD_in _ _ _ ho, celP]); (try (refine xsu ?_; try exact xtI))))
   repeat (with_reducible refine And.intro ?_ ?_; · (simp [hz]; done))
   refine gcallN ?_ ?_
   ·simp [hz]
   (iterate 2 ((try simp (etaStruct := .none) only [push_cast, DrawG, seval, hz2, getD_in _ _ _ hpos, trpP, eo, getD_in _ _ _ ho, celP]); (try (refine xsu ?_; try exact xtI))))
   (try (refine ⟨by kernel_rfl, ?_⟩))
   (iterate 2 ((try simp (etaStruct := .none) only [push_cast, DrawG, seval, hz2, getD_in _ _ _ hpos, trpP, eo, getD_in _ _ _ ho, celP]); (try (refine xsu ?_; try exact xtI))))
   refine cond_i (fun h4 => ?_) (fun h4 => ?_)
   ·(try replace h4 := xhh h4)
    (iterate 2 ((try simp (etaStruct := .none) only [push_cast, DrawG, seval, hz2, getD_in _ _ _ hpos, trpP, eo, getD_in _ _ _ ho, celP]); (try (refine xsu ?_; try exact xtI))))
    exact xrz rfl
   ·(try replace h4 := xhh h4)
    exact absurd h4 (by decide)
  ·(try replace h3 := xhh h3)
   exfalso; omega
theorem rd_empty (w : Wld) (d : Ded) (hw : Right w) (h : d.kind = 1 ∨ d.kind = 2) (ht : w.troops = []) : Spec Tryz.prog 82 [wldA w, dedA d] [] (.tup [wldA w, B false]) [] := by
 have p1 := hw.places
 have p2 := hw.nb
 have p3 := hw.sl
 have p4 := hw.ml
 have p5 := hw.nt
 have hz : ixOf (isId d.who) ([] : List Trp) = -1 := rfl
 have hcl : Spec Tryz.prog 78 [.c (.sl 7 [])] [] (.own 0) [.row 83 7 []] := trp_clone [] (by simp)
 have hix : Spec Tryz.prog 116 [.c (.sl 7 []), .clo (.func 117) [] [.fel 5 [dedPV d] 0 0]] [] (I .i64 (ixOf (isId d.who) [])) [] := trp_ix _ [] [.fel 5 [dedPV d] 0 0] [] (isId d.who) (by simp) (fun t _ => rdc1_s t d) (fun _ => rfl) (fun _ => rfl)
 obtain ⟨wf, wb, ws, wm, wt, wn, wo⟩ := w
 simp only at ht p1 p2 p3 p4 p5
 subst ht
 refine spec_am Tryz.func82 rfl rfl mix 292 rfl [.cell 4 28, .tmp 5] Tryz.results82 (Nat.le_of_ble_eq_true rfl) ?_
 (iterate 2 ((try simp (etaStruct := .none) only [push_cast, DrawG, seval, List.getD_nil]); (try (refine xsu ?_; try exact xtI))))
 refine caM [] (int_clone ws (by omega)) ?_
 (iterate 2 ((try simp (etaStruct := .none) only [push_cast, DrawG, seval, List.getD_nil]); (try (refine xsu ?_; try exact xtI))))
 refine caM [] (int_clone wm (by omega)) ?_
 (iterate 2 ((try simp (etaStruct := .none) only [push_cast, DrawG, seval, List.getD_nil]); (try (refine xsu ?_; try exact xtI))))
 refine caM [] (hcl) ?_
 (iterate 2 ((try simp (etaStruct := .none) only [push_cast, DrawG, seval, List.getD_nil]); (try (refine xsu ?_; try exact xtI))))
 (try (refine ⟨by kernel_rfl, ?_⟩))
 (iterate 2 ((try simp (etaStruct := .none) only [push_cast, DrawG, seval, List.getD_nil]); (try (refine xsu ?_; try exact xtI))))
 refine callB (hix) (WkL.refl _) rfl ?_
 (iterate 2 ((try simp (etaStruct := .none) only [push_cast, DrawG, seval, List.getD_nil]); (try (refine xsu ?_; try exact xtI))))
 refine cond_i (fun h1 => ?_) (fun h1 => ?_)
 ·(try replace h1 := xhh h1)
  (iterate 2 ((try simp (etaStruct := .none) only [push_cast, DrawG, seval, List.getD_nil]); (try (refine xsu ?_; try exact xtI))))
  repeat (with_reducible refine And.intro ?_ ?_; · (simp [hz]; done))
  refine gcallN ?_ ?_
  ·simp [hz]
  (iterate 2 ((try simp (etaStruct := .none) only [push_cast, DrawG, seval, List.getD_nil]); (try (refine xsu ?_; try exact xtI))))
  repeat (with_reducible refine And.intro ?_ ?_; · (simp [hz]; done))
  refine gcallN ?_ ?_
  ·simp [hz]
  (iterate 2 ((try simp (etaStruct := .none) only [push_cast, DrawG, seval, List.getD_nil]); (try (refine xsu ?_; try exact xtI))))
  (try (refine ⟨by kernel_rfl, ?_⟩))
  (iterate 2 ((try simp (etaStruct := .none) only [push_cast, DrawG, seval, List.getD_nil]); (try (refine xsu ?_; try exact xtI))))
  refine cond_i (fun h2 => ?_) (fun h2 => ?_)
  ·(try replace h2 := xhh h2)
   (iterate 2 ((try simp (etaStruct := .none) only [push_cast, DrawG, seval, List.getD_nil]); (try (refine xsu ?_; try exact xtI))))
   exact xrz rfl
  ·(try replace h2 := xhh h2)
   simp [hz] at h2
 ·(try replace h1 := xhh h1)
  (iterate 2 ((try simp (etaStruct := .none) only [push_cast, DrawG, seval, List.getD_nil]); (try (refine xsu ?_; try exact xtI))))
  refine cond_i (fun h3 => ?_) (fun h3 => ?_)
  ·(try replace h3 := xhh h3)
   (iterate 2 ((try simp (etaStruct := .none) only [push_cast, DrawG, seval, List.getD_nil]); (try (refine xsu ?_; try exact xtI))))
   repeat (with_reducible refine And.intro ?_ ?_; · (simp [hz]; done))
   refine gcallN ?_ ?_
   ·simp [hz]
   (iterate 2 ((try simp (etaStruct := .none) only [push_cast, DrawG, seval, List.getD_nil]); (try (refine xsu ?_; try exact xtI))))
   (try (refine ⟨by kernel_rfl, ?_⟩))
   (iterate 2 ((try simp (etaStruct := .none) only [push_cast, DrawG, seval, List.getD_nil]); (try (refine xsu ?_; try exact xtI))))
   refine cond_i (fun h4 => ?_) (fun h4 => ?_)
   ·(try replace h4 := xhh h4)
    (iterate 2 ((try simp (etaStruct := .none) only [push_cast, DrawG, seval, List.getD_nil]); (try (refine xsu ?_; try exact xtI))))
    exact xrz rfl
   ·(try replace h4 := xhh h4)
    simp [hz] at h4
  ·(try replace h3 := xhh h3)
   exfalso; omega
theorem rd_mine (w : Wld) (d : Ded) (j : Nat) (hw : Right w) (h : d.kind = 1) (hf : w.troops.findIdx? (isId d.who) = some j) (b : Bool) (W : Wld) (hW : (mineOk w d j = true → W = mineAt w j (idxN w.f d.c) ∧ b = true) ∧ (mineOk w d j = false → W = w ∧ b = false)) : Spec Tryz.prog 82 [wldA w, dedA d] [] (.tup [wldA W, B b]) [] := by
 have p1 := hw.places
 have p2 := hw.nb
 have p3 := hw.sl
 have p4 := hw.ml
 have p5 := hw.nt
 have hz : ixOf (isId d.who) w.troops = (j : Int) := by unfold ixOf; rw [hf]
 have hj := find_idx hf
 have ok := hw.trp j hj
 have hx := ok.x; have hy := ok.y
 have hfl := fldE_ok hw.f
 have hld := ok.load
 refine spec_am Tryz.func82 rfl rfl mix 292 rfl [.cell 4 28, .tmp 5] Tryz.results82 (Nat.le_of_ble_eq_true rfl) ?_
 (iterate 2 ((try simp (etaStruct := .none) only [push_cast, DrawG, seval, hz, getD_in _ _ _ hj, trpP]); (try (refine xsu ?_; try exact xtI))))
 refine caM [] (int_clone w.stocks (by omega)) ?_
 (iterate 2 ((try simp (etaStruct := .none) only [push_cast, DrawG, seval, hz, getD_in _ _ _ hj, trpP]); (try (refine xsu ?_; try exact xtI))))
 refine caM [] (int_clone w.mines (by omega)) ?_
 (iterate 2 ((try simp (etaStruct := .none) only [push_cast, DrawG, seval, hz, getD_in _ _ _ hj, trpP]); (try (refine xsu ?_; try exact xtI))))
 refine caM [] (trp_clone w.troops (by omega)) ?_
 (iterate 2 ((try simp (etaStruct := .none) only [push_cast, DrawG, seval, hz, getD_in _ _ _ hj, trpP]); (try (refine xsu ?_; try exact xtI))))
 (try (refine ⟨by kernel_rfl, ?_⟩))
 (iterate 2 ((try simp (etaStruct := .none) only [push_cast, DrawG, seval, hz, getD_in _ _ _ hj, trpP]); (try (refine xsu ?_; try exact xtI))))
 refine callB (trp_ix _ [] [.fel 5 [dedPV d] 0 0] w.troops (isId d.who) (by omega) (fun t _ => rdc1_s t d) (fun _ => rfl) (fun _ => rfl)) (WkL.refl _) rfl ?_
 (iterate 2 ((try simp (etaStruct := .none) only [push_cast, DrawG, seval, hz, getD_in _ _ _ hj, trpP]); (try (refine xsu ?_; try exact xtI))))
 refine cond_i (fun h1 => ?_) (fun h1 => ?_)
 ·(try replace h1 := xhh h1)
  (iterate 2 ((try simp (etaStruct := .none) only [push_cast, DrawG, seval, hz, getD_in _ _ _ hj, trpP]); (try (refine xsu ?_; try exact xtI))))
  refine gcP (fun hcc => in_s' w.f d.c hw.f) ?_
  (iterate 2 ((try simp (etaStruct := .none) only [push_cast, DrawG, seval, hz, getD_in _ _ _ hj, trpP]); (try (refine xsu ?_; try exact xtI))))
  refine gcP (fun hcc => king_s (w.troops.getD j default).c d.c (by omega)) ?_
  (iterate 2 ((try simp (etaStruct := .none) only [push_cast, DrawG, seval, hz, getD_in _ _ _ hj, trpP]); (try (refine xsu ?_; try exact xtI))))
  (try (refine ⟨by kernel_rfl, ?_⟩))
  (iterate 2 ((try simp (etaStruct := .none) only [push_cast, DrawG, seval, hz, getD_in _ _ _ hj, trpP]); (try (refine xsu ?_; try exact xtI))))
  refine cond_i (fun h2 => ?_) (fun h2 => ?_)
  ·(try replace h2 := xhh h2)
   have e : mineOk w d j = false := by
    unfold mineOk
    simp only [Bool.and_eq_false_iff, decide_eq_false_iff_not]
    rcases h2 with ((h2 | h2) | h2) | h2
    ·exact .inl (.inl (.inl (.inl (by omega))))
    ·exact .inl (.inl (.inl (.inr (by omega))))
    ·exact .inl (.inr h2)
    ·exact .inl (.inl (.inr h2))
   obtain ⟨rfl, rfl⟩ := hW.2 e
   (iterate 2 ((try simp (etaStruct := .none) only [push_cast, DrawG, seval, hz, getD_in _ _ _ hj, trpP]); (try (refine xsu ?_; try exact xtI))))
   exact xrz rfl
  ·(try replace h2 := xhh h2)
   have hin : inF w.f d.c = true := h2.1.2
   obtain ⟨m1, m2, m3, m4⟩ := idx_in hw hin
   obtain ⟨m, hm⟩ : ∃ m, m = idxN w.f d.c := ⟨_, rfl⟩
   rw [← hm] at m1 m2
   have ew1 : IntKind.i64.wrap (IntKind.i64.wrap (d.c.y * w.f.w) + d.c.x) = (m : Int) := by rw [wrap_in (d.c.y * w.f.w) (by omega) (by omega), wrap_in _ (by omega) (by omega)]; exact m2
   have hmb := (hw.mine m m1).1
   (iterate 2 ((try simp (etaStruct := .none) only [push_cast, DrawG, seval, hz, getD_in _ _ _ hj, trpP, ew1, getD_in _ _ _ m1, i64P]); (try (refine xsu ?_; try exact xtI))))
   refine cond_i (fun h3 => ?_) (fun h3 => ?_)
   ·(try replace h3 := xhh h3)
    have e : mineOk w d j = false := by
     unfold mineOk
     simp only [Bool.and_eq_false_iff, decide_eq_false_iff_not]
     exact .inr (by rw [← hm]; omega)
    obtain ⟨rfl, rfl⟩ := hW.2 e
    (iterate 2 ((try simp (etaStruct := .none) only [push_cast, DrawG, seval, hz, getD_in _ _ _ hj, trpP, ew1, getD_in _ _ _ m1, i64P]); (try (refine xsu ?_; try exact xtI))))
    exact xrz rfl
   ·(try replace h3 := xhh h3)
    have e : mineOk w d j = true := by
     unfold mineOk
     simp only [Bool.and_eq_true, decide_eq_true_eq]
     exact ⟨⟨⟨⟨by omega, by omega⟩, h2.2⟩, hin⟩, by rw [← hm]; omega⟩
    obtain ⟨rfl, rfl⟩ := hW.1 e
    rw [← hm]
    (iterate 2 ((try simp (etaStruct := .none) only [push_cast, DrawG, seval, hz, getD_in _ _ _ hj, trpP, ew1, getD_in _ _ _ m1, i64P]); (try (refine xsu ?_; try exact xtI))))
    simp (etaStruct := .none) only [push_cast, DrawG, seval, mineAt, wldA, withLoad, List.map_set, i64P, trpP]
    exact ret0 rfl (by repeat' (first | exact trivial | exact rfl | refine ⟨?_, ?_⟩)) (Wk.refl _)
 ·(try replace h1 := xhh h1)
  exact absurd h h1
theorem rd_drop (w : Wld) (d : Ded) (j : Nat) (hw : Right w) (h : d.kind = 2) (hf : w.troops.findIdx? (isId d.who) = some j) (b : Bool) (W : Wld) (hW : (dropOk w j = true → W = dropAt w j ∧ b = decide (0 < dropN w j)) ∧ (dropOk w j = false → W = w ∧ b = false)) : Spec Tryz.prog 82 [wldA w, dedA d] [] (.tup [wldA W, B b]) [] := by
 have p1 := hw.places
 have p2 := hw.nb
 have p3 := hw.sl
 have p4 := hw.ml
 have p5 := hw.nt
 have hz : ixOf (isId d.who) w.troops = (j : Int) := by unfold ixOf; rw [hf]
 have hj := find_idx hf
 have ok := hw.trp j hj
 obtain ⟨o, eo, ho, hs⟩ := own_at hw hj
 have hn := dropN_b hw hj
 have hb := hw.base o ho
 have hbx := inF_iff.1 (ground_iff.1 hb.1).1
 have hfl := fldE_ok hw.f
 have hld := ok.load
 have eo2 : (w.troops.getD j default).owner.toNat = o := by omega
 have edN : dropN w j = min (w.troops.getD j default).load (1000000 - w.stocks.getD o default) := by unfold dropN; rw [eo2]
 rw [eo2] at hn
 obtain ⟨t, ht⟩ : ∃ t, t = w.troops.getD j default := ⟨_, rfl⟩
 rw [← ht] at ok eo hn hld eo2 edN
 obtain ⟨s, hsv⟩ : ∃ s, s = w.stocks.getD o default := ⟨_, rfl⟩
 have setg : ∀ x : List PV, ((w.troops.map trpP).set j x).getD j [] = x := fun x => by rw [getD_at' _ _ _ (by simpa using hj)]; simp
 have setg2 : ∀ x : List PV, ((w.stocks.map i64P).set o x).getD o [] = x := fun x => by rw [getD_at' _ _ _ (by simpa using hs)]; simp
 have sets : ∀ x y : List PV, ((w.troops.map trpP).set j x).set j y = (w.troops.map trpP).set j y := fun x y => List.set_set _
 have sets2 : ∀ x y : List PV, ((w.stocks.map i64P).set o x).set o y = (w.stocks.map i64P).set o y := fun x y => List.set_set _
 have hset : w.troops.set j (withLoad t t.load) = w.troops := by
  have : withLoad t t.load = w.troops.getD j default := by rw [← ht]; rfl
  rw [this, set_same _ _ hj]
 have hset2 : w.stocks.set o s = w.stocks := by rw [hsv, set_same _ _ hs]
 refine spec_am Tryz.func82 rfl rfl mix 292 rfl [.cell 4 28, .tmp 5] Tryz.results82 (Nat.le_of_ble_eq_true rfl) ?_
 (iterate 2 ((try simp (etaStruct := .none) only [push_cast, DrawG, seval, hz, eo, List.map_set, withLoad, setg, setg2, sets, sets2, getD_in _ _ _ hj, ← ht, trpP, getD_in _ _ _ ho, celP, getD_in _ _ _ hs, ← hsv, i64P]); (try (refine xsu ?_; try exact xtI))))
 refine caM [] (int_clone w.stocks (by omega)) ?_
 (iterate 2 ((try simp (etaStruct := .none) only [push_cast, DrawG, seval, hz, eo, List.map_set, withLoad, setg, setg2, sets, sets2, getD_in _ _ _ hj, ← ht, trpP, getD_in _ _ _ ho, celP, getD_in _ _ _ hs, ← hsv, i64P]); (try (refine xsu ?_; try exact xtI))))
 refine caM [] (int_clone w.mines (by omega)) ?_
 (iterate 2 ((try simp (etaStruct := .none) only [push_cast, DrawG, seval, hz, eo, List.map_set, withLoad, setg, setg2, sets, sets2, getD_in _ _ _ hj, ← ht, trpP, getD_in _ _ _ ho, celP, getD_in _ _ _ hs, ← hsv, i64P]); (try (refine xsu ?_; try exact xtI))))
 refine caM [] (trp_clone w.troops (by omega)) ?_
 (iterate 2 ((try simp (etaStruct := .none) only [push_cast, DrawG, seval, hz, eo, List.map_set, withLoad, setg, setg2, sets, sets2, getD_in _ _ _ hj, ← ht, trpP, getD_in _ _ _ ho, celP, getD_in _ _ _ hs, ← hsv, i64P]); (try (refine xsu ?_; try exact xtI))))
 (try (refine ⟨by kernel_rfl, ?_⟩))
 (iterate 2 ((try simp (etaStruct := .none) only [push_cast, DrawG, seval, hz, eo, List.map_set, withLoad, setg, setg2, sets, sets2, getD_in _ _ _ hj, ← ht, trpP, getD_in _ _ _ ho, celP, getD_in _ _ _ hs, ← hsv, i64P]); (try (refine xsu ?_; try exact xtI))))
 refine callB (trp_ix _ [] [.fel 5 [dedPV d] 0 0] w.troops (isId d.who) (by omega) (fun t _ => rdc1_s t d) (fun _ => rfl) (fun _ => rfl)) (WkL.refl _) rfl ?_
 (iterate 2 ((try simp (etaStruct := .none) only [push_cast, DrawG, seval, hz, eo, List.map_set, withLoad, setg, setg2, sets, sets2, getD_in _ _ _ hj, ← ht, trpP, getD_in _ _ _ ho, celP, getD_in _ _ _ hs, ← hsv, i64P]); (try (refine xsu ?_; try exact xtI))))
 refine cond_i (fun h1 => ?_) (fun h1 => ?_)
 ·(try replace h1 := xhh h1)
  exfalso; omega
 ·(try replace h1 := xhh h1)
  (iterate 2 ((try simp (etaStruct := .none) only [push_cast, DrawG, seval, hz, eo, List.map_set, withLoad, setg, setg2, sets, sets2, getD_in _ _ _ hj, ← ht, trpP, getD_in _ _ _ ho, celP, getD_in _ _ _ hs, ← hsv, i64P]); (try (refine xsu ?_; try exact xtI))))
  refine cond_i (fun h2 => ?_) (fun h2 => ?_)
  ·(try replace h2 := xhh h2)
   (iterate 2 ((try simp (etaStruct := .none) only [push_cast, DrawG, seval, hz, eo, List.map_set, withLoad, setg, setg2, sets, sets2, getD_in _ _ _ hj, ← ht, trpP, getD_in _ _ _ ho, celP, getD_in _ _ _ hs, ← hsv, i64P]); (try (refine xsu ?_; try exact xtI))))
   refine gcP (fun hcc => king_s (w.bases.getD o default) t.c (by omega)) ?_
   (iterate 2 ((try simp (etaStruct := .none) only [push_cast, DrawG, seval, hz, eo, List.map_set, withLoad, setg, setg2, sets, sets2, getD_in _ _ _ hj, ← ht, trpP, getD_in _ _ _ ho, celP, getD_in _ _ _ hs, ← hsv, i64P]); (try (refine xsu ?_; try exact xtI))))
   (try (refine ⟨by kernel_rfl, ?_⟩))
   (iterate 2 ((try simp (etaStruct := .none) only [push_cast, DrawG, seval, hz, eo, List.map_set, withLoad, setg, setg2, sets, sets2, getD_in _ _ _ hj, ← ht, trpP, getD_in _ _ _ ho, celP, getD_in _ _ _ hs, ← hsv, i64P]); (try (refine xsu ?_; try exact xtI))))
   refine cond_i (fun h3 => ?_) (fun h3 => ?_)
   ·(try replace h3 := xhh h3)
    obtain ⟨rfl, rfl⟩ := hW.2 (by unfold dropOk; rw [← ht, eo2]; exact h3.resolve_left (by omega))
    (iterate 2 ((try simp (etaStruct := .none) only [push_cast, DrawG, seval, hz, eo, List.map_set, withLoad, setg, setg2, sets, sets2, getD_in _ _ _ hj, ← ht, trpP, getD_in _ _ _ ho, celP, getD_in _ _ _ hs, ← hsv, i64P]); (try (refine xsu ?_; try exact xtI))))
    exact xrz rfl
   ·(try replace h3 := xhh h3)
    obtain ⟨rfl, rfl⟩ := hW.1 (by unfold dropOk; rw [← ht, eo2]; exact h3.2)
    (iterate 2 ((try simp (etaStruct := .none) only [push_cast, DrawG, seval, hz, eo, List.map_set, withLoad, setg, setg2, sets, sets2, getD_in _ _ _ hj, ← ht, trpP, getD_in _ _ _ ho, celP, getD_in _ _ _ hs, ← hsv, i64P]); (try (refine xsu ?_; try exact xtI))))
    refine loopI (fun k : Nat => ⟨[(8, I .i64 k), (6, I .i64 j), (4, .ptr 1 0 0), (2, .ptr 0 0 0)], [(0, .blk 28 (shpC w 2 3 4)), (1, .blk 28 [I .i64 0, I .i64 0, .c (.v (.slice none 0 0)), .c (.v (.slice none 0 0)), .c (.v (.slice none 0 0)), .c (.v (.slice none 0 0)), .c (.v (.slice none 0 0)), I .i64 0, I .i64 0]), (2, .row 3 1 ((w.stocks.set o (s + k)).map i64P)), (3, miR w), (4, .row 83 7 ((w.troops.set j (withLoad t (t.load - k))).map trpP))], 5⟩) (fun k : Nat => (k : Int) ≤ dropN w j) (fun k : Nat => (dropN w j).toNat - k) (0) (by have := hn.1; simpa using this) (To.mk [0, 2, 11, 23, 35] rfl rfl (by decide) ?_ ?_) ?_
    ·simp (etaStruct := .none) only [push_cast, DrawG, seval, Int.natCast_zero, Int.add_zero, Int.sub_zero, hset, hset2]
    ·simp (etaStruct := .none) only [push_cast, DrawG, seval]
    rintro k hk
    have kt : t.kind = 1 ∨ t.kind = 2 := ok.kind
    (iterate 2 ((try simp (etaStruct := .none) only [push_cast, DrawG, seval, hz, eo, List.map_set, withLoad, setg, setg2, sets, sets2, getD_in _ _ _ hj, ← ht, trpP, getD_in _ _ _ ho, celP, getD_in _ _ _ hs, ← hsv, i64P]); (try (refine xsu ?_; try exact xtI))))
    (try (refine ⟨by kernel_rfl, ?_⟩))
    (iterate 2 ((try simp (etaStruct := .none) only [push_cast, DrawG, seval, hz, eo, List.map_set, withLoad, setg, setg2, sets, sets2, getD_in _ _ _ hj, ← ht, trpP, getD_in _ _ _ ho, celP, getD_in _ _ _ hs, ← hsv, i64P]); (try (refine xsu ?_; try exact xtI))))
    refine cond_i (fun h4 => ?_) (fun h4 => ?_)
    ·(try replace h4 := xhh h4)
     have hk2 : (k : Int) + 1 ≤ dropN w j := by rw [edN]; omega
     (iterate 2 ((try simp (etaStruct := .none) only [push_cast, DrawG, seval, hz, eo, List.map_set, withLoad, setg, setg2, sets, sets2, getD_in _ _ _ hj, ← ht, trpP, getD_in _ _ _ ho, celP, getD_in _ _ _ hs, ← hsv, i64P]); (try (refine xsu ?_; try exact xtI))))
     (try (refine ⟨by kernel_rfl, ?_⟩))
     (iterate 2 ((try simp (etaStruct := .none) only [push_cast, DrawG, seval, hz, eo, List.map_set, withLoad, setg, setg2, sets, sets2, getD_in _ _ _ hj, ← ht, trpP, getD_in _ _ _ ho, celP, getD_in _ _ _ hs, ← hsv, i64P]); (try (refine xsu ?_; try exact xtI))))
     refine ⟨k + 1, by omega, by omega, To.mk [0, 1, 2, 3, 4] rfl rfl (by decide) ?_ ?_⟩
     ·(iterate 2 ((try simp (etaStruct := .none) only [push_cast, DrawG, seval, List.map_set, withLoad, eo, setg, setg2, sets, sets2, trpP, i64P, Int.sub_sub, Int.add_assoc]); (try (refine xsu ?_; try exact xtI))))
     ·(iterate 2 ((try simp (etaStruct := .none) only [push_cast, DrawG, seval, hz, eo, List.map_set, withLoad, setg, setg2, sets, sets2, getD_in _ _ _ hj, ← ht, trpP, getD_in _ _ _ ho, celP, getD_in _ _ _ hs, ← hsv, i64P]); (try (refine xsu ?_; try exact xtI))))
    ·(try replace h4 := xhh h4)
     have hk3 : dropN w j = (k : Int) := by rw [edN] at hk ⊢; omega
     (iterate 2 ((try simp (etaStruct := .none) only [push_cast, DrawG, seval, hz, eo, List.map_set, withLoad, setg, setg2, sets, sets2, getD_in _ _ _ hj, ← ht, trpP, getD_in _ _ _ ho, celP, getD_in _ _ _ hs, ← hsv, i64P]); (try (refine xsu ?_; try exact xtI))))
     simp (etaStruct := .none) only [push_cast, DrawG, seval, dropAt, wldA, ← ht, eo2, ← hsv, hk3, withLoad, List.map_set, i64P, trpP, eo]
     exact ret0 rfl (by repeat' (first | exact trivial | exact rfl | refine ⟨?_, ?_⟩)) (Wk.refl _)
  ·(try replace h2 := xhh h2)
   exact absurd h h2
theorem around_m (b : Cel) {m : Nat} (hm : m < 9) : (around b).getD (m + 1) default = ⟨b.x + ((m % 3 : Nat) : Int) - 1, b.y + ((m / 3 : Nat) : Int) - 1⟩ := by
 have e : m + 1 = 1 + 3 * (m / 3) + m % 3 := by omega
 rw [e, around_at b (by omega) (by omega)]
 congr 1 <;> omega
theorem rd_hout (w : Wld) (d : Ded) (hw : Right w) (h : d.kind = 3) (hge : w.stocks.length ≤ d.who.toNat) : Spec Tryz.prog 82 [wldA w, dedA d] [] (.tup [wldA w, B false]) [] := by
 have p1 := hw.places
 have p2 := hw.nb
 have p3 := hw.sl
 have p4 := hw.ml
 have p5 := hw.nt
 have hg : (w.stocks.map i64P).getD d.who.toNat [] = [] := by
  simp only [List.getD_eq_getElem?_getD]; rw [List.getElem?_eq_none (by rw [List.length_map]; exact hge)]; rfl
 have hwf : within d.who 0 ((w.bases.length : Int) - 1) = false := by rw [within_f]; omega
 refine spec_am Tryz.func82 rfl rfl mix 292 rfl [.cell 4 28, .tmp 5] Tryz.results82 (Nat.le_of_ble_eq_true rfl) ?_
 (iterate 2 ((try simp (etaStruct := .none) only [push_cast, DrawG, seval, hg]); (try (refine xsu ?_; try exact xtI))))
 refine caM [] (int_clone w.stocks (by omega)) ?_
 (iterate 2 ((try simp (etaStruct := .none) only [push_cast, DrawG, seval, hg]); (try (refine xsu ?_; try exact xtI))))
 refine caM [] (int_clone w.mines (by omega)) ?_
 (iterate 2 ((try simp (etaStruct := .none) only [push_cast, DrawG, seval, hg]); (try (refine xsu ?_; try exact xtI))))
 refine caM [] (trp_clone w.troops (by omega)) ?_
 (iterate 2 ((try simp (etaStruct := .none) only [push_cast, DrawG, seval, hg]); (try (refine xsu ?_; try exact xtI))))
 (try (refine ⟨by kernel_rfl, ?_⟩))
 (iterate 2 ((try simp (etaStruct := .none) only [push_cast, DrawG, seval, hg]); (try (refine xsu ?_; try exact xtI))))
 refine callB (trp_ix _ [] [.fel 5 [dedPV d] 0 0] w.troops (isId d.who) (by omega) (fun t _ => rdc1_s t d) (fun _ => rfl) (fun _ => rfl)) (WkL.refl _) rfl ?_
 (iterate 2 ((try simp (etaStruct := .none) only [push_cast, DrawG, seval, hg]); (try (refine xsu ?_; try exact xtI))))
 refine cond_i (fun h1 => ?_) (fun h1 => ?_)
 ·(try replace h1 := xhh h1)
  exfalso; omega
 ·(try replace h1 := xhh h1)
  (iterate 2 ((try simp (etaStruct := .none) only [push_cast, DrawG, seval, hg]); (try (refine xsu ?_; try exact xtI))))
  refine cond_i (fun h2 => ?_) (fun h2 => ?_)
  ·(try replace h2 := xhh h2)
   exfalso; omega
  ·(try replace h2 := xhh h2)
   (iterate 2 ((try simp (etaStruct := .none) only [push_cast, DrawG, seval, hg]); (try (refine xsu ?_; try exact xtI))))
   refine cond_i (fun h3 => ?_) (fun h3 => ?_)
   ·(try replace h3 := xhh h3)
    (iterate 2 ((try simp (etaStruct := .none) only [push_cast, DrawG, seval, hg]); (try (refine xsu ?_; try exact xtI))))
    refine caP (between_s d.who 0 ((w.bases.length : Int) - 1)) ?_
    (iterate 2 ((try simp (etaStruct := .none) only [push_cast, DrawG, seval, hg]); (try (refine xsu ?_; try exact xtI))))
    refine gcP (fun hcc => between_s d.what 1 2) ?_
    (iterate 2 ((try simp (etaStruct := .none) only [push_cast, DrawG, seval, hg]); (try (refine xsu ?_; try exact xtI))))
    repeat (with_reducible refine And.intro ?_ ?_; · (simp [hwf]; done))
    refine gcallN ?_ ?_
    ·simp [hwf]
    (iterate 2 ((try simp (etaStruct := .none) only [push_cast, DrawG, seval, hg]); (try (refine xsu ?_; try exact xtI))))
    repeat (with_reducible refine And.intro ?_ ?_; · (simp [hwf]; done))
    (try (refine ⟨by kernel_rfl, ?_⟩))
    (iterate 2 ((try simp (etaStruct := .none) only [push_cast, DrawG, seval, hg]); (try (refine xsu ?_; try exact xtI))))
    refine cond_i (fun h4 => ?_) (fun h4 => ?_)
    ·(try replace h4 := xhh h4)
     (iterate 2 ((try simp (etaStruct := .none) only [push_cast, DrawG, seval, hg]); (try (refine xsu ?_; try exact xtI))))
     exact xrz rfl
    ·(try replace h4 := xhh h4)
     simp [hwf] at h4
   ·(try replace h3 := xhh h3)
    exact absurd h h3
theorem rd_hire (w : Wld) (d : Ded) (hw : Right w) (h : d.kind = 3) (hs : d.who.toNat < w.stocks.length) (b : Bool) (W : Wld) (hW1 : hireOk w d = false → W = w ∧ b = false) (hW2 : hireOk w d = true → freeV w (w.bases.getD d.who.toNat default) = none → W = w ∧ b = false)
 (hW3 : ∀ c, hireOk w d = true → freeV w (w.bases.getD d.who.toNat default) = some c → W = hireAt w d c ∧ b = true) : Spec Tryz.prog 82 [wldA w, dedA d] [] (.tup [wldA W, B b]) [] := by
 have p1 := hw.places
 have p2 := hw.nb
 have p3 := hw.sl
 have p4 := hw.ml
 have p5 := hw.nt
 have hb : d.who.toNat < w.bases.length := by omega
 have hbb := base_box hw hb
 have hnx := hw.nx
 have hst := (hw.base _ hb).2.1
 obtain ⟨a, ha⟩ : ∃ a, a = w.bases.getD d.who.toNat default := ⟨_, rfl⟩
 have hal : (around a).length = 10 := rfl
 rw [← ha] at hbb hW2 hW3
 refine spec_am Tryz.func82 rfl rfl mix 292 rfl [.cell 4 28, .tmp 5] Tryz.results82 (Nat.le_of_ble_eq_true rfl) ?_
 (iterate 2 ((try simp (etaStruct := .none) (maxSteps := 1000000) only [push_cast, DrawG, seval, getD_in _ _ _ hs, getD_in _ _ _ hb, ← ha, i64P, celP]); (try (refine xsu ?_; try exact xtI))))
 refine caM [] (int_clone w.stocks (by omega)) ?_
 (iterate 2 ((try simp (etaStruct := .none) (maxSteps := 1000000) only [push_cast, DrawG, seval, getD_in _ _ _ hs, getD_in _ _ _ hb, ← ha, i64P, celP]); (try (refine xsu ?_; try exact xtI))))
 refine caM [] (int_clone w.mines (by omega)) ?_
 (iterate 2 ((try simp (etaStruct := .none) (maxSteps := 1000000) only [push_cast, DrawG, seval, getD_in _ _ _ hs, getD_in _ _ _ hb, ← ha, i64P, celP]); (try (refine xsu ?_; try exact xtI))))
 refine caM [] (trp_clone w.troops (by omega)) ?_
 (iterate 2 ((try simp (etaStruct := .none) (maxSteps := 1000000) only [push_cast, DrawG, seval, getD_in _ _ _ hs, getD_in _ _ _ hb, ← ha, i64P, celP]); (try (refine xsu ?_; try exact xtI))))
 (try (refine ⟨by kernel_rfl, ?_⟩))
 (iterate 2 ((try simp (etaStruct := .none) (maxSteps := 1000000) only [push_cast, DrawG, seval, getD_in _ _ _ hs, getD_in _ _ _ hb, ← ha, i64P, celP]); (try (refine xsu ?_; try exact xtI))))
 refine callB (trp_ix _ [] [.fel 5 [dedPV d] 0 0] w.troops (isId d.who) (by omega) (fun t _ => rdc1_s t d) (fun _ => rfl) (fun _ => rfl)) (WkL.refl _) rfl ?_
 (iterate 2 ((try simp (etaStruct := .none) (maxSteps := 1000000) only [push_cast, DrawG, seval, getD_in _ _ _ hs, getD_in _ _ _ hb, ← ha, i64P, celP]); (try (refine xsu ?_; try exact xtI))))
 refine cond_i (fun h1 => ?_) (fun h1 => ?_)
 ·(try replace h1 := xhh h1)
  exfalso; omega
 ·(try replace h1 := xhh h1)
  (iterate 2 ((try simp (etaStruct := .none) (maxSteps := 1000000) only [push_cast, DrawG, seval, getD_in _ _ _ hs, getD_in _ _ _ hb, ← ha, i64P, celP]); (try (refine xsu ?_; try exact xtI))))
  refine cond_i (fun h2 => ?_) (fun h2 => ?_)
  ·(try replace h2 := xhh h2)
   exfalso; omega
  ·(try replace h2 := xhh h2)
   (iterate 2 ((try simp (etaStruct := .none) (maxSteps := 1000000) only [push_cast, DrawG, seval, getD_in _ _ _ hs, getD_in _ _ _ hb, ← ha, i64P, celP]); (try (refine xsu ?_; try exact xtI))))
   refine cond_i (fun h3 => ?_) (fun h3 => ?_)
   ·(try replace h3 := xhh h3)
    (iterate 2 ((try simp (etaStruct := .none) (maxSteps := 1000000) only [push_cast, DrawG, seval, getD_in _ _ _ hs, getD_in _ _ _ hb, ← ha, i64P, celP]); (try (refine xsu ?_; try exact xtI))))
    refine caP (between_s d.who 0 ((w.bases.length : Int) - 1)) ?_
    (iterate 2 ((try simp (etaStruct := .none) (maxSteps := 1000000) only [push_cast, DrawG, seval, getD_in _ _ _ hs, getD_in _ _ _ hb, ← ha, i64P, celP]); (try (refine xsu ?_; try exact xtI))))
    refine gcP (fun hcc => between_s d.what 1 2) ?_
    (iterate 2 ((try simp (etaStruct := .none) (maxSteps := 1000000) only [push_cast, DrawG, seval, getD_in _ _ _ hs, getD_in _ _ _ hb, ← ha, i64P, celP]); (try (refine xsu ?_; try exact xtI))))
    refine ⟨fun hh => ⟨hh, by have := (within_iff).1 hh.1; omega⟩, fun hh => ⟨hh, hs⟩, ?_⟩
    refine gcP (fun hcc => kindOf_s d.what (by simp at hcc; have := (within_iff).1 hcc.2; omega)) ?_
    (iterate 2 ((try simp (etaStruct := .none) (maxSteps := 1000000) only [push_cast, DrawG, seval, getD_in _ _ _ hs, getD_in _ _ _ hb, ← ha, i64P, celP]); (try (refine xsu ?_; try exact xtI))))
    (try (refine ⟨by kernel_rfl, ?_⟩))
    (iterate 2 ((try simp (etaStruct := .none) (maxSteps := 1000000) only [push_cast, DrawG, seval, getD_in _ _ _ hs, getD_in _ _ _ hb, ← ha, i64P, celP]); (try (refine xsu ?_; try exact xtI))))
    refine cond_i (fun h4 => ?_) (fun h4 => ?_)
    ·(try replace h4 := xhh h4)
     have hno : hireOk w d = false := by
      cases hh : hireOk w d with
      | false => rfl
      | true =>
       exfalso
       have hi := hireOk_iff.1 hh
       rcases h4 with (((h4 | h4) | h4) | h4) | h4
       ·rw [within_f] at h4; omega
       ·rw [within_f] at h4; omega
       ·omega
       ·omega
       ·omega
     obtain ⟨rfl, rfl⟩ := hW1 hno
     (iterate 2 ((try simp (etaStruct := .none) (maxSteps := 1000000) only [push_cast, DrawG, seval, getD_in _ _ _ hs, getD_in _ _ _ hb, ← ha, i64P, celP]); (try (refine xsu ?_; try exact xtI))))
     exact xrz rfl
    ·(try replace h4 := xhh h4)
     have hyes : hireOk w d = true := by
      rw [hireOk_iff]
      have q1 := (within_iff).1 h4.1.1.1.1
      have q2 := (within_iff).1 h4.1.1.1.2
      exact ⟨⟨⟨⟨⟨by omega, by omega⟩, by omega⟩, by omega⟩, by omega⟩, by omega⟩
     have q1 := (within_iff).1 h4.1.1.1.1
     have q2 := (within_iff).1 h4.1.1.1.2
     have hwk : d.what = 1 ∨ d.what = 2 := by omega
     have hpr : 0 ≤ (kindV d.what).price ∧ (kindV d.what).price ≤ 12 := by rcases hwk with e | e <;> rw [e] <;> decide
     (iterate 2 ((try simp (etaStruct := .none) (maxSteps := 1000000) only [push_cast, DrawG, seval, getD_in _ _ _ hs, getD_in _ _ _ hb, ← ha, i64P, celP]); (try (refine xsu ?_; try exact xtI))))
     refine loopI (fun i : Nat => ⟨[(10, I .i64 ((i : Int) - 1)), (9, .ptr 3 0 0), (4, .ptr 2 0 0), (3, .ptr 1 0 0), (2, .ptr 0 0 0)], [(0, .blk 28 (shpC w 4 5 6)), (1, .blk 132 [I .i64 d.kind, I .i64 d.who, I .i64 d.c.x, I .i64 d.c.y, I .i64 d.what]), (2, .blk 28 [I .i64 0, I .i64 0, .c (.v (.slice none 0 0)), .c (.v (.slice none 0 0)), .c (.v (.slice none 0 0)), .c (.v (.slice none 0 0)), .c (.v (.slice none 0 0)), I .i64 0, I .i64 0]), (3, .blk 68 [I .i64 a.x, I .i64 a.y]), (4, stR w), (5, miR w), (6, trR w)], 7⟩) (fun i : Nat => i ≤ 10 ∧ ∀ j, j < i → freeB w ((around a).getD j default) = false) (fun i : Nat => 10 - i) (0) (⟨Nat.zero_le _, fun j h => absurd h (Nat.not_lt_zero _)⟩) (To.mk [0, 1, 2, 215, 11, 23, 35] rfl rfl (by decide) ?_ ?_) ?_
     ·simp (etaStruct := .none) only [push_cast, DrawG, seval]
     ·simp (etaStruct := .none) only [push_cast, DrawG, seval, Int.zero_sub]
     rintro i ⟨hi, hn⟩
     (iterate 2 ((try simp (etaStruct := .none) (maxSteps := 1000000) only [push_cast, DrawG, seval, getD_in _ _ _ hs, getD_in _ _ _ hb, ← ha, i64P, celP]); (try (refine xsu ?_; try exact xtI))))
     refine cond_i (fun h5 => ?_) (fun h5 => ?_)
     ·(try replace h5 := xhh h5)
      have hi9 : i < 10 := by omega
      obtain ⟨x, hx⟩ : ∃ x, x = (around a).getD i default := ⟨_, rfl⟩
      (iterate 2 ((try simp (etaStruct := .none) (maxSteps := 1000000) only [push_cast, DrawG, seval, getD_in _ _ _ hs, getD_in _ _ _ hb, ← ha, i64P, celP]); (try (refine xsu ?_; try exact xtI))))
      refine cond_j (fun _u : Unit => ⟨[(11, .ptr 7 0 0), (10, I .i64 ((i : Int) - 1)), (9, .ptr 3 0 0), (4, .ptr 2 0 0), (3, .ptr 1 0 0), (2, .ptr 0 0 0)], [(0, .blk 28 (shpC w 4 5 6)), (1, .blk 132 [I .i64 d.kind, I .i64 d.who, I .i64 d.c.x, I .i64 d.c.y, I .i64 d.what]), (2, .blk 28 [I .i64 0, I .i64 0, .c (.v (.slice none 0 0)), .c (.v (.slice none 0 0)), .c (.v (.slice none 0 0)), .c (.v (.slice none 0 0)), .c (.v (.slice none 0 0)), I .i64 0, I .i64 0]), (3, .blk 68 [I .i64 a.x, I .i64 a.y]), (4, stR w), (5, miR w), (6, trR w), (7, .blk 68 [I .i64 x.x, I .i64 x.y])], 8⟩) (fun _u : Unit => Tr) (fun h6 => ?_) (fun h6 => ?_) ?_
      ·(try replace h6 := xhh h6)
       obtain ⟨m, hm⟩ : ∃ m : Nat, i = m + 1 := ⟨i - 1, by omega⟩
       have hxm := around_m a (m := m) (by omega)
       rw [← hm, ← hx] at hxm
       have em : ((i : Int) - 1).tmod 3 = ((m % 3 : Nat) : Int) := by rw [hm, show (((m + 1 : Nat) : Int) - 1) = (m : Int) from by omega, Int.tmod_eq_emod_of_nonneg (by omega)]; rfl
       have ed : IntKind.i64.wrap (((i : Int) - 1).tdiv 3) = ((m / 3 : Nat) : Int) := by rw [hm, show (((m + 1 : Nat) : Int) - 1) = (m : Int) from by omega, Int.tdiv_eq_ediv_of_nonneg (by omega)]; exact wrap_in _ (by omega) (by omega)
       (iterate 2 ((try simp (etaStruct := .none) (maxSteps := 1000000) only [push_cast, DrawG, seval, getD_in _ _ _ hs, getD_in _ _ _ hb, ← ha, i64P, celP, em, ed]); (try (refine xsu ?_; try exact xtI))))
       refine ⟨(), trI, To.mk [0, 1, 2, 3, 4, 5, 6, 7] rfl rfl (by decide) ?_ ?_⟩
       ·(iterate 2 ((try simp (etaStruct := .none) only [push_cast, DrawG, seval, hxm, em, ed]); (try (refine xsu ?_; try exact xtI))))
       ·(iterate 2 ((try simp (etaStruct := .none) (maxSteps := 1000000) only [push_cast, DrawG, seval, getD_in _ _ _ hs, getD_in _ _ _ hb, ← ha, i64P, celP, em, ed]); (try (refine xsu ?_; try exact xtI))))
      ·(try replace h6 := xhh h6)
       obtain rfl : i = 0 := by omega
       have hxa : x = a := hx
       (iterate 2 ((try simp (etaStruct := .none) (maxSteps := 1000000) only [push_cast, DrawG, seval, getD_in _ _ _ hs, getD_in _ _ _ hb, ← ha, i64P, celP]); (try (refine xsu ?_; try exact xtI))))
       refine ⟨(), trI, To.mk [0, 1, 2, 3, 4, 5, 6, 7] rfl rfl (by decide) ?_ ?_⟩
       ·(iterate 2 ((try simp (etaStruct := .none) only [push_cast, DrawG, seval, hxa]); (try (refine xsu ?_; try exact xtI))))
       ·(iterate 2 ((try simp (etaStruct := .none) (maxSteps := 1000000) only [push_cast, DrawG, seval, getD_in _ _ _ hs, getD_in _ _ _ hb, ← ha, i64P, celP]); (try (refine xsu ?_; try exact xtI))))
      ·rintro _ _
       skip
       (iterate 2 ((try simp (etaStruct := .none) (maxSteps := 1000000) only [push_cast, DrawG, seval, getD_in _ _ _ hs, getD_in _ _ _ hb, ← ha, i64P, celP]); (try (refine xsu ?_; try exact xtI))))
       refine caP (ground_s w.f x hw.f) ?_
       (iterate 2 ((try simp (etaStruct := .none) (maxSteps := 1000000) only [push_cast, DrawG, seval, getD_in _ _ _ hs, getD_in _ _ _ hb, ← ha, i64P, celP]); (try (refine xsu ?_; try exact xtI))))
       refine gcallB (fun hcc => trp_any _ [] [.fel 2 [[pI x.x, pI x.y]] 0 0] w.troops (fun t => decide (t.c = x)) (by omega) (fun t _ => rdc2_s t x) (fun _ => rfl) (fun _ => rfl)) (WkL.refl _) rfl (by intro hc; (try simp (etaStruct := .none) only [push_cast, DrawG, seval]); (try simp_all)) ?_
       (iterate 2 ((try simp (etaStruct := .none) (maxSteps := 1000000) only [push_cast, DrawG, seval, getD_in _ _ _ hs, getD_in _ _ _ hb, ← ha, i64P, celP]); (try (refine xsu ?_; try exact xtI))))
       refine cond_i (fun h7 => ?_) (fun h7 => ?_)
       ·(try replace h7 := xhh h7)
        have hfb : freeB w x = true := by unfold freeB; rw [h7.1, h7.2]; rfl
        obtain ⟨rfl, rfl⟩ := hW3 x hyes (by unfold freeV; rw [hx]; exact find_hit _ _ i (by rw [hal]; exact hi9) (by rw [← hx]; exact hfb) hn)
        (iterate 2 ((try simp (etaStruct := .none) (maxSteps := 1000000) only [push_cast, DrawG, seval, getD_in _ _ _ hs, getD_in _ _ _ hb, ← ha, i64P, celP]); (try (refine xsu ?_; try exact xtI))))
        refine caP (kindOf_s d.what hwk) ?_
        (iterate 2 ((try simp (etaStruct := .none) (maxSteps := 1000000) only [push_cast, DrawG, seval, getD_in _ _ _ hs, getD_in _ _ _ hb, ← ha, i64P, celP]); (try (refine xsu ?_; try exact xtI))))
        (try (refine ⟨by kernel_rfl, ?_⟩))
        (iterate 2 ((try simp (etaStruct := .none) (maxSteps := 1000000) only [push_cast, DrawG, seval, getD_in _ _ _ hs, getD_in _ _ _ hb, ← ha, i64P, celP]); (try (refine xsu ?_; try exact xtI))))
        refine caP (kindOf_s d.what hwk) ?_
        (iterate 2 ((try simp (etaStruct := .none) (maxSteps := 1000000) only [push_cast, DrawG, seval, getD_in _ _ _ hs, getD_in _ _ _ hb, ← ha, i64P, celP]); (try (refine xsu ?_; try exact xtI))))
        (try (refine ⟨by kernel_rfl, ?_⟩))
        (iterate 2 ((try simp (etaStruct := .none) (maxSteps := 1000000) only [push_cast, DrawG, seval, getD_in _ _ _ hs, getD_in _ _ _ hb, ← ha, i64P, celP]); (try (refine xsu ?_; try exact xtI))))
        simp (etaStruct := .none) only [push_cast, DrawG, seval, hireAt, wldA, List.map_set, List.map_append, i64P, trpP]
        exact ret0 rfl (by repeat' (first | exact trivial | exact rfl | refine ⟨?_, ?_⟩)) (Wk.refl _)
       ·(try replace h7 := xhh h7)
        have hfb : freeB w x = false := by
         unfold freeB
         rcases h7 with h7 | h7
         ·rw [h7]; rfl
         ·rw [h7]; simp
        (iterate 2 ((try simp (etaStruct := .none) (maxSteps := 1000000) only [push_cast, DrawG, seval, getD_in _ _ _ hs, getD_in _ _ _ hb, ← ha, i64P, celP]); (try (refine xsu ?_; try exact xtI))))
        refine ⟨i + 1, ⟨by omega, fun j hj => by
 rcases Nat.lt_or_ge j i with h' | h'
 ·exact hn j h'
 ·rw [show j = i by omega, ← hx]; exact hfb⟩, by omega, To.mk [0, 1, 2, 3, 4, 5, 6] rfl rfl (by decide) ?_ ?_⟩
        ·(iterate 2 ((try simp (etaStruct := .none) (maxSteps := 1000000) only [push_cast, DrawG, seval, getD_in _ _ _ hs, getD_in _ _ _ hb, ← ha, i64P, celP]); (try (refine xsu ?_; try exact xtI))))
        ·(iterate 2 ((try simp (etaStruct := .none) only [push_cast, DrawG, seval, Int.add_sub_cancel, Int.sub_add_cancel]); (try (refine xsu ?_; try exact xtI))))
     ·(try replace h5 := xhh h5)
      obtain ⟨rfl, rfl⟩ := hW2 hyes (find_miss _ _ (fun j hj => hn j (by rw [hal] at hj; omega)))
      (iterate 2 ((try simp (etaStruct := .none) (maxSteps := 1000000) only [push_cast, DrawG, seval, getD_in _ _ _ hs, getD_in _ _ _ hb, ← ha, i64P, celP]); (try (refine xsu ?_; try exact xtI))))
      exact xrz rfl
   ·(try replace h3 := xhh h3)
    exact absurd h h3
end Go.Proofs.YtllmjdcblfkfaaaGreat
namespace Go.Proofs.YtllmjdcblfkfaaaGreat
set_option linter.all false
open Go.RowKit
set_option maxRecDepth 100000
set_option maxHeartbeats 1000000
theorem deeded_s (w : Wld) (d : Ded) (hw : Right w) : Spec Tryz.prog 82 [wldA w, dedA d] [] (.tup [wldA (deedV w d).1, B (deedV w d).2]) [] := by
 have none : d.kind = 1 ∨ d.kind = 2 → w.troops.findIdx? (isId d.who) = none → Spec Tryz.prog 82 [wldA w, dedA d] [] (.tup [wldA w, B false]) [] := fun h hf => by
  rcases Nat.eq_zero_or_pos w.troops.length with h3 | h3
  ·exact rd_empty w d hw h (List.eq_nil_of_length_eq_zero h3)
  ·exact rd_none w d hw h hf h3
 unfold deedV
 split
 ·rename_i h
  split
  ·rename_i i hi
   split
   ·rename_i ho; exact rd_mine w d i hw h hi true _ ⟨fun _ => ⟨rfl, rfl⟩, fun h2 => by rw [ho] at h2; simp at h2⟩
   ·rename_i ho; exact rd_mine w d i hw h hi false _ ⟨fun h2 => absurd h2 ho, fun _ => ⟨rfl, rfl⟩⟩
  ·rename_i hi; exact none (.inl h) hi
 ·split
  ·rename_i h
   split
   ·rename_i i hi
    split
    ·rename_i ho; exact rd_drop w d i hw h hi _ _ ⟨fun _ => ⟨rfl, rfl⟩, fun h2 => by rw [ho] at h2; simp at h2⟩
    ·rename_i ho; exact rd_drop w d i hw h hi false _ ⟨fun h2 => absurd h2 ho, fun _ => ⟨rfl, rfl⟩⟩
   ·rename_i hi; exact none (.inr h) hi
  ·split
   ·rename_i h
    split
    ·rename_i ho
     have hoi := hireOk_iff.1 ho
     have hs : d.who.toNat < w.stocks.length := by have := hw.sl; omega
     split
     ·rename_i c hc; exact rd_hire w d hw h hs true _ (fun h2 => by rw [ho] at h2; simp at h2) (fun _ h2 => by rw [hc] at h2; simp at h2) (fun c' _ h2 => by rw [hc] at h2; rw [Option.some.inj h2]; exact ⟨rfl, rfl⟩)
     ·rename_i hc; exact rd_hire w d hw h hs false _ (fun h2 => by rw [ho] at h2; simp at h2) (fun _ _ => ⟨rfl, rfl⟩) (fun c' _ h2 => by rw [hc] at h2; simp at h2)
    ·rename_i ho
     rcases Nat.lt_or_ge d.who.toNat w.stocks.length with h2 | h2
     ·exact rd_hire w d hw h h2 false _ (fun _ => ⟨rfl, rfl⟩) (fun h3 => absurd h3 ho) (fun c' h3 => absurd h3 ho)
     ·exact rd_hout w d hw h h2
   ·exact rd_0 w d hw ⟨by assumption, by assumption, by assumption⟩
theorem deededAll_s (w : Wld) (l : List Ded) (hw : Right w) (hll : l.length ≤ 200) : Spec Tryz.prog 51 [wldA w, .c (.sl 5 (l.map dedP))] [] (.tup [wldA (deedsA w l).1, .c (.sl 1 ((deedsA w l).2.map boolP))]) [] := by
 refine spec_am Tryz.func51 rfl rfl mix 29 rfl [.cell 4 28, .tmp 5] Tryz.results51 (Nat.le_of_ble_eq_true rfl) ?_
 (try (refine xst ?_; try exact xtI))
 refine loopI (fun k : Nat => ⟨[(12, I .i64 k), (11, I .i64 l.length), (10, .c (.sl 5 (l.map dedP))), (6, .own 2), (4, .ptr 1 0 0), (2, .ptr 0 0 0)], [(0, .blk 28 (wldC (deedsA w (l.take k)).1)), (1, .blk 28 [I .i64 0, I .i64 0, .c (.v (.slice none 0 0)), .c (.v (.slice none 0 0)), .c (.v (.slice none 0 0)), .c (.v (.slice none 0 0)), .c (.v (.slice none 0 0)), I .i64 0, I .i64 0]), (2, .row 4 1 ((deedsA w (l.take k)).2.map boolP))], 3⟩) (fun k : Nat => k ≤ l.length) (fun k : Nat => l.length - k) (0) (Nat.zero_le _) ((To.nil 6 4 1 rfl).trans (To.mk [0, 1, 2] rfl rfl (by decide) ?_ ?_)) ?_
 ·simp (etaStruct := .none) only [push_cast, DrawG, seval, List.take_zero, deedsA]
 ·simp (etaStruct := .none) only [push_cast, DrawG, seval]
 rintro k hk
 (try (refine xst ?_; try exact xtI))
 refine cond_i (fun h1 => ?_) (fun h1 => ?_)
 ·(try replace h1 := xhh h1)
  have hlt : k < l.length := by omega
  obtain ⟨d, hd⟩ : ∃ d, d = l.getD k default := ⟨_, rfl⟩
  have hst : deedsA w (l.take (k + 1)) = ((deedV (deedsA w (l.take k)).1 d).1, (deedsA w (l.take k)).2 ++ [(deedV (deedsA w (l.take k)).1 d).2]) := by rw [take_snoc _ _ hlt, ← hd, deedsA_snoc]
  have hR := right_deeds (l.take k) hw
  have hbl := deedsA_len (l.take k) w
  rw [List.length_take] at hbl
  generalize (deedsA w (l.take k)).1 = W at *
  generalize (deedsA w (l.take k)).2 = bs at *
  (iterate 2 ((try simp (etaStruct := .none) only [push_cast, DrawG, seval, getD_in _ _ _ hlt, ← hd, dedP, boolP]); (try (refine xsu ?_; try exact xtI))))
  refine caP (deeded_s W d hR) ?_
  (iterate 2 ((try simp (etaStruct := .none) only [push_cast, DrawG, seval, getD_in _ _ _ hlt, ← hd, dedP, boolP]); (try (refine xsu ?_; try exact xtI))))
  refine ⟨k + 1, by omega, by omega, To.mk [0, 1, 5] rfl rfl (by decide) ?_ ?_⟩
  ·(iterate 2 ((try simp (etaStruct := .none) only [push_cast, DrawG, seval, hst, List.map_append, boolP]); (try (refine xsu ?_; try exact xtI))))
  ·(iterate 2 ((try simp (etaStruct := .none) only [push_cast, DrawG, seval, getD_in _ _ _ hlt, ← hd, dedP, boolP]); (try (refine xsu ?_; try exact xtI))))
 ·(try replace h1 := xhh h1)
  obtain rfl : k = l.length := by omega
  (iterate 2 ((try simp (etaStruct := .none) only [push_cast, DrawG, seval, List.take_length]); (try (refine xsu ?_; try exact xtI))))
  exact xrz rfl
theorem splitE_o {l : List Ord} {w : Wld} (h : ordsE l = 0) : splitE l w = worldE w := by unfold splitE; rw [if_neg (by simp [h])]
theorem splitE_n {l : List Ord} {w : Wld} (h : ordsE l ≠ 0) : splitE l w = ordsE l := by unfold splitE; rw [if_pos h]
theorem rturn_k (w : Wld) (l : List Ord) (WR : Cel → List Int) (hWR : ∀ a, FloodIs w.f [a] (WR a)) (hll : l.length ≤ 9223372036854775807) (h : turnE l w = 0) : Spec Tryz.prog 26 [wldA w, .c (.sl 6 (l.map ordP))] [] (.tup [wldA (turnV WR w l), repA (turnG w l) (turnM WR w l) (turnD WR w l), I .i64 0]) [] := by
 have hs : splitE l w = 0 := by unfold turnE at h; split at h; rename_i h1; exact absurd h h1; rename_i h1; simpa using h1
 have hn : w.now < 1000000 := by unfold turnE at h; rw [if_neg (by simp [hs])] at h; split at h; exact absurd h (by decide); omega
 obtain ⟨ho, hw⟩ := splitE_ok hs
 have R0 := right_of hw
 have RA := right_tkA R0 l
 have RB := right_tkB R0 hWR l
 have RC := right_tkC R0 hWR l
 obtain ⟨o1, o2⟩ := ordsE_ok ho
 obtain ⟨n1, n2, n3⟩ := split_lens (w := w) ho
 have hnow : (tkC WR w l).now = w.now := tkC_now WR w l
 have hnw := R0.nw
 have OR := orights_s l hll
 rw [ho] at OR
 have WRI := wright_s w R0.l
 rw [hw] at WRI
 have HK := struckw_s w (blowsV l w) R0.l hw (by omega)
 rw [show struckW w (blowsV l w) = tkA w l from rfl, show goneV w (blowsV l w) = turnG w l from rfl] at HK
 have hfo := fldE_ok RA.f
 have hb := right_b RA
 have MK := marched_s (tkA w l) (goesV l w) WR hWR (by omega) (by omega) (by omega)
 rw [show setT (tkA w l) (marchV (tkA w l).f WR (goesV l w) (tkA w l).troops).1 = tkB WR w l from rfl, show (marchV (tkA w l).f WR (goesV l w) (tkA w l).troops).2 = turnM WR w l from rfl] at MK
 have DK := deededAll_s (tkB WR w l) (deedsV l w) RB (by omega)
 rw [show (deedsA (tkB WR w l) (deedsV l w)).1 = tkC WR w l from rfl, show (deedsA (tkB WR w l) (deedsV l w)).2 = turnD WR w l from rfl] at DK
 have hup : IntKind.i64.wrap ((tkC WR w l).now + 1) = w.now + 1 := by rw [hnow]; exact wrap_in _ (by omega) (by omega)
 have htv : turnV WR w l = { tkC WR w l with now := w.now + 1 } := by unfold turnV nowUp; rw [hnow]
 rw [htv]
 refine spec_am Tryz.func26 rfl rfl mix 66 rfl [.cell 4 28, .cell 5 62, .tmp 6] Tryz.results26 (Nat.le_of_ble_eq_true rfl) ?_
 (try (refine xst ?_; try exact xtI))
 refine caP (OR) ?_
 (try (refine xst ?_; try exact xtI))
 refine cond_i (fun h1 => ?_) (fun h1 => ?_)
 ·(try replace h1 := xhh h1)
  (try (refine xst ?_; try exact xtI))
  refine caP (WRI) ?_
  (try (refine xst ?_; try exact xtI))
  refine cond_i (fun h2 => ?_) (fun h2 => ?_)
  ·(try replace h2 := xhh h2)
   omega
  ·(try replace h2 := xhh h2)
   (try (refine xst ?_; try exact xtI))
   refine cond_i (fun h3 => ?_) (fun h3 => ?_)
   ·(try replace h3 := xhh h3)
    simp at h3
   ·(try replace h3 := xhh h3)
    (iterate 2 ((try simp (etaStruct := .none) only [push_cast, DrawG, seval, hup]); (try (refine xsu ?_; try exact xtI))))
    refine caP (blows_s l w R0.l o1) ?_
    (iterate 2 ((try simp (etaStruct := .none) only [push_cast, DrawG, seval, hup]); (try (refine xsu ?_; try exact xtI))))
    refine caP (goes_s l w R0.l o1) ?_
    (iterate 2 ((try simp (etaStruct := .none) only [push_cast, DrawG, seval, hup]); (try (refine xsu ?_; try exact xtI))))
    refine caP (deeds_s l w R0.l o1 o2) ?_
    (iterate 2 ((try simp (etaStruct := .none) only [push_cast, DrawG, seval, hup]); (try (refine xsu ?_; try exact xtI))))
    (try (refine ⟨by kernel_rfl, ?_⟩))
    (iterate 2 ((try simp (etaStruct := .none) only [push_cast, DrawG, seval, hup]); (try (refine xsu ?_; try exact xtI))))
    refine caP (HK) ?_
    (iterate 2 ((try simp (etaStruct := .none) only [push_cast, DrawG, seval, hup]); (try (refine xsu ?_; try exact xtI))))
    refine caP (MK) ?_
    (iterate 2 ((try simp (etaStruct := .none) only [push_cast, DrawG, seval, hup]); (try (refine xsu ?_; try exact xtI))))
    refine caP (DK) ?_
    (iterate 2 ((try simp (etaStruct := .none) only [push_cast, DrawG, seval, hup]); (try (refine xsu ?_; try exact xtI))))
    (try (refine ⟨by kernel_rfl, ?_⟩))
    (iterate 2 ((try simp (etaStruct := .none) only [push_cast, DrawG, seval, hup]); (try (refine xsu ?_; try exact xtI))))
    exact xrz rfl
 ·(try replace h1 := xhh h1)
  simp at h1
theorem rturn_o (w : Wld) (l : List Ord) (hl : wldL w) (hll : l.length ≤ 9223372036854775807) (h : ordsE l ≠ 0) : Spec Tryz.prog 26 [wldA w, .c (.sl 6 (l.map ordP))] [] (.tup [wldA default, repA [] [] [], I .i64 (ordsE l)]) [] := by
 refine spec_am Tryz.func26 rfl rfl mix 66 rfl [.cell 4 28, .cell 5 62, .tmp 6] Tryz.results26 (Nat.le_of_ble_eq_true rfl) ?_
 (try (refine xst ?_; try exact xtI))
 refine caP (orights_s l hll) ?_
 (try (refine xst ?_; try exact xtI))
 refine cond_i (fun h1 => ?_) (fun h1 => ?_)
 ·(try replace h1 := xhh h1)
  exact absurd h1 h
 ·(try replace h1 := xhh h1)
  (try (refine xst ?_; try exact xtI))
  refine cond_i (fun h2 => ?_) (fun h2 => ?_)
  ·(try replace h2 := xhh h2)
   exact absurd h2.1 h
  ·(try replace h2 := xhh h2)
   (try (refine xst ?_; try exact xtI))
   refine cond_i (fun h3 => ?_) (fun h3 => ?_)
   ·(try replace h3 := xhh h3)
    (try (refine xst ?_; try exact xtI))
    exact xrz rfl
   ·(try replace h3 := xhh h3)
    exact absurd h3 h
theorem rturn_w (w : Wld) (l : List Ord) (hl : wldL w) (hll : l.length ≤ 9223372036854775807) (ho : ordsE l = 0) (h : worldE w ≠ 0) : Spec Tryz.prog 26 [wldA w, .c (.sl 6 (l.map ordP))] [] (.tup [wldA default, repA [] [] [], I .i64 (worldE w)]) [] := by
 have OR := orights_s l hll
 rw [ho] at OR
 refine spec_am Tryz.func26 rfl rfl mix 66 rfl [.cell 4 28, .cell 5 62, .tmp 6] Tryz.results26 (Nat.le_of_ble_eq_true rfl) ?_
 (try (refine xst ?_; try exact xtI))
 refine caP (OR) ?_
 (try (refine xst ?_; try exact xtI))
 refine cond_i (fun h1 => ?_) (fun h1 => ?_)
 ·(try replace h1 := xhh h1)
  (try (refine xst ?_; try exact xtI))
  refine caP (wright_s w hl) ?_
  (try (refine xst ?_; try exact xtI))
  refine cond_i (fun h2 => ?_) (fun h2 => ?_)
  ·(try replace h2 := xhh h2)
   exact absurd h2.1 h
  ·(try replace h2 := xhh h2)
   (try (refine xst ?_; try exact xtI))
   refine cond_i (fun h3 => ?_) (fun h3 => ?_)
   ·(try replace h3 := xhh h3)
    (try (refine xst ?_; try exact xtI))
    exact xrz rfl
   ·(try replace h3 := xhh h3)
    exact absurd h3 h
 ·(try replace h1 := xhh h1)
  simp at h1
theorem rturn_f (w : Wld) (l : List Ord) (hl : wldL w) (hll : l.length ≤ 9223372036854775807) (ho : ordsE l = 0) (hw : worldE w = 0) (hn : 1000000 ≤ w.now) : Spec Tryz.prog 26 [wldA w, .c (.sl 6 (l.map ordP))] [] (.tup [wldA default, repA [] [] [], I .i64 6]) [] := by
 have OR := orights_s l hll
 rw [ho] at OR
 have WRI := wright_s w hl
 rw [hw] at WRI
 have hnw := (right_of hw).nw
 refine spec_am Tryz.func26 rfl rfl mix 66 rfl [.cell 4 28, .cell 5 62, .tmp 6] Tryz.results26 (Nat.le_of_ble_eq_true rfl) ?_
 (try (refine xst ?_; try exact xtI))
 refine caP (OR) ?_
 (try (refine xst ?_; try exact xtI))
 refine cond_i (fun h1 => ?_) (fun h1 => ?_)
 ·(try replace h1 := xhh h1)
  (try (refine xst ?_; try exact xtI))
  refine caP (WRI) ?_
  (try (refine xst ?_; try exact xtI))
  refine cond_i (fun h2 => ?_) (fun h2 => ?_)
  ·(try replace h2 := xhh h2)
   (try (refine xst ?_; try exact xtI))
   refine cond_i (fun h3 => ?_) (fun h3 => ?_)
   ·(try replace h3 := xhh h3)
    (try (refine xst ?_; try exact xtI))
    exact xrz rfl
   ·(try replace h3 := xhh h3)
    simp at h3
  ·(try replace h2 := xhh h2)
   omega
 ·(try replace h1 := xhh h1)
  simp at h1
def turnW (WR : Cel → List Int) (w : Wld) (l : List Ord) : Wld := if turnE l w = 0 then turnV WR w l else default
def turnGR (w : Wld) (l : List Ord) : List Int := if turnE l w = 0 then turnG w l else []
def turnMR (WR : Cel → List Int) (w : Wld) (l : List Ord) : List Int := if turnE l w = 0 then turnM WR w l else []
def turnDR (WR : Cel → List Int) (w : Wld) (l : List Ord) : List Bool := if turnE l w = 0 then turnD WR w l else []
theorem tturn_s (w : Wld) (l : List Ord) (WR : Cel → List Int) (hWR : ∀ a, FloodIs w.f [a] (WR a)) (hl : wldL w) (hll : l.length ≤ 9223372036854775807) : Spec Tryz.prog 34 [wldA w, .c (.sl 6 (l.map ordP))] [] (.tup [wldA (turnW WR w l), repA (turnGR w l) (turnMR WR w l) (turnDR WR w l), I .i64 (turnE l w)]) [] := by
 unfold turnW turnGR turnMR turnDR
 by_cases h : turnE l w = 0
 ·rw [if_pos h, if_pos h, if_pos h, if_pos h, h]; exact tturn_k w l WR hWR hll h
 ·rw [if_neg h, if_neg h, if_neg h, if_neg h]
  by_cases hs : splitE l w = 0
  ·have hn : 1000000 ≤ w.now := by
    unfold turnE at h; rw [if_neg (by simp [hs])] at h; split at h; assumption; exact absurd rfl h
   rw [show turnE l w = 6 from by unfold turnE; rw [if_neg (by simp [hs]), if_pos hn]]; exact tturn_f w l hl hll hs hn
  ·rw [show turnE l w = splitE l w from by unfold turnE; rw [if_pos hs]]; exact tturn_e w l hl hll hs
theorem rturn_s (w : Wld) (l : List Ord) (WR : Cel → List Int) (hWR : ∀ a, FloodIs w.f [a] (WR a)) (hl : wldL w) (hll : l.length ≤ 9223372036854775807) : Spec Tryz.prog 26 [wldA w, .c (.sl 6 (l.map ordP))] [] (.tup [wldA (turnW WR w l), repA (turnGR w l) (turnMR WR w l) (turnDR WR w l), I .i64 (turnE l w)]) [] := by
 unfold turnW turnGR turnMR turnDR
 by_cases h : turnE l w = 0
 ·rw [if_pos h, if_pos h, if_pos h, if_pos h, h]; exact rturn_k w l WR hWR hll h
 ·rw [if_neg h, if_neg h, if_neg h, if_neg h]
  by_cases hs : splitE l w = 0
  ·have hn : 1000000 ≤ w.now := by
    unfold turnE at h; rw [if_neg (by simp [hs])] at h; split at h; assumption; exact absurd rfl h
   obtain ⟨ho, hw⟩ := splitE_ok hs
   rw [show turnE l w = 6 from by unfold turnE; rw [if_neg (by simp [hs]), if_pos hn]]; exact rturn_f w l hl hll ho hw hn
  ·rw [show turnE l w = splitE l w from by unfold turnE; rw [if_pos hs]]
   by_cases ho : ordsE l = 0
   ·rw [splitE_o ho] at hs ⊢; exact rturn_w w l hl hll ho hs
   ·rw [splitE_n ho]; exact rturn_o w l hl hll ho
end Go.Proofs.YtllmjdcblfkfaaaGreat
namespace Go.Proofs.YtllmjdcblfkfaaaGreat
set_option linter.all false
open Go.RowKit
theorem spec_any {P : Program} {f : FuncId} (hf : Enters P f) (args : List AV) (r : AV) (v : Value) (hr : ∀ (U : Nat → Prop) (w : World) (F : Nat → Prop) (β : Nat → Option Bind), RelA U w F β r v)
 (h : ∀ (w : World) (F : Nat → Prop) (β : Nat → Option Bind) (vs : List Value), (∀ b, F b → b < w.heap.size) → RelL (· < 0) w F β args vs → Calls P f vs.toArray w fun e w' => e = .returned v ∧ Below w.heap.size w w') : Spec P f args [] r [] := by
 refine ⟨hf, Nat.le_refl _, fun w F β vs M hv => ?_⟩
 refine (h w F β vs M.fin hv).mono ?_
 rintro e w' ⟨rfl, hb⟩
 obtain ⟨S1, S2⟩ := M.step (w' := w') (h' := nth []) (β' := β) (F' := F) (U' := (· < 0)) (fun _ => False) (fun _ _ => rfl) (fun _ _ => rfl) hb.os hb.tape hb.output hb.size (fun b h _ => hb.block b h) (fun _ h => h) (fun _ h => h)
  (fun b h => ⟨Nat.lt_of_lt_of_le (M.fin b h) hb.size, .inl h⟩) (fun _ _ h => h.elim) (fun _ _ h => h.elim) (fun _ _ _ _ _ h => h.elim) (fun _ _ h => h.elim)
 exact ⟨v, F, β, rfl, S1, hr _ _ _ _, fun _ h => h, fun _ h => .inl h, fun _ _ _ h => ⟨_, h⟩⟩
theorem rel_els {α : Type} {w : World} {F : Nat → Prop} {u : Value} (enc : α → Value) (xs : List α) (hF : ∀ b, F b → b < w.heap.size) (h : RelP w F (.sl 1 (xs.map fun x => [.v (enc x)])) u) :
 ∃ a c, u = .slice a xs.length c ∧ xs.length ≤ c ∧ c ≤ maxLen ∧ Els w w.heap.size a 1 (fun x => [enc x]) xs := by
 simp only [RelP] at h
 obtain ⟨a, c, rfl, h1, h2, h3⟩ := h
 rw [List.length_map] at h1
 refine ⟨a, c, by rw [List.length_map], h1, h2, ?_⟩
 rcases h3 with h3 | ⟨b, o, rfl, hb, hE⟩
 ·exact .inl (by simpa using h3)
 ·refine .inr ⟨b, o, rfl, hF b hb, fun i j v hv => ?_⟩
  cases hx : xs[i]? with
  | none => rw [hx] at hv; simp at hv
  | some x =>
   rw [hx] at hv
   cases j with
   | succ j => simp at hv
   | zero =>
    have hv' : enc x = v := by simpa using hv
    obtain ⟨_, hc⟩ := RelE.at hE i [.v (enc x)] (by simp [hx])
    obtain ⟨u, hu, hr⟩ := RelC.at hc 0 _ rfl
    simp only [RelP] at hr
    rw [← hv', ← hr.1, ← hu]; rfl
theorem relL_one {w : World} {U F : Nat → Prop} {β : Nat → Option Bind} {p : PV} {vs : List Value} (h : RelL U w F β [.c p] vs) : ∃ u, vs = [u] ∧ RelP w F p u := by
 simp only [RelL, RelA] at h
 obtain ⟨u, us, rfl, h1, rfl⟩ := h
 exact ⟨u, rfl, h1⟩
end Go.Proofs.YtllmjdcblfkfaaaGreat
namespace Go.Proofs.YtllmjdcblfkfaaaGreat
set_option linter.all false
open Go.RowKit
set_option maxRecDepth 100000
set_option maxHeartbeats 1000000
def strsOk (l : List ByteArray) : Prop := ∀ s ∈ l, s.size ≤ 140737488351232
theorem leaf_s (s : ByteArray) (hs : s.size ≤ 140737488351232) : Spec Tryz.prog 35 [S s] [] (.c (.v (.int .u64 (leafN s : Nat)))) [] :=
 spec_scal (enters Tryz.func35 rfl rfl) [.string s] _ rfl fun w => (leaf_any s w hs).mono fun e w' ⟨h1, h2⟩ => ⟨h1, h2 ▸ Below.refl _ _⟩
theorem pair_s (a b : Nat) (ha : a < 18446744073709551616) (hb : b < 18446744073709551616) : Spec Tryz.prog 37 [.c (.v (.int .u64 a)), .c (.v (.int .u64 b))] [] (.c (.v (.int .u64 (pairN a b : Nat)))) [] :=
 spec_scal (enters Tryz.func37 rfl rfl) [.int .u64 a, .int .u64 b] _ rfl fun w => (pair_any a b ha hb w).mono fun e w' ⟨h1, h2⟩ => ⟨h1, h2 ▸ Below.refl _ _⟩
theorem tsplit_s (n : Nat) (h2 : 2 ≤ n) (h : n ≤ 256) : Spec Tryz.prog 36 [I .i64 n] [] (I .i64 (2 ^ sp n : Nat)) [] :=
 spec_scal (enters Tryz.func36 rfl rfl) [.int .i64 n] _ rfl fun w => (split_any n h2 h w).mono fun e w' ⟨h1, h2⟩ => ⟨h1, h2 ▸ Below.refl _ _⟩
theorem root_0 : Spec Tryz.prog 21 [.c (.sl 1 (([] : List ByteArray).map strP))] [] (.c (.v (.int .u64 (rt pairN (([] : List ByteArray).map leafN) : Nat)))) [] := by
 refine spec_am Tryz.func21 rfl rfl mix 27 rfl [.tmp 2] Tryz.results21 (Nat.le_of_ble_eq_true rfl) ?_
 (try (refine xst ?_; try exact xtI))
 refine cond_i (fun h1 => ?_) (fun h1 => ?_)
 ·(try replace h1 := xhh h1)
  (try (refine xst ?_; try exact xtI))
  exact ret0 rfl trivial (Wk.refl _)
 ·(try replace h1 := xhh h1)
  simp at h1
theorem root_1 (s : ByteArray) (hs : s.size ≤ 140737488351232) : Spec Tryz.prog 21 [.c (.sl 1 ([s].map strP))] [] (.c (.v (.int .u64 (rt pairN ([s].map leafN) : Nat)))) [] := by
 refine spec_am Tryz.func21 rfl rfl mix 27 rfl [.tmp 2] Tryz.results21 (Nat.le_of_ble_eq_true rfl) ?_
 (iterate 2 ((try simp (etaStruct := .none) only [push_cast, DrawG, seval, strP]); (try (refine xsu ?_; try exact xtI))))
 refine cond_i (fun h1 => ?_) (fun h1 => ?_)
 ·(try replace h1 := xhh h1)
  simp at h1
 ·(try replace h1 := xhh h1)
  (iterate 2 ((try simp (etaStruct := .none) only [push_cast, DrawG, seval, strP]); (try (refine xsu ?_; try exact xtI))))
  refine cond_i (fun h2 => ?_) (fun h2 => ?_)
  ·(try replace h2 := xhh h2)
   (iterate 2 ((try simp (etaStruct := .none) only [push_cast, DrawG, seval, strP]); (try (refine xsu ?_; try exact xtI))))
   refine caP (leaf_s s hs) ?_
   (iterate 2 ((try simp (etaStruct := .none) only [push_cast, DrawG, seval, strP]); (try (refine xsu ?_; try exact xtI))))
   exact ret0 rfl trivial (Wk.refl _)
  ·(try replace h2 := xhh h2)
   simp at h2
theorem root_s : ∀ (f : Nat) (l : List ByteArray), l.length ≤ f → l.length ≤ 256 → strsOk l → Spec Tryz.prog 21 [.c (.sl 1 (l.map strP))] [] (.c (.v (.int .u64 (rt pairN (l.map leafN) : Nat)))) []
 | f, l, hf, h256, hs => by
  by_cases h2 : 2 ≤ l.length
  ·obtain ⟨s1, s2, s3, s4⟩ := sp_any l.length h2 h256
   match f, hf with
   | 0, hf => omega
   | f + 1, hf =>
    obtain ⟨q, hq⟩ : ∃ q, q = 2 ^ sp l.length := ⟨_, rfl⟩
    have SP := tsplit_s l.length h2 h256
    have RH := rt_halves pairN (sp l.length) (l.map leafN) (by simpa using s3) (by simpa using s4)
    rw [← hq] at SP RH s3 s4
    have R1 := root_s f (l.take q) (by simp; omega) (by simp; omega) (fun s h => hs s (List.mem_of_mem_take h))
    have R2 := root_s f (l.drop q) (by simp; omega) (by simp; omega) (fun s h => hs s (List.mem_of_mem_drop h))
    have P := pair_s _ _ (rtN_lt (l.take q)) (rtN_lt (l.drop q))
    rw [← List.map_take, ← List.map_drop] at RH
    rw [← RH] at P
    clear hq
    refine spec_am Tryz.func21 rfl rfl mix 27 rfl [.tmp 2] Tryz.results21 (Nat.le_of_ble_eq_true rfl) ?_
    (iterate 2 ((try simp (etaStruct := .none) only [push_cast, DrawG, seval, ← List.map_take, ← List.map_drop]); (try (refine xsu ?_; try exact xtI))))
    refine cond_i (fun h1 => ?_) (fun h1 => ?_)
    ·(try replace h1 := xhh h1)
     omega
    ·(try replace h1 := xhh h1)
     (iterate 2 ((try simp (etaStruct := .none) only [push_cast, DrawG, seval, ← List.map_take, ← List.map_drop]); (try (refine xsu ?_; try exact xtI))))
     refine cond_i (fun h2 => ?_) (fun h2 => ?_)
     ·(try replace h2 := xhh h2)
      omega
     ·(try replace h2 := xhh h2)
      (iterate 2 ((try simp (etaStruct := .none) only [push_cast, DrawG, seval, ← List.map_take, ← List.map_drop]); (try (refine xsu ?_; try exact xtI))))
      refine caP (SP) ?_
      (iterate 2 ((try simp (etaStruct := .none) only [push_cast, DrawG, seval, ← List.map_take, ← List.map_drop]); (try (refine xsu ?_; try exact xtI))))
      refine caP (R1) ?_
      (iterate 2 ((try simp (etaStruct := .none) only [push_cast, DrawG, seval, ← List.map_take, ← List.map_drop]); (try (refine xsu ?_; try exact xtI))))
      refine caP (R2) ?_
      (iterate 2 ((try simp (etaStruct := .none) only [push_cast, DrawG, seval, ← List.map_take, ← List.map_drop]); (try (refine xsu ?_; try exact xtI))))
      refine caP (P) ?_
      (iterate 2 ((try simp (etaStruct := .none) only [push_cast, DrawG, seval, ← List.map_take, ← List.map_drop]); (try (refine xsu ?_; try exact xtI))))
      (try (refine ⟨by kernel_rfl, ?_⟩))
      (iterate 2 ((try simp (etaStruct := .none) only [push_cast, DrawG, seval, ← List.map_take, ← List.map_drop]); (try (refine xsu ?_; try exact xtI))))
      exact xrz rfl
  ·have key : l = [] ∨ ∃ s, l = [s] := by
    match l, h2 with
    | [], _ => exact .inl rfl
    | [s], _ => exact .inr ⟨s, rfl⟩
    | a :: b :: r, h2 => simp at h2
   rcases key with rfl | ⟨s, rfl⟩
   ·exact root_0
   ·exact root_1 s (hs s (by simp))
theorem tr_len2 (pr : Nat → Nat → Nat) : ∀ (f : Nat) (l : List Nat) (i : Nat), (trF pr f l i).length ≤ f
 | 0, l, i => by simp [trF]
 | f + 1, l, i => by
  unfold trF
  split
  ·simp
  ·have := tr_len2 pr f (lvl pr l) (i / 2)
   have hb : (bes l i).length ≤ 1 := by unfold bes; cases l[i ^^^ 1]? <;> simp
   rw [List.length_append]; omega
theorem trN_len (l : List Nat) (i : Nat) : (tr pairN l i).length ≤ l.length := tr_len2 _ _ _ _
theorem trail_1 (s : ByteArray) (i : Nat) : Spec Tryz.prog 23 [.c (.sl 1 ([s].map strP)), I .i64 i] [] (.own 0) [.row 32 1 ((tr pairN ([s].map leafN) i).map u64P)] := by
 rw [tr_short pairN _ _ (by simp)]
 refine spec_am Tryz.func23 rfl rfl mix 39 rfl [.tmp 4] Tryz.results23 (Nat.le_of_ble_eq_true rfl) ?_
 (try (refine xst ?_; try exact xtI))
 refine cond_i (fun h1 => ?_) (fun h1 => ?_)
 ·(try replace h1 := xhh h1)
  (try (refine xst ?_; try exact xtI))
  refine retTo (To.nil 4 32 1 rfl) (retM [0] rfl rfl (by decide) ⟨?_, trivial⟩ trivial ?_)
  ·simp (etaStruct := .none) only [push_cast, DrawG, seval]
  ·simp (etaStruct := .none) only [push_cast, DrawG, seval]
 ·(try replace h1 := xhh h1)
  simp at h1
theorem trail_s : ∀ (f : Nat) (l : List ByteArray) (i : Nat), l.length ≤ f → l.length ≤ 256 → strsOk l → i < l.length → Spec Tryz.prog 23 [.c (.sl 1 (l.map strP)), I .i64 i] [] (.own 0) [.row 32 1 ((tr pairN (l.map leafN) i).map u64P)]
 | f, l, i, hf, h256, hs, hi => by
  by_cases h2 : 2 ≤ l.length
  ·obtain ⟨s1, s2, s3, s4⟩ := sp_any l.length h2 h256
   match f, hf with
   | 0, hf => omega
   | f + 1, hf =>
    obtain ⟨q, hq⟩ : ∃ q, q = 2 ^ sp l.length := ⟨_, rfl⟩
    have SP := tsplit_s l.length h2 h256
    have TH := tr_halves pairN (sp l.length) (l.map leafN) i (by simpa using s3) (by simpa using s4) (by simpa using hi)
    rw [← hq, ← List.map_take, ← List.map_drop] at TH
    rw [← hq] at SP s3 s4
    have T1 := fun h : i < q => trail_s f (l.take q) i (by simp; omega) (by simp; omega) (fun s h' => hs s (List.mem_of_mem_take h')) (by simp; omega)
    have T2 := fun h : q ≤ i => trail_s f (l.drop q) (i - q) (by simp; omega) (by simp; omega) (fun s h' => hs s (List.mem_of_mem_drop h')) (by simp; omega)
    have R1 := root_s f (l.take q) (by simp; omega) (by simp; omega) (fun s h => hs s (List.mem_of_mem_take h))
    have R2 := root_s f (l.drop q) (by simp; omega) (by simp; omega) (fun s h => hs s (List.mem_of_mem_drop h))
    have L1 := trN_len ((l.take q).map leafN) i
    have L2 := trN_len ((l.drop q).map leafN) (i - q)
    simp only [List.length_map, List.length_take, List.length_drop] at L1 L2
    clear hq
    refine spec_am Tryz.func23 rfl rfl mix 39 rfl [.tmp 4] Tryz.results23 (Nat.le_of_ble_eq_true rfl) ?_
    (iterate 2 ((try simp (etaStruct := .none) only [push_cast, DrawG, seval, ← List.map_take, ← List.map_drop]); (try (refine xsu ?_; try exact xtI))))
    refine cond_i (fun h1 => ?_) (fun h1 => ?_)
    ·(try replace h1 := xhh h1)
     omega
    ·(try replace h1 := xhh h1)
     (iterate 2 ((try simp (etaStruct := .none) only [push_cast, DrawG, seval, ← List.map_take, ← List.map_drop]); (try (refine xsu ?_; try exact xtI))))
     refine caP (SP) ?_
     (iterate 2 ((try simp (etaStruct := .none) only [push_cast, DrawG, seval, ← List.map_take, ← List.map_drop]); (try (refine xsu ?_; try exact xtI))))
     refine cond_i (fun h2 => ?_) (fun h2 => ?_)
     ·(try replace h2 := xhh h2)
      rw [if_pos (by omega)] at TH
      (iterate 2 ((try simp (etaStruct := .none) only [push_cast, DrawG, seval, ← List.map_take, ← List.map_drop]); (try (refine xsu ?_; try exact xtI))))
      refine caM [] (T1 (by omega)) ?_
      (iterate 2 ((try simp (etaStruct := .none) only [push_cast, DrawG, seval, ← List.map_take, ← List.map_drop]); (try (refine xsu ?_; try exact xtI))))
      refine caP (R2) ?_
      (iterate 2 ((try simp (etaStruct := .none) only [push_cast, DrawG, seval, ← List.map_take, ← List.map_drop]); (try (refine xsu ?_; try exact xtI))))
      (try (refine ⟨by kernel_rfl, ?_⟩))
      (iterate 2 ((try simp (etaStruct := .none) only [push_cast, DrawG, seval, ← List.map_take, ← List.map_drop]); (try (refine xsu ?_; try exact xtI))))
      refine retM [40] rfl rfl (by decide) ⟨?_, trivial⟩ trivial ?_
      ·simp (etaStruct := .none) only [push_cast, DrawG, seval]
       rw [TH, List.map_append]; rfl
      ·simp (etaStruct := .none) only [push_cast, DrawG, seval]
     ·(try replace h2 := xhh h2)
      rw [if_neg (by omega)] at TH
      have eI : (i : Int) - (q : Int) = ((i - q : Nat) : Int) := by omega
      (iterate 2 ((try simp (etaStruct := .none) only [push_cast, DrawG, seval, ← List.map_take, ← List.map_drop, eI]); (try (refine xsu ?_; try exact xtI))))
      refine caM [] (T2 (by omega)) ?_
      (iterate 2 ((try simp (etaStruct := .none) only [push_cast, DrawG, seval, ← List.map_take, ← List.map_drop, eI]); (try (refine xsu ?_; try exact xtI))))
      refine caP (R1) ?_
      (iterate 2 ((try simp (etaStruct := .none) only [push_cast, DrawG, seval, ← List.map_take, ← List.map_drop, eI]); (try (refine xsu ?_; try exact xtI))))
      (try (refine ⟨by kernel_rfl, ?_⟩))
      (iterate 2 ((try simp (etaStruct := .none) only [push_cast, DrawG, seval, ← List.map_take, ← List.map_drop, eI]); (try (refine xsu ?_; try exact xtI))))
      refine retM [48] rfl rfl (by decide) ⟨?_, trivial⟩ trivial ?_
      ·simp (etaStruct := .none) only [push_cast, DrawG, seval]
       rw [TH, List.map_append]; rfl
      ·simp (etaStruct := .none) only [push_cast, DrawG, seval]
  ·obtain ⟨s, rfl⟩ : ∃ s, l = [s] := by
    match l, h2, hi with
    | [], _, hi => simp at hi
    | [s], _, _ => exact ⟨s, rfl⟩
    | a :: b :: r, h2, _ => simp at h2
   exact trail_1 s i
def trailV (l : List ByteArray) (i : Int) : List Nat × Int := if 256 < l.length then ([], 2) else if i < 0 ∨ (l.length : Int) ≤ i then ([], 7) else (tr pairN (l.map leafN) i.toNat, 0)
theorem Trail_s (l : List ByteArray) (i : Int) (hl : l.length ≤ 9223372036854775807) (hs : strsOk l) : Spec Tryz.prog 15 [.c (.sl 1 (l.map strP)), I .i64 i] [] (.tup [.c (.sl 1 ((trailV l i).1.map u64P)), I .i64 (trailV l i).2]) [] := by
 refine spec_am Tryz.func15 rfl rfl mix 20 rfl [.tmp 4, .tmp 5] Tryz.results15 (Nat.le_of_ble_eq_true rfl) ?_
 (try (refine xst ?_; try exact xtI))
 refine cond_i (fun h1 => ?_) (fun h1 => ?_)
 ·(try replace h1 := xhh h1)
  have e : trailV l i = ([], 2) := by unfold trailV; rw [if_pos (by omega)]
  (try (refine xst ?_; try exact xtI))
  (first | (refine retA rfl (Wk.of ?_); (try simp (etaStruct := .none) only [push_cast, DrawG, seval]); first | done | (simp [e, *]; done) | (simp_all [e]; done)) | (refine retA rfl ?_; (try simp (etaStruct := .none) only [push_cast, DrawG, seval]); (try simp [e, *]); (try exact wkc)))
 ·(try replace h1 := xhh h1)
  (try (refine xst ?_; try exact xtI))
  refine cond_i (fun h2 => ?_) (fun h2 => ?_)
  ·(try replace h2 := xhh h2)
   have e : trailV l i = ([], 7) := by unfold trailV; rw [if_neg (by omega), if_pos (by omega)]
   (try (refine xst ?_; try exact xtI))
   (first | (refine retA rfl (Wk.of ?_); (try simp (etaStruct := .none) only [push_cast, DrawG, seval]); first | done | (simp [e, *]; done) | (simp_all [e]; done)) | (refine retA rfl ?_; (try simp (etaStruct := .none) only [push_cast, DrawG, seval]); (try simp [e, *]); (try exact wkc)))
  ·(try replace h2 := xhh h2)
   have e : trailV l i = (tr pairN (l.map leafN) i.toNat, 0) := by unfold trailV; rw [if_neg (by omega), if_neg (by omega)]
   obtain ⟨j, rfl⟩ := Int.eq_ofNat_of_zero_le (show 0 ≤ i by omega)
   simp only [Int.toNat_natCast] at e
   (try (refine xst ?_; try exact xtI))
   refine caM [] (trail_s l.length l j (Nat.le_refl _) (by omega) hs (by omega)) ?_
   (try (refine xst ?_; try exact xtI))
   exact ret0 rfl trivial (by rw [e]; exact Wk.refl _)
theorem leafOf_s (s : ByteArray) (hs : s.size ≤ 140737488351232) : Spec Tryz.prog 18 [S s] [] (.c (.v (.int .u64 (leafN s : Nat)))) [] :=
 spec_scal (enters Tryz.func18 rfl rfl) [.string s] _ rfl fun w => leafOf_any s w hs
theorem pairOf_s (a b : Nat) (ha : a < 18446744073709551616) (hb : b < 18446744073709551616) : Spec Tryz.prog 19 [.c (.v (.int .u64 a)), .c (.v (.int .u64 b))] [] (.c (.v (.int .u64 (pairN a b : Nat)))) [] :=
 spec_scal (enters Tryz.func19 rfl rfl) [.int .u64 a, .int .u64 b] _ rfl fun w => (pairOf_any a b ha hb w).mono fun e w' ⟨h1, h2⟩ => ⟨h1, h2 ▸ Below.refl _ _⟩
theorem i64_xor_nat (a b : Nat) (ha : a < 9223372036854775808) (hb : b < 9223372036854775808) : bits .xor .i64 (a : Int) (b : Int) = ((a ^^^ b : Nat) : Int) := by
 show IntKind.i64.wrap ((BitVec.ofInt 64 (a : Int) ^^^ BitVec.ofInt 64 (b : Int)).toNat : Nat) = _
 rw [BitVec.toNat_xor, BitVec.ofInt_natCast, BitVec.ofInt_natCast, BitVec.toNat_ofNat, BitVec.toNat_ofNat, Nat.mod_eq_of_lt (show a < 2 ^ 64 by omega), Nat.mod_eq_of_lt (show b < 2 ^ 64 by omega), IntKind.wrap_i64]
 have : a ^^^ b < 2 ^ 63 := Nat.xor_lt_two_pow ha hb
 omega
theorem lvlN_lt : ∀ (l : List Nat), (∀ x ∈ l, x < 18446744073709551616) → ∀ x ∈ lvl pairN l, x < 18446744073709551616
 | [], _, x, hx => by simp [lvl] at hx
 | [a], h, x, hx => h x (by simpa [lvl] using hx)
 | a :: b :: l, h, x, hx => by
  rw [lvl] at hx
  rcases List.mem_cons.1 hx with rfl | hx
  ·exact pairN_lt _ _
  ·exact lvlN_lt l (fun y hy => h y (by simp [hy])) x hx
theorem trailOf_s (l : List ByteArray) (i0 : Nat) (h256 : l.length ≤ 256) (hs : strsOk l) (hi : i0 < l.length) :
 Spec Tryz.prog 11 [.c (.sl 1 (l.map strP)), I .i64 i0] [] (.c (.sl 1 ((tr pairN (l.map leafN) i0).map u64P))) [] := by
 refine spec_am Tryz.func11 rfl rfl mix 75 rfl [.tmp 4] Tryz.results11 (Nat.le_of_ble_eq_true rfl) ?_
 (try (refine xst ?_; try exact xtI))
 refine loopI (fun k : Nat => ⟨[(14, I .i64 k), (13, I .i64 l.length), (12, .c (.sl 1 (l.map strP))), (6, .c (.v (.slice none 0 0))), (5, .own 0), (1, I .i64 i0)], [(0, .row 32 1 (((l.take k).map leafN).map u64P))], 1⟩) (fun k : Nat => k ≤ l.length) (fun k : Nat => l.length - k) (0) (Nat.zero_le _) ((To.nil 5 32 1 rfl).trans (To.mk [0] rfl rfl (by decide) ?_ ?_)) ?_
 ·simp (etaStruct := .none) only [push_cast, DrawG, seval]
 ·simp (etaStruct := .none) only [push_cast, DrawG, seval]
 rintro k hk
 (try (refine xst ?_; try exact xtI))
 refine cond_i (fun h1 => ?_) (fun h1 => ?_)
 ·(try replace h1 := xhh h1)
  have hlt : k < l.length := by omega
  (iterate 2 ((try simp (etaStruct := .none) only [push_cast, DrawG, seval, getD_in _ _ _ hlt, strP]); (try (refine xsu ?_; try exact xtI))))
  have ts := take_snoc l k hlt
  refine caP (leafOf_s (l.getD k default) (hs _ (by rw [getD_at _ _ hlt]; exact List.getElem_mem hlt))) ?_
  (iterate 2 ((try simp (etaStruct := .none) only [push_cast, DrawG, seval, getD_in _ _ _ hlt, strP]); (try (refine xsu ?_; try exact xtI))))
  refine ⟨k + 1, by omega, by omega, To.mk [2] rfl rfl (by decide) ?_ ?_⟩
  ·(iterate 2 ((try simp (etaStruct := .none) only [push_cast, DrawG, seval, ts, List.map_append, u64P]); (try (refine xsu ?_; try exact xtI))))
  ·(iterate 2 ((try simp (etaStruct := .none) only [push_cast, DrawG, seval, getD_in _ _ _ hlt, strP]); (try (refine xsu ?_; try exact xtI))))
 ·(try replace h1 := xhh h1)
  obtain rfl : k = l.length := by omega
  (iterate 2 ((try simp (etaStruct := .none) only [push_cast, DrawG, seval, List.take_length]); (try (refine xsu ?_; try exact xtI))))
  have LN : ∀ y ∈ l.map leafN, y < 18446744073709551616 := fun y hy => by obtain ⟨s, _, rfl⟩ := List.mem_map.1 hy; exact leafN_lt s
  refine loopI (fun x : List Nat × List Nat × Nat => ⟨[(6, .own 0), (5, .own 1), (1, I .i64 x.2.2)], [(0, .row 32 1 (x.1.map u64P)), (1, .row 32 1 (x.2.1.map u64P))], 2⟩) (fun x : List Nat × List Nat × Nat => x.2.1.length ≤ 256 ∧ (∀ y ∈ x.2.1, y < 18446744073709551616) ∧ x.2.2 < x.2.1.length ∧ x.1 ++ tr pairN x.2.1 x.2.2 = tr pairN (l.map leafN) i0) (fun x : List Nat × List Nat × Nat => x.2.1.length) (([], l.map leafN, i0)) (⟨by simp only [List.length_map]; exact h256, LN, by simp only [List.length_map]; exact hi, rfl⟩) ((To.nil 6 32 1 rfl).trans (To.mk [1, 0] rfl rfl (by decide) ?_ ?_)) ?_
  ·simp (etaStruct := .none) only [push_cast, DrawG, seval]
  ·simp (etaStruct := .none) only [push_cast, DrawG, seval]
  rintro ⟨O, M, i⟩ ⟨p1, p2, p3, p4⟩
  simp only at p1 p2 p3 p4
  obtain ⟨j, hj⟩ : ∃ j, j = i ^^^ 1 := ⟨_, rfl⟩
  have ex : bits .xor .i64 (i : Int) 1 = (j : Int) := by rw [hj]; exact i64_xor_nat i 1 (by omega) (by decide)
  have hj2 : j = if i % 2 = 0 then i + 1 else i - 1 := by rw [hj]; exact xor_one i
  have hO : O.length ≤ 256 := by have := trN_len (l.map leafN) i0; rw [← p4, List.length_append, List.length_map] at this; omega
  have TL := tr_lvl pairN M i p3
  have LL := lvl_len pairN M
  (iterate 2 ((try simp (etaStruct := .none) only [push_cast, DrawG, seval, List.take_length]); (try (refine xsu ?_; try exact xtI))))
  refine cond_i (fun h2 => ?_) (fun h2 => ?_)
  ·(try replace h2 := xhh h2)
   have eb : bes M i = if h : j < M.length then [M.getD j default] else [] := by
    unfold bes
    rw [← hj]
    split
    ·rename_i h; rw [List.getElem?_eq_getElem h, getD_at _ _ h]; rfl
    ·rename_i h; rw [List.getElem?_eq_none (by omega)]; rfl
   (iterate 2 ((try simp (etaStruct := .none) only [push_cast, DrawG, seval, List.take_length, ex]); (try (refine xsu ?_; try exact xtI))))
   refine cond_j (fun o : List Nat => ⟨[(6, .own 0), (5, .own 1), (1, I .i64 i)], [(0, .row 32 1 (o.map u64P)), (1, .row 32 1 (M.map u64P))], 2⟩) (fun o : List Nat => o = O ++ bes M i) (fun h3 => ?_) (fun h3 => ?_) ?_
   ·(try replace h3 := xhh h3)
    have hlt : j < M.length := by omega
    (iterate 2 ((try simp (etaStruct := .none) only [push_cast, DrawG, seval, List.take_length, ex, getD_in _ _ _ hlt, u64P]); (try (refine xsu ?_; try exact xtI))))
    refine ⟨O ++ [M.getD j default], by rw [eb, dif_pos hlt], To.mk [3, 1] rfl rfl (by decide) ?_ ?_⟩
    ·(iterate 2 ((try simp (etaStruct := .none) only [push_cast, DrawG, seval, List.map_append, u64P]); (try (refine xsu ?_; try exact xtI))))
    ·(iterate 2 ((try simp (etaStruct := .none) only [push_cast, DrawG, seval, List.take_length, ex, getD_in _ _ _ hlt, u64P]); (try (refine xsu ?_; try exact xtI))))
   ·(try replace h3 := xhh h3)
    (iterate 2 ((try simp (etaStruct := .none) only [push_cast, DrawG, seval, List.take_length, ex]); (try (refine xsu ?_; try exact xtI))))
    refine ⟨O, by rw [eb, dif_neg (by omega), List.append_nil], To.mk [0, 1] rfl rfl (by decide) ?_ ?_⟩
    ·(iterate 2 ((try simp (etaStruct := .none) only [push_cast, DrawG, seval, List.take_length, ex]); (try (refine xsu ?_; try exact xtI))))
    ·(iterate 2 ((try simp (etaStruct := .none) only [push_cast, DrawG, seval, List.take_length, ex]); (try (refine xsu ?_; try exact xtI))))
   ·rintro o hO
    have hO2 : o.length ≤ 257 := by
     have := congrArg List.length p4
     rw [TL, ← List.append_assoc, ← hO, List.length_append] at this
     have h9 := trN_len (l.map leafN) i0
     rw [List.length_map] at h9
     omega
    (iterate 2 ((try simp (etaStruct := .none) only [push_cast, DrawG, seval, List.take_length, ex]); (try (refine xsu ?_; try exact xtI))))
    refine loopI (fun y : Nat × List Nat => ⟨[(11, I .i64 y.1), (10, .own 2), (6, .own 0), (5, .own 1), (1, I .i64 i)], [(0, .row 32 1 (o.map u64P)), (1, .row 32 1 (M.map u64P)), (2, .row 32 1 (y.2.map u64P))], 3⟩) (fun y : Nat × List Nat => y.1 ≤ M.length + 1 ∧ y.2.length ≤ 256 ∧ y.2 ++ lvl pairN (M.drop y.1) = lvl pairN M) (fun y : Nat × List Nat => M.length + 1 - y.1) ((0, [])) (⟨by simp only; omega, by simp, rfl⟩) ((To.nil 10 32 1 rfl).trans (To.mk [0, 1, 2] rfl rfl (by decide) ?_ ?_)) ?_
    ·simp (etaStruct := .none) only [push_cast, DrawG, seval]
    ·simp (etaStruct := .none) only [push_cast, DrawG, seval]
    rintro ⟨k, U⟩ ⟨q1, q2, q3⟩
    simp only at q1 q2 q3
    (iterate 2 ((try simp (etaStruct := .none) only [push_cast, DrawG, seval, List.take_length, ex]); (try (refine xsu ?_; try exact xtI))))
    refine cond_i (fun h4 => ?_) (fun h4 => ?_)
    ·(try replace h4 := xhh h4)
     have hlt : k < M.length := by omega
     have d1 := drop_at M k hlt
     have m1 := p2 _ (getD_mem M k hlt)
     have e2 : ((k + 2 : Nat) : Int) = (k : Int) + 2 := by omega
     (iterate 2 ((try simp (etaStruct := .none) only [push_cast, DrawG, seval, List.take_length, ex, e2, getD_in _ _ _ hlt, u64P]); (try (refine xsu ?_; try exact xtI))))
     refine cond_i (fun h5 => ?_) (fun h5 => ?_)
     ·(try replace h5 := xhh h5)
      have hlt2 : k + 1 < M.length := by omega
      have d2 := drop_at M (k + 1) hlt2
      have m2 := p2 _ (getD_mem M (k + 1) hlt2)
      have e3 : ((k : Int) + 1).toNat = k + 1 := by omega
      (iterate 2 ((try simp (etaStruct := .none) only [push_cast, DrawG, seval, List.take_length, ex, e2, getD_in _ _ _ hlt, u64P, e3, getD_in _ _ _ hlt2]); (try (refine xsu ?_; try exact xtI))))
      refine caP (pairOf_s _ _ m1 m2) ?_
      (iterate 2 ((try simp (etaStruct := .none) only [push_cast, DrawG, seval, List.take_length, ex, e2, getD_in _ _ _ hlt, u64P, e3, getD_in _ _ _ hlt2]); (try (refine xsu ?_; try exact xtI))))
      (try (refine ⟨by kernel_rfl, ?_⟩))
      (iterate 2 ((try simp (etaStruct := .none) only [push_cast, DrawG, seval, List.take_length, ex, e2, getD_in _ _ _ hlt, u64P, e3, getD_in _ _ _ hlt2]); (try (refine xsu ?_; try exact xtI))))
      refine ⟨(k + 2, U ++ [pairN (M.getD k default) (M.getD (k + 1) default)]), ⟨by simp only; omega, by
 have := congrArg List.length q3
 rw [d1, d2, lvl] at this
 simp at this ⊢; omega, by
 rw [← q3, d1, d2, lvl]; simp⟩, by simp only; omega, To.mk [0, 1, 51] rfl rfl (by decide) ?_ ?_⟩
      ·(iterate 2 ((try simp (etaStruct := .none) only [push_cast, DrawG, seval, List.map_append, u64P]); (try (refine xsu ?_; try exact xtI))))
      ·(iterate 2 ((try simp (etaStruct := .none) only [push_cast, DrawG, seval, List.take_length, ex, e2, getD_in _ _ _ hlt, u64P, e3, getD_in _ _ _ hlt2]); (try (refine xsu ?_; try exact xtI))))
     ·(try replace h5 := xhh h5)
      have d2 : M.drop (k + 1) = [] := List.drop_eq_nil_of_le (by omega)
      (iterate 2 ((try simp (etaStruct := .none) only [push_cast, DrawG, seval, List.take_length, ex, e2, getD_in _ _ _ hlt, u64P]); (try (refine xsu ?_; try exact xtI))))
      refine ⟨(k + 2, U ++ [M.getD k default]), ⟨by simp only; omega, by
 have := congrArg List.length q3
 rw [d1, d2, lvl] at this
 simp at this ⊢; omega, by
 rw [← q3, d1, d2, lvl, List.drop_eq_nil_of_le (by simp only; omega), lvl]; simp⟩, by simp only; omega, To.mk [0, 1, 4] rfl rfl (by decide) ?_ ?_⟩
      ·(iterate 2 ((try simp (etaStruct := .none) only [push_cast, DrawG, seval, List.map_append, u64P]); (try (refine xsu ?_; try exact xtI))))
      ·(iterate 2 ((try simp (etaStruct := .none) only [push_cast, DrawG, seval, List.take_length, ex, e2, getD_in _ _ _ hlt, u64P]); (try (refine xsu ?_; try exact xtI))))
    ·(try replace h4 := xhh h4)
     have qU : U = lvl pairN M := by rw [List.drop_eq_nil_of_le (by omega), lvl, List.append_nil] at q3; exact q3
     subst qU
     (iterate 2 ((try simp (etaStruct := .none) only [push_cast, DrawG, seval, List.take_length, ex]); (try (refine xsu ?_; try exact xtI))))
     refine ⟨(o, lvl pairN M, i / 2), ⟨by simp only; omega, lvlN_lt M p2, by simp only; omega, by simp only; rw [hO, List.append_assoc, ← TL, p4]⟩, by simp only; omega, To.mk [0, 2] rfl rfl (by decide) ?_ ?_⟩
     ·(iterate 2 ((try simp (etaStruct := .none) only [push_cast, DrawG, seval, List.take_length, ex]); (try (refine xsu ?_; try exact xtI))))
     ·(iterate 2 ((try simp (etaStruct := .none) only [push_cast, DrawG, seval, List.take_length, ex]); (try (refine xsu ?_; try exact xtI))))
  ·(try replace h2 := xhh h2)
   have e0 : O = tr pairN (l.map leafN) i0 := by rw [← p4, tr_short _ _ _ (by omega), List.append_nil]
   (iterate 2 ((try simp (etaStruct := .none) only [push_cast, DrawG, seval, List.take_length]); (try (refine xsu ?_; try exact xtI))))
   (first | (refine retA rfl (Wk.of ?_); (try simp (etaStruct := .none) only [push_cast, DrawG, seval]); first | done | (simp [e0, *]; done) | (simp_all [e0]; done)) | (refine retA rfl ?_; (try simp (etaStruct := .none) only [push_cast, DrawG, seval]); (try simp [e0, *]); (try exact wkc)))
end Go.Proofs.YtllmjdcblfkfaaaGreat
