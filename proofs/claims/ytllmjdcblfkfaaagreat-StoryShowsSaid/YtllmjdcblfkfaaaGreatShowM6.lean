/- Lemmas for the proof of storyShows.proved. -/
import Derived.Test.YtllmjdcblfkfaaaGreatShowM5
namespace Go.Proofs.YtllmjdcblfkfaaaGreat
set_option linter.all false
open Go.RowKit
set_option maxRecDepth 100000
set_option maxHeartbeats 1000000
theorem cel_index (l : List Cel) (v : Cel) (hl : l.length ≤ 9223372036854775807) : Spec Tryz.prog 144 [.c (.sl 2 (l.map celP)), celA v] [] (I .i64 (ixOf (fun x => decide (v = x)) l)) [] := by
 refine spec_am Tryz.func144 rfl rfl mix 19 rfl [.tmp 4] Tryz.results144 (Nat.le_of_ble_eq_true rfl) ?_
 (try (refine xst ?_; try exact xtI))
 refine loopI (fun k : Nat => ⟨[(8, I .i64 k), (7, I .i64 l.length), (3, .ptr 0 0 0), (0, .c (.sl 2 (l.map celP)))], [(0, .blk 68 [I .i64 v.x, I .i64 v.y])], 1⟩) (fun k : Nat => k ≤ l.length ∧ ∀ j (hj : j < l.length), j < k → decide (v = l[j]) = false) (fun k : Nat => l.length - k) (0) (⟨Nat.zero_le _, fun j _ h => by omega⟩) (To.mk [0] rfl rfl (by decide) ?_ ?_) ?_
 ·simp (etaStruct := .none) only [push_cast, DrawG, seval]
 ·simp (etaStruct := .none) only [push_cast, DrawG, seval]
 rintro k ⟨hk, hn⟩
 (try (refine xst ?_; try exact xtI))
 refine cond_i (fun h1 => ?_) (fun h1 => ?_)
 ·(try replace h1 := xhh h1)
  have hlt : k < l.length := by omega
  (iterate 2 ((try simp (etaStruct := .none) only [push_cast, DrawG, seval, getD_in _ _ _ hlt, celP, cel_dec]); (try (refine xsu ?_; try exact xtI))))
  (try (refine ⟨by kernel_rfl, ?_⟩))
  (iterate 2 ((try simp (etaStruct := .none) only [push_cast, DrawG, seval, getD_in _ _ _ hlt, celP, cel_dec]); (try (refine xsu ?_; try exact xtI))))
  refine cond_i (fun h2 => ?_) (fun h2 => ?_)
  ·(try replace h2 := xhh h2)
   (iterate 2 ((try simp (etaStruct := .none) only [push_cast, DrawG, seval, getD_in _ _ _ hlt, celP, cel_dec]); (try (refine xsu ?_; try exact xtI))))
   exact ret0 rfl trivial (Wk.of (by rw [ixOf_hit (fun x => decide (v = x)) l k hlt (by rw [← getD_at _ _ hlt]; simpa using h2) hn]; rfl))
  ·(try replace h2 := xhh h2)
   (iterate 2 ((try simp (etaStruct := .none) only [push_cast, DrawG, seval, getD_in _ _ _ hlt, celP, cel_dec]); (try (refine xsu ?_; try exact xtI))))
   refine ⟨k + 1, ⟨by omega, fun j hj hjk => by
 rcases Nat.lt_or_ge j k with h | h
 ·simpa using hn j hj h
 ·obtain rfl : j = k := by omega
  rw [← getD_at _ _ hj]; simpa using h2⟩, by omega, To.mk [0] rfl rfl (by decide) ?_ ?_⟩
   ·(iterate 2 ((try simp (etaStruct := .none) only [push_cast, DrawG, seval, getD_in _ _ _ hlt, celP, cel_dec]); (try (refine xsu ?_; try exact xtI))))
   ·(iterate 2 ((try simp (etaStruct := .none) only [push_cast, DrawG, seval, getD_in _ _ _ hlt, celP, cel_dec]); (try (refine xsu ?_; try exact xtI))))
 ·(try replace h1 := xhh h1)
  (try (refine xst ?_; try exact xtI))
  exact ret0 rfl trivial (Wk.of (by rw [ixOf_miss (fun x => decide (v = x)) l (fun j hj => hn j hj (by omega))]; rfl))
theorem cel_contains (l : List Cel) (v : Cel) (hl : l.length ≤ 9223372036854775807) : Spec Tryz.prog 126 [.c (.sl 2 (l.map celP)), celA v] [] (B (l.any (fun x => decide (v = x)))) [] := by
 refine spec_am Tryz.func126 rfl rfl mix 9 rfl [.tmp 4] Tryz.results126 (Nat.le_of_ble_eq_true rfl) ?_
 (iterate 2 ((try simp (etaStruct := .none) only [push_cast, DrawG, seval, ixOf_any]); (try (refine xsu ?_; try exact xtI))))
 refine caP (cel_index l v hl) ?_
 (iterate 2 ((try simp (etaStruct := .none) only [push_cast, DrawG, seval, ixOf_any]); (try (refine xsu ?_; try exact xtI))))
 exact xrz rfl
theorem tground_s (f : Fld) (c : Cel) (h : fldE f = 0) (hl : f.p.length ≤ 9223372036854775807) : Spec Tryz.prog 125 [fldA f, celA c] [] (B (groundV f c)) [] := by
 refine spec_am Tryz.func125 rfl rfl mix 19 rfl [.tmp 4] Tryz.results125 (Nat.le_of_ble_eq_true rfl) ?_
 (try (refine xst ?_; try exact xtI))
 refine caP (at_s f c hl) ?_
 (try (refine xst ?_; try exact xtI))
 exact ret0 rfl trivial (Wk.of (congrArg B (by unfold atV groundV; rw [if_neg (by simp [h])]; cases inF f c <;> simp)))
theorem twithin_s (n a b : Int) : Spec Tryz.prog 127 [I .i64 n, I .i64 a, I .i64 b] [] (B (within n a b)) [] := by
 refine spec_am Tryz.func127 rfl rfl mix 15 rfl [.tmp 6] Tryz.results127 (Nat.le_of_ble_eq_true rfl) ?_
 (try (refine xst ?_; try exact xtI))
 exact ret0 rfl trivial (Wk.of (congrArg B (by unfold within; first | rfl | simp)))
def kindE (k : Int) : Int := if k = 1 ∨ k = 2 then 0 else 1
theorem tkind_s (k : Int) : Spec Tryz.prog 86 [I .i64 k] [] (.tup [kndA (kindV k), I .i64 (kindE k)]) [] := by
 refine spec_am Tryz.func86 rfl rfl mix 12 rfl [.cell 2 85, .tmp 3] Tryz.results86 (Nat.le_of_ble_eq_true rfl) ?_
 (try (refine xst ?_; try exact xtI))
 refine cond_i (fun h1 => ?_) (fun h1 => ?_)
 ·(try replace h1 := xhh h1)
  (try (refine xst ?_; try exact xtI))
  (first | (refine retA rfl (Wk.of ?_); (try simp (etaStruct := .none) only [push_cast, DrawG, seval]); first | done | (simp [kindV, kindE, *]; done) | (simp_all [kindV, kindE]; done)) | (refine retA rfl ?_; (try simp (etaStruct := .none) only [push_cast, DrawG, seval]); (try simp [kindV, kindE, *]); (try exact wkc)))
 ·(try replace h1 := xhh h1)
  (try (refine xst ?_; try exact xtI))
  refine cond_i (fun h2 => ?_) (fun h2 => ?_)
  ·(try replace h2 := xhh h2)
   (try (refine xst ?_; try exact xtI))
   (first | (refine retA rfl (Wk.of ?_); (try simp (etaStruct := .none) only [push_cast, DrawG, seval]); first | done | (simp [kindV, kindE, *]; done) | (simp_all [kindV, kindE]; done)) | (refine retA rfl ?_; (try simp (etaStruct := .none) only [push_cast, DrawG, seval]); (try simp [kindV, kindE, *]); (try exact wkc)))
  ·(try replace h2 := xhh h2)
   (try (refine xst ?_; try exact xtI))
   (first | (refine retA rfl (Wk.of ?_); (try simp (etaStruct := .none) only [push_cast, DrawG, seval]); first | done | (simp [kindV, kindE, *]; done) | (simp_all [kindV, kindE]; done)) | (refine retA rfl ?_; (try simp (etaStruct := .none) only [push_cast, DrawG, seval]); (try simp [kindV, kindE, *]); (try exact wkc)))
theorem base_any (w : Wld) (i : Nat) (hi : i < w.bases.length) : ((w.bases.take i).any fun x => decide (w.bases.getD i default = x)) = !allN (fun j => !decide (w.bases.getD j default = w.bases.getD i default)) i := by
 rw [Bool.eq_iff_iff, Bool.not_eq_true', ← Bool.not_eq_true, allN_iff, List.any_eq_true]
 constructor
 ·rintro ⟨x, hx, h⟩ hh
  obtain ⟨j, hj, rfl⟩ := List.getElem_of_mem hx
  rw [List.length_take] at hj
  have := hh j (by omega)
  rw [List.getElem_take] at h
  rw [getD_at _ _ (by omega)] at this
  simp only [decide_eq_true_eq] at h
  simp only [Bool.not_eq_true', decide_eq_false_iff_not] at this
  exact this h.symm
 ·intro hh
  apply Classical.byContradiction
  intro hn
  apply hh
  intro j hj
  simp only [Bool.not_eq_true', decide_eq_false_iff_not]
  intro he
  apply hn
  refine ⟨w.bases.getD j default, ?_, decide_eq_true he.symm⟩
  rw [getD_at _ _ (by omega)]
  exact List.mem_take_iff_getElem.2 ⟨j, by omega, rfl⟩
def playersV (w : Wld) : Bool := decide (w.stocks.length = w.bases.length) && allN (baseB w) w.bases.length
def minesV (w : Wld) : Bool := decide (w.mines.length = w.f.p.length) && allN (mineB w) w.mines.length
def troopsV (w : Wld) : Bool := within w.next 1 1000000 && within w.now 0 1000000 && allN (troopB w) w.troops.length
theorem ptm (w : Wld) : (playersV w && minesV w && troopsV w) = (worldF w && worldB w) := by
 unfold playersV minesV troopsV worldF worldB
 cases decide (w.stocks.length = w.bases.length) <;> cases decide (w.mines.length = w.f.p.length) <;> cases within w.next 1 1000000 <;> cases within w.now 0 1000000 <;> simp
theorem allN_not {p : Nat → Bool} {n k : Nat} (h : k < n) (hp : p k = false) : allN p n = false := by
 rw [← Bool.not_eq_true, allN_iff]; intro hh
 have := hh k h
 rw [hp] at this; simp at this
theorem tplayers_s (w : Wld) (hl : wldL w) (hf : fldE w.f = 0) : Spec Tryz.prog 90 [wldA w] [] (B (playersV w)) [] := by
 obtain ⟨l1, l2, l3, l4, l5⟩ := hl
 refine spec_am Tryz.func90 rfl rfl mix 43 rfl [.tmp 2] Tryz.results90 (Nat.le_of_ble_eq_true rfl) ?_
 (try (refine xst ?_; try exact xtI))
 refine cond_i (fun h1 => ?_) (fun h1 => ?_)
 ·(try replace h1 := xhh h1)
  have e : playersV w = false := by unfold playersV; rw [decide_eq_false (by omega)]; rfl
  (try (refine xst ?_; try exact xtI))
  (first | (refine retA rfl (Wk.of ?_); (try simp (etaStruct := .none) only [push_cast, DrawG, seval]); first | done | (simp [e, *]; done) | (simp_all [e]; done)) | (refine retA rfl ?_; (try simp (etaStruct := .none) only [push_cast, DrawG, seval]); (try simp [e, *]); (try exact wkc)))
 ·(try replace h1 := xhh h1)
  have hls : w.stocks.length = w.bases.length := by omega
  (try (refine xst ?_; try exact xtI))
  refine loopI (fun k : Nat => ⟨[(15, I .i64 k), (14, I .i64 w.bases.length), (13, .c (.sl 2 (w.bases.map celP))), (1, .ptr 0 0 0)], [(0, .blk 28 (wldC w))], 1⟩) (fun k : Nat => k ≤ w.bases.length ∧ allN (baseB w) k = true) (fun k : Nat => w.bases.length - k) (0) (⟨Nat.zero_le _, rfl⟩) (To.mk [0] rfl rfl (by decide) ?_ ?_) ?_
  ·simp (etaStruct := .none) only [push_cast, DrawG, seval]
  ·simp (etaStruct := .none) only [push_cast, DrawG, seval]
  rintro k ⟨hk, hn⟩
  (try (refine xst ?_; try exact xtI))
  refine cond_i (fun h2 => ?_) (fun h2 => ?_)
  ·(try replace h2 := xhh h2)
   have hlt : k < w.bases.length := by omega
   have hlt2 : k < w.stocks.length := by omega
   have et : (w.bases.map celP).take k = (w.bases.take k).map celP := by rw [List.map_take]
   have ba := base_any w k hlt
   (iterate 2 ((try simp (etaStruct := .none) only [push_cast, DrawG, seval, getD_in _ _ _ hlt, celP, getD_in _ _ _ hlt2, i64P, et]); (try (refine xsu ?_; try exact xtI))))
   refine caP (tground_s w.f (w.bases.getD k default) hf l1) ?_
   (iterate 2 ((try simp (etaStruct := .none) only [push_cast, DrawG, seval, getD_in _ _ _ hlt, celP, getD_in _ _ _ hlt2, i64P, et]); (try (refine xsu ?_; try exact xtI))))
   refine gcP (fun hcc => cel_contains (w.bases.take k) (w.bases.getD k default) (by rw [List.length_take]; omega)) ?_
   (iterate 2 ((try simp (etaStruct := .none) only [push_cast, DrawG, seval, getD_in _ _ _ hlt, celP, getD_in _ _ _ hlt2, i64P, et]); (try (refine xsu ?_; try exact xtI))))
   refine gcP (fun hcc => twithin_s (w.stocks.getD k default) 0 1000000) ?_
   (iterate 2 ((try simp (etaStruct := .none) only [push_cast, DrawG, seval, getD_in _ _ _ hlt, celP, getD_in _ _ _ hlt2, i64P, et]); (try (refine xsu ?_; try exact xtI))))
   (try (refine ⟨by kernel_rfl, ?_⟩))
   (iterate 2 ((try simp (etaStruct := .none) only [push_cast, DrawG, seval, getD_in _ _ _ hlt, celP, getD_in _ _ _ hlt2, i64P, et]); (try (refine xsu ?_; try exact xtI))))
   refine cond_i (fun h3 => ?_) (fun h3 => ?_)
   ·(try replace h3 := xhh h3)
    have e0 : baseB w k = false := by
     unfold baseB
     rw [ba] at h3
     rcases h3 with (h | h) | h
     ·rw [h]; rfl
     ·have h' : allN (fun j => !decide (w.bases.getD j default = w.bases.getD k default)) k = false := by simpa using h
      rw [h']; simp
     ·rw [h]; simp
    have e : playersV w = false := by unfold playersV; rw [allN_not hlt e0]; simp
    (iterate 2 ((try simp (etaStruct := .none) only [push_cast, DrawG, seval, getD_in _ _ _ hlt, celP, getD_in _ _ _ hlt2, i64P, et]); (try (refine xsu ?_; try exact xtI))))
    (first | (refine retA rfl (Wk.of ?_); (try simp (etaStruct := .none) only [push_cast, DrawG, seval]); first | done | (simp [e, *]; done) | (simp_all [e]; done)) | (refine retA rfl ?_; (try simp (etaStruct := .none) only [push_cast, DrawG, seval]); (try simp [e, *]); (try exact wkc)))
   ·(try replace h3 := xhh h3)
    have e0 : baseB w k = true := by
     unfold baseB
     rw [ba] at h3
     rw [h3.1.1, h3.2]
     simpa using h3.1.2
    (iterate 2 ((try simp (etaStruct := .none) only [push_cast, DrawG, seval, getD_in _ _ _ hlt, celP, getD_in _ _ _ hlt2, i64P, et]); (try (refine xsu ?_; try exact xtI))))
    refine ⟨k + 1, ⟨by omega, by rw [allN, hn, e0]; rfl⟩, by omega, To.mk [0] rfl rfl (by decide) ?_ ?_⟩
    ·(iterate 2 ((try simp (etaStruct := .none) only [push_cast, DrawG, seval, getD_in _ _ _ hlt, celP, getD_in _ _ _ hlt2, i64P, et]); (try (refine xsu ?_; try exact xtI))))
    ·(iterate 2 ((try simp (etaStruct := .none) only [push_cast, DrawG, seval, getD_in _ _ _ hlt, celP, getD_in _ _ _ hlt2, i64P, et]); (try (refine xsu ?_; try exact xtI))))
  ·(try replace h2 := xhh h2)
   obtain rfl : k = w.bases.length := by omega
   have e : playersV w = true := by unfold playersV; rw [decide_eq_true hls, hn]; rfl
   (try (refine xst ?_; try exact xtI))
   (first | (refine retA rfl (Wk.of ?_); (try simp (etaStruct := .none) only [push_cast, DrawG, seval]); first | done | (simp [e, *]; done) | (simp_all [e]; done)) | (refine retA rfl ?_; (try simp (etaStruct := .none) only [push_cast, DrawG, seval]); (try simp [e, *]); (try exact wkc)))
theorem tmines_s (w : Wld) (hl : wldL w) : Spec Tryz.prog 91 [wldA w] [] (B (minesV w)) [] := by
 obtain ⟨l1, l2, l3, l4, l5⟩ := hl
 refine spec_am Tryz.func91 rfl rfl mix 38 rfl [.tmp 2] Tryz.results91 (Nat.le_of_ble_eq_true rfl) ?_
 (try (refine xst ?_; try exact xtI))
 refine cond_i (fun h1 => ?_) (fun h1 => ?_)
 ·(try replace h1 := xhh h1)
  have e : minesV w = false := by unfold minesV; rw [decide_eq_false (by omega)]; rfl
  (try (refine xst ?_; try exact xtI))
  (first | (refine retA rfl (Wk.of ?_); (try simp (etaStruct := .none) only [push_cast, DrawG, seval]); first | done | (simp [e, *]; done) | (simp_all [e]; done)) | (refine retA rfl ?_; (try simp (etaStruct := .none) only [push_cast, DrawG, seval]); (try simp [e, *]); (try exact wkc)))
 ·(try replace h1 := xhh h1)
  have hls : w.mines.length = w.f.p.length := by omega
  (try (refine xst ?_; try exact xtI))
  refine loopI (fun k : Nat => ⟨[(16, I .i64 k), (15, I .i64 w.mines.length), (14, .c (.sl 1 (w.mines.map i64P))), (1, .ptr 0 0 0)], [(0, .blk 28 (wldC w))], 1⟩) (fun k : Nat => k ≤ w.mines.length ∧ allN (mineB w) k = true) (fun k : Nat => w.mines.length - k) (0) (⟨Nat.zero_le _, rfl⟩) (To.mk [0] rfl rfl (by decide) ?_ ?_) ?_
  ·simp (etaStruct := .none) only [push_cast, DrawG, seval]
  ·simp (etaStruct := .none) only [push_cast, DrawG, seval]
  rintro k ⟨hk, hn⟩
  (try (refine xst ?_; try exact xtI))
  refine cond_i (fun h2 => ?_) (fun h2 => ?_)
  ·(try replace h2 := xhh h2)
   have hlt : k < w.mines.length := by omega
   have hlt2 : k < w.f.p.length := by omega
   (iterate 2 ((try simp (etaStruct := .none) only [push_cast, DrawG, seval, getD_in _ _ _ hlt, getD_in _ _ _ hlt2, i64P]); (try (refine xsu ?_; try exact xtI))))
   refine caP (twithin_s (w.mines.getD k default) 0 1000000) ?_
   (iterate 2 ((try simp (etaStruct := .none) only [push_cast, DrawG, seval, getD_in _ _ _ hlt, getD_in _ _ _ hlt2, i64P]); (try (refine xsu ?_; try exact xtI))))
   refine cond_i (fun h3 => ?_) (fun h3 => ?_)
   ·(try replace h3 := xhh h3)
    have e0 : mineB w k = false := by
     unfold mineB
     rcases h3 with h | ⟨h, h'⟩
     ·rw [h]; rfl
     ·rw [decide_eq_false (by omega), decide_eq_false (by omega)]; simp
    have e : minesV w = false := by unfold minesV; rw [allN_not hlt e0]; simp
    (iterate 2 ((try simp (etaStruct := .none) only [push_cast, DrawG, seval, getD_in _ _ _ hlt, getD_in _ _ _ hlt2, i64P]); (try (refine xsu ?_; try exact xtI))))
    (first | (refine retA rfl (Wk.of ?_); (try simp (etaStruct := .none) only [push_cast, DrawG, seval]); first | done | (simp [e, *]; done) | (simp_all [e]; done)) | (refine retA rfl ?_; (try simp (etaStruct := .none) only [push_cast, DrawG, seval]); (try simp [e, *]); (try exact wkc)))
   ·(try replace h3 := xhh h3)
    have e0 : mineB w k = true := by
     unfold mineB
     rw [h3.1]
     have := within_iff.1 h3.1
     simp only [Bool.true_and, Bool.or_eq_true, decide_eq_true_eq]
     omega
    (iterate 2 ((try simp (etaStruct := .none) only [push_cast, DrawG, seval, getD_in _ _ _ hlt, getD_in _ _ _ hlt2, i64P]); (try (refine xsu ?_; try exact xtI))))
    refine ⟨k + 1, ⟨by omega, by rw [allN, hn, e0]; rfl⟩, by omega, To.mk [0] rfl rfl (by decide) ?_ ?_⟩
    ·(iterate 2 ((try simp (etaStruct := .none) only [push_cast, DrawG, seval, getD_in _ _ _ hlt, getD_in _ _ _ hlt2, i64P]); (try (refine xsu ?_; try exact xtI))))
    ·(iterate 2 ((try simp (etaStruct := .none) only [push_cast, DrawG, seval, getD_in _ _ _ hlt, getD_in _ _ _ hlt2, i64P]); (try (refine xsu ?_; try exact xtI))))
  ·(try replace h2 := xhh h2)
   obtain rfl : k = w.mines.length := by omega
   have e : minesV w = true := by unfold minesV; rw [decide_eq_true hls, hn]; rfl
   (try (refine xst ?_; try exact xtI))
   (first | (refine retA rfl (Wk.of ?_); (try simp (etaStruct := .none) only [push_cast, DrawG, seval]); first | done | (simp [e, *]; done) | (simp_all [e]; done)) | (refine retA rfl ?_; (try simp (etaStruct := .none) only [push_cast, DrawG, seval]); (try simp [e, *]); (try exact wkc)))
def lastV (w : Wld) (i : Nat) : Int := if i = 0 then 0 else (w.troops.getD (i - 1) default).id
theorem lastV_0 (w : Wld) : lastV w 0 = 0 := rfl
theorem lastV_s (w : Wld) (k : Nat) : lastV w (k + 1) = (w.troops.getD k default).id := by simp [lastV]
def seenC (w : Wld) (k : Nat) (c : Cel) : Bool := !allN (fun j => !decide ((w.troops.getD j default).c = c)) k
theorem seenC_0 (w : Wld) (c : Cel) : seenC w 0 c = false := rfl
theorem seenC_succ (w : Wld) (k : Nat) (c : Cel) : seenC w (k + 1) c = (seenC w k c || decide ((w.troops.getD k default).c = c)) := by
 unfold seenC; rw [allN]; simp [Bool.not_and]
theorem and_all (p q : Nat → Bool) : ∀ n, allN (fun j => p j && q j) n = (allN p n && allN q n)
 | 0 => rfl
 | n + 1 => by
  rw [allN, allN, allN, and_all p q n]
  cases allN p n <;> cases allN q n <;> cases p n <;> cases q n <;> rfl
theorem last_all {w : Wld} {k : Nat} (h : allN (troopB w) k = true) (t : Trp) : 0 ≤ lastV w k ∧ (lastV w k < t.id ↔ 1 ≤ t.id ∧ allN (fun j => decide ((w.troops.getD j default).id < t.id)) k = true) := by
 have hh := (allN_iff _ _).1 h
 cases k with
 | zero => simp [lastV, allN]; omega
 | succ k =>
  have hk := hh k (by omega)
  unfold troopB trp1 trp2 at hk
  simp only [Bool.and_eq_true, and_all, within_iff] at hk
  have h2 := (allN_iff _ _).1 hk.2.2.1
  have el : lastV w (k + 1) = (w.troops.getD k default).id := by simp [lastV]
  rw [el, allN_iff]
  refine ⟨by omega, fun h3 => ⟨by omega, fun j hj => ?_⟩, fun h3 => ?_⟩
  ·rw [decide_eq_true_eq]
   rcases Nat.lt_or_ge j k with h4 | h4
   ·have := h2 j h4
    rw [decide_eq_true_eq] at this; omega
   ·rw [show j = k by omega]; exact h3
  ·have := h3.2 k (by omega)
   rwa [decide_eq_true_eq] at this
theorem troopB_eq {w : Wld} {k : Nat} (h : allN (troopB w) k = true) : troopB w k = (within (w.troops.getD k default).kind 1 2 && within (w.troops.getD k default).id (lastV w k + 1) (w.next - 1) && within (w.troops.getD k default).owner 0 ((w.bases.length : Int) - 1) && groundV w.f (w.troops.getD k default).c && within (w.troops.getD k default).life 1 (kindV (w.troops.getD k default).kind).life && within (w.troops.getD k default).load 0 (5 * (2 - (w.troops.getD k default).kind)) && !seenC w k (w.troops.getD k default).c) := by
 obtain ⟨_, h2⟩ := last_all h (w.troops.getD k default)
 unfold troopB trp1 trp2 seenC
 rw [and_all, Bool.not_not]
 have e : within (w.troops.getD k default).id (lastV w k + 1) (w.next - 1) = (within (w.troops.getD k default).id 1 (w.next - 1) && allN (fun j => decide ((w.troops.getD j default).id < (w.troops.getD k default).id)) k) := by
  rw [Bool.eq_iff_iff, Bool.and_eq_true, within_iff, within_iff]
  constructor
  ·rintro ⟨a, b⟩
   have := h2.1 (by omega)
   exact ⟨⟨this.1, b⟩, this.2⟩
  ·rintro ⟨⟨a, b⟩, c⟩
   have := h2.2 ⟨a, c⟩
   exact ⟨by omega, b⟩
 rw [e]
 cases within (w.troops.getD k default).kind 1 2 <;> cases within (w.troops.getD k default).id 1 (w.next - 1) <;> cases within (w.troops.getD k default).owner 0 ((w.bases.length : Int) - 1) <;> cases groundV w.f (w.troops.getD k default).c <;> cases within (w.troops.getD k default).life 1 (kindV (w.troops.getD k default).kind).life <;> cases within (w.troops.getD k default).load 0 (5 * (2 - (w.troops.getD k default).kind)) <;> simp
theorem kind_f {k : Int} (h : ¬ kindE k = 0) : within k 1 2 = false := by
 rw [within_f]; unfold kindE at h; split at h <;> omega
theorem kind_t {k : Int} (h : kindE k = 0) : within k 1 2 = true := by
 rw [within_iff]; unfold kindE at h; split at h <;> omega
theorem kind_load {k : Int} (h : within k 1 2 = true) : 5 * (2 - k) = if k = 1 then 5 else 0 := by
 rw [within_iff] at h; split <;> omega
def tkeyC (c : Cel) : List Int := [c.x, c.y]
theorem tkeyC_inj {a b : Cel} : tkeyC a = tkeyC b ↔ a = b := by
 cases a; cases b; simp [tkeyC]
theorem ttroops_s (w : Wld) (hl : wldL w) (hf : fldE w.f = 0) (hn1 : within w.next 1 1000000 = true) (hn2 : within w.now 0 1000000 = true) : Spec Tryz.prog 92 [wldA w] [] (B (troopsV w)) [] := by
 obtain ⟨l1, l2, l3, l4, l5⟩ := hl
 have hnx := within_iff.1 hn1
 refine spec_am Tryz.func92 rfl rfl mix 96 rfl [.tmp 2] Tryz.results92 (Nat.le_of_ble_eq_true rfl) ?_
 (iterate 2 ((try simp (etaStruct := .none) only [push_cast, DrawG, seval, beq_self_eq_true]); (try (refine xsu ?_; try exact xtI))))
 refine loopI (fun x : Nat × List (List Int × Int) => ⟨[(14, I .i64 x.1), (13, I .i64 w.troops.length), (12, .c (.sl 7 (w.troops.map trpP))), (4, .map 1), (3, I .i64 (lastV w x.1)), (1, .ptr 0 0 0)], [(0, .blk 28 (wldC w)), (1, .mp true 2 x.2)], 2⟩) (fun x : Nat × List (List Int × Int) => x.1 ≤ w.troops.length ∧ allN (troopB w) x.1 = true ∧ (∀ c : Cel, mget (tkeyC c) x.2 = if seenC w x.1 c then 1 else 0)) (fun x : Nat × List (List Int × Int) => w.troops.length - x.1) ((0, [])) (⟨Nat.zero_le _, rfl, fun c => by rw [seenC_0]; rfl⟩) (To.mk [0, 1] rfl rfl (by decide) ?_ ?_) ?_
 ·simp (etaStruct := .none) only [push_cast, DrawG, seval]
 ·simp (etaStruct := .none) only [push_cast, DrawG, seval, lastV_0]
 rintro ⟨k, es⟩ ⟨hk, hn, hm⟩
 simp only at hk hn hm
 (iterate 2 ((try simp (etaStruct := .none) only [push_cast, DrawG, seval, beq_self_eq_true]); (try (refine xsu ?_; try exact xtI))))
 refine cond_i (fun h1 => ?_) (fun h1 => ?_)
 ·(try replace h1 := xhh h1)
  have hlt : k < w.troops.length := by omega
  have hla := (last_all hn (w.troops.getD k default)).1
  have hla2 : lastV w k ≤ 1000000 := by
   unfold lastV
   split
   ·omega
   ·have := (allN_iff _ _).1 hn (k - 1) (by omega)
    unfold troopB trp1 at this
    simp only [Bool.and_eq_true, within_iff] at this
    omega
  (iterate 2 ((try simp (etaStruct := .none) only [push_cast, DrawG, seval, beq_self_eq_true, getD_in _ _ _ hlt, trpP]); (try (refine xsu ?_; try exact xtI))))
  refine caP (tkind_s (w.troops.getD k default).kind) ?_
  (iterate 2 ((try simp (etaStruct := .none) only [push_cast, DrawG, seval, beq_self_eq_true, getD_in _ _ _ hlt, trpP]); (try (refine xsu ?_; try exact xtI))))
  refine cond_j (fun _u : Unit => ⟨[(14, I .i64 k), (13, I .i64 w.troops.length), (12, .c (.sl 7 (w.troops.map trpP))), (9, I .i64 (if (w.troops.getD k default).kind = 1 then 5 else 0)), (8, I .i64 (kindE (w.troops.getD k default).kind)), (7, .ptr 3 0 0), (6, .ptr 2 0 0), (4, .map 1), (3, I .i64 (lastV w k)), (1, .ptr 0 0 0)], [(0, .blk 28 (wldC w)), (1, .mp true 2 es), (2, .blk 83 (trpC (w.troops.getD k default))), (3, .blk 85 [I .i64 (kindV (w.troops.getD k default).kind).life, I .i64 (kindV (w.troops.getD k default).kind).blow, I .i64 (kindV (w.troops.getD k default).kind).load, I .i64 (kindV (w.troops.getD k default).kind).price])], 4⟩) (fun _u : Unit => Tr) (fun h2 => ?_) (fun h2 => ?_) ?_
  ·(try replace h2 := xhh h2)
   (iterate 2 ((try simp (etaStruct := .none) only [push_cast, DrawG, seval, beq_self_eq_true, getD_in _ _ _ hlt, trpP]); (try (refine xsu ?_; try exact xtI))))
   refine ⟨(), trI, To.mk [0, 1, 2, 3] rfl rfl (by decide) ?_ ?_⟩
   ·(iterate 2 ((try simp (etaStruct := .none) only [push_cast, DrawG, seval, beq_self_eq_true, getD_in _ _ _ hlt, trpP]); (try (refine xsu ?_; try exact xtI))))
   ·(iterate 2 ((try simp (etaStruct := .none) only [push_cast, DrawG, seval, if_pos h2]); (try (refine xsu ?_; try exact xtI))))
  ·(try replace h2 := xhh h2)
   (iterate 2 ((try simp (etaStruct := .none) only [push_cast, DrawG, seval, beq_self_eq_true, getD_in _ _ _ hlt, trpP]); (try (refine xsu ?_; try exact xtI))))
   refine ⟨(), trI, To.mk [0, 1, 2, 3] rfl rfl (by decide) ?_ ?_⟩
   ·(iterate 2 ((try simp (etaStruct := .none) only [push_cast, DrawG, seval, beq_self_eq_true, getD_in _ _ _ hlt, trpP]); (try (refine xsu ?_; try exact xtI))))
   ·(iterate 2 ((try simp (etaStruct := .none) only [push_cast, DrawG, seval, if_neg h2]); (try (refine xsu ?_; try exact xtI))))
  ·rintro _ _
   (iterate 2 ((try simp (etaStruct := .none) only [push_cast, DrawG, seval, beq_self_eq_true, getD_in _ _ _ hlt, trpP]); (try (refine xsu ?_; try exact xtI))))
   refine gcP (fun hcc => twithin_s (w.troops.getD k default).id (lastV w k + 1) (w.next - 1)) ?_
   (iterate 2 ((try simp (etaStruct := .none) only [push_cast, DrawG, seval, beq_self_eq_true, getD_in _ _ _ hlt, trpP]); (try (refine xsu ?_; try exact xtI))))
   refine gcP (fun hcc => twithin_s (w.troops.getD k default).owner 0 ((w.bases.length : Int) - 1)) ?_
   (iterate 2 ((try simp (etaStruct := .none) only [push_cast, DrawG, seval, beq_self_eq_true, getD_in _ _ _ hlt, trpP]); (try (refine xsu ?_; try exact xtI))))
   refine gcP (fun hcc => tground_s w.f (w.troops.getD k default).c hf l1) ?_
   (iterate 2 ((try simp (etaStruct := .none) only [push_cast, DrawG, seval, beq_self_eq_true, getD_in _ _ _ hlt, trpP]); (try (refine xsu ?_; try exact xtI))))
   refine gcP (fun hcc => twithin_s (w.troops.getD k default).life 1 (kindV (w.troops.getD k default).kind).life) ?_
   (iterate 2 ((try simp (etaStruct := .none) only [push_cast, DrawG, seval, beq_self_eq_true, getD_in _ _ _ hlt, trpP]); (try (refine xsu ?_; try exact xtI))))
   refine gcP (fun hcc => twithin_s (w.troops.getD k default).load 0 (if (w.troops.getD k default).kind = 1 then 5 else 0)) ?_
   (iterate 2 ((try simp (etaStruct := .none) only [push_cast, DrawG, seval, beq_self_eq_true, getD_in _ _ _ hlt, trpP]); (try (refine xsu ?_; try exact xtI))))
   refine cond_i (fun h3 => ?_) (fun h3 => ?_)
   ·(try replace h3 := xhh h3)
    have e0 : troopB w k = false := by
     rw [troopB_eq hn]
     rcases h3 with ((((h | h) | h) | h) | h) | h
     ·rw [kind_f h]; rfl
     ·rw [h]; simp
     ·rw [h]; simp
     ·rw [h]; simp
     ·rw [h]; simp
     ·cases hkk : within (w.troops.getD k default).kind 1 2 with
      | false => rfl
      | true => rw [kind_load hkk, h]; simp
    have e : troopsV w = false := by unfold troopsV; rw [allN_not hlt e0]; simp
    (iterate 2 ((try simp (etaStruct := .none) only [push_cast, DrawG, seval, beq_self_eq_true, getD_in _ _ _ hlt, trpP]); (try (refine xsu ?_; try exact xtI))))
    (first | (refine retA rfl (Wk.of ?_); (try simp (etaStruct := .none) only [push_cast, DrawG, seval]); first | done | (simp [e, *]; done) | (simp_all [e]; done)) | (refine retA rfl ?_; (try simp (etaStruct := .none) only [push_cast, DrawG, seval]); (try simp [e, *]); (try exact wkc)))
   ·(try replace h3 := xhh h3)
    have hkk := kind_t h3.1.1.1.1.1
    have e0 : troopB w k = !seenC w k (w.troops.getD k default).c := by
     rw [troopB_eq hn, hkk, kind_load hkk, h3.1.1.1.1.2, h3.1.1.1.2, h3.1.1.2, h3.1.2, h3.2]; rfl
    have hg : mget [(w.troops.getD k default).c.x, (w.troops.getD k default).c.y] es = if seenC w k (w.troops.getD k default).c = true then 1 else 0 := hm (w.troops.getD k default).c
    have hg2 : 0 ≤ mget [(w.troops.getD k default).c.x, (w.troops.getD k default).c.y] es ∧ mget [(w.troops.getD k default).c.x, (w.troops.getD k default).c.y] es ≤ 1 := by rw [hg]; split <;> omega
    obtain ⟨es', hes'⟩ : ∃ es', es' = mput [(w.troops.getD k default).c.x, (w.troops.getD k default).c.y] (mget [(w.troops.getD k default).c.x, (w.troops.getD k default).c.y] es + 1) es := ⟨_, rfl⟩
    have hp1 := mget_put [(w.troops.getD k default).c.x, (w.troops.getD k default).c.y] (mget [(w.troops.getD k default).c.x, (w.troops.getD k default).c.y] es + 1) es
    have hp2 := fun c => mget_put_if [(w.troops.getD k default).c.x, (w.troops.getD k default).c.y] (tkeyC c) (mget [(w.troops.getD k default).c.x, (w.troops.getD k default).c.y] es + 1) es
    rw [← hes'] at hp1 hp2
    have hmp := mpos_lt [(w.troops.getD k default).c.x, (w.troops.getD k default).c.y] es
    (iterate 2 ((try simp (etaStruct := .none) only [push_cast, DrawG, seval, beq_self_eq_true, getD_in _ _ _ hlt, trpP, mput_def, ← hes', hp1]); (try (refine xsu ?_; try exact xtI))))
    (try (refine ⟨by kernel_rfl, ?_⟩))
    (iterate 2 ((try simp (etaStruct := .none) only [push_cast, DrawG, seval, beq_self_eq_true, getD_in _ _ _ hlt, trpP, mput_def, ← hes', hp1]); (try (refine xsu ?_; try exact xtI))))
    refine cond_i (fun h4 => ?_) (fun h4 => ?_)
    ·(try replace h4 := xhh h4)
     have hs : seenC w k (w.troops.getD k default).c = true := by
      cases hs : seenC w k (w.troops.getD k default).c with
      | true => rfl
      | false => rw [hg, hs] at h4; simp at h4
     have e : troopsV w = false := by unfold troopsV; rw [allN_not hlt (by rw [e0, hs]; rfl)]; simp
     (iterate 2 ((try simp (etaStruct := .none) only [push_cast, DrawG, seval, beq_self_eq_true, getD_in _ _ _ hlt, trpP, mput_def, ← hes', hp1]); (try (refine xsu ?_; try exact xtI))))
     (first | (refine retA rfl (Wk.of ?_); (try simp (etaStruct := .none) only [push_cast, DrawG, seval]); first | done | (simp [e, *]; done) | (simp_all [e]; done)) | (refine retA rfl ?_; (try simp (etaStruct := .none) only [push_cast, DrawG, seval]); (try simp [e, *]); (try exact wkc)))
    ·(try replace h4 := xhh h4)
     have hs : seenC w k (w.troops.getD k default).c = false := by
      cases hs : seenC w k (w.troops.getD k default).c with
      | false => rfl
      | true => rw [hg, hs] at h4; simp at h4
     (iterate 2 ((try simp (etaStruct := .none) only [push_cast, DrawG, seval, beq_self_eq_true, getD_in _ _ _ hlt, trpP, mput_def, ← hes', hp1]); (try (refine xsu ?_; try exact xtI))))
     refine ⟨(k + 1, es'), ⟨by simp only; omega, by simp only; rw [allN, hn, e0, hs]; rfl, fun c => by
 simp only
 rw [hp2 c, seenC_succ, hg, hs]
 by_cases hc : (w.troops.getD k default).c = c
 ·rw [if_pos (show tkeyC c = [(w.troops.getD k default).c.x, (w.troops.getD k default).c.y] from tkeyC_inj.2 hc.symm), decide_eq_true hc]; simp
 ·rw [if_neg (show ¬ tkeyC c = [(w.troops.getD k default).c.x, (w.troops.getD k default).c.y] from fun h => hc (tkeyC_inj.1 h).symm), decide_eq_false hc, hm c, Bool.or_false]⟩, by simp only; omega, To.mk [0, 1] rfl rfl (by decide) ?_ ?_⟩
     ·(iterate 2 ((try simp (etaStruct := .none) only [push_cast, DrawG, seval, beq_self_eq_true, getD_in _ _ _ hlt, trpP, mput_def, ← hes', hp1]); (try (refine xsu ?_; try exact xtI))))
     ·(iterate 2 ((try simp (etaStruct := .none) only [push_cast, DrawG, seval, lastV_s]); (try (refine xsu ?_; try exact xtI))))
 ·(try replace h1 := xhh h1)
  obtain rfl : k = w.troops.length := by omega
  have e : troopsV w = true := by unfold troopsV; rw [hn1, hn2, hn]; rfl
  (iterate 2 ((try simp (etaStruct := .none) only [push_cast, DrawG, seval, beq_self_eq_true]); (try (refine xsu ?_; try exact xtI))))
  refine caP (twithin_s w.next 1 1000000) ?_
  (iterate 2 ((try simp (etaStruct := .none) only [push_cast, DrawG, seval, beq_self_eq_true]); (try (refine xsu ?_; try exact xtI))))
  refine gcP (fun hcc => twithin_s w.now 0 1000000) ?_
  (iterate 2 ((try simp (etaStruct := .none) only [push_cast, DrawG, seval, beq_self_eq_true]); (try (refine xsu ?_; try exact xtI))))
  exact ret0 rfl trivial (Wk.of (by rw [e, hn1, hn2]; rfl))
theorem ttroops_bad (w : Wld) (hl : wldL w) (hf : fldE w.f = 0) (hb : (within w.next 1 1000000 && within w.now 0 1000000) = false) : Spec Tryz.prog 92 [wldA w] [] (B (troopsV w)) [] := by
 obtain ⟨l1, l2, l3, l4, l5⟩ := hl
 have e : troopsV w = false := by unfold troopsV; rw [hb]; rfl
 refine spec_am Tryz.func92 rfl rfl mix 96 rfl [.tmp 2] Tryz.results92 (Nat.le_of_ble_eq_true rfl) ?_
 (iterate 2 ((try simp (etaStruct := .none) only [push_cast, DrawG, seval, beq_self_eq_true]); (try (refine xsu ?_; try exact xtI))))
 refine loopI (fun x : Nat × Int × List (List Int × Int) => ⟨[(14, I .i64 x.1), (13, I .i64 w.troops.length), (12, .c (.sl 7 (w.troops.map trpP))), (4, .map 1), (3, I .i64 x.2.1), (1, .ptr 0 0 0)], [(0, .blk 28 (wldC w)), (1, .mp true 2 x.2.2)], 2⟩) (fun x : Nat × Int × List (List Int × Int) => x.1 ≤ w.troops.length) (fun x : Nat × Int × List (List Int × Int) => w.troops.length - x.1) ((0, 0, [])) (Nat.zero_le _) (To.mk [0, 1] rfl rfl (by decide) ?_ ?_) ?_
 ·simp (etaStruct := .none) only [push_cast, DrawG, seval]
 ·simp (etaStruct := .none) only [push_cast, DrawG, seval]
 rintro ⟨k, last, es⟩ hk
 simp only at hk
 (iterate 2 ((try simp (etaStruct := .none) only [push_cast, DrawG, seval, beq_self_eq_true]); (try (refine xsu ?_; try exact xtI))))
 refine cond_i (fun h1 => ?_) (fun h1 => ?_)
 ·(try replace h1 := xhh h1)
  have hlt : k < w.troops.length := by omega
  (iterate 2 ((try simp (etaStruct := .none) only [push_cast, DrawG, seval, beq_self_eq_true, getD_in _ _ _ hlt, trpP]); (try (refine xsu ?_; try exact xtI))))
  refine caP (tkind_s (w.troops.getD k default).kind) ?_
  (iterate 2 ((try simp (etaStruct := .none) only [push_cast, DrawG, seval, beq_self_eq_true, getD_in _ _ _ hlt, trpP]); (try (refine xsu ?_; try exact xtI))))
  refine cond_j (fun m : Int => ⟨[(14, I .i64 k), (13, I .i64 w.troops.length), (12, .c (.sl 7 (w.troops.map trpP))), (9, I .i64 m), (8, I .i64 (kindE (w.troops.getD k default).kind)), (7, .ptr 3 0 0), (6, .ptr 2 0 0), (4, .map 1), (3, I .i64 last), (1, .ptr 0 0 0)], [(0, .blk 28 (wldC w)), (1, .mp true 2 es), (2, .blk 83 (trpC (w.troops.getD k default))), (3, .blk 85 [I .i64 (kindV (w.troops.getD k default).kind).life, I .i64 (kindV (w.troops.getD k default).kind).blow, I .i64 (kindV (w.troops.getD k default).kind).load, I .i64 (kindV (w.troops.getD k default).kind).price])], 4⟩) (fun m : Int => Tr) (fun h2 => ?_) (fun h2 => ?_) ?_
  ·(try replace h2 := xhh h2)
   (iterate 2 ((try simp (etaStruct := .none) only [push_cast, DrawG, seval, beq_self_eq_true, getD_in _ _ _ hlt, trpP]); (try (refine xsu ?_; try exact xtI))))
   refine ⟨5, trI, To.mk [0, 1, 2, 3] rfl rfl (by decide) ?_ ?_⟩
   ·(iterate 2 ((try simp (etaStruct := .none) only [push_cast, DrawG, seval, beq_self_eq_true, getD_in _ _ _ hlt, trpP]); (try (refine xsu ?_; try exact xtI))))
   ·(iterate 2 ((try simp (etaStruct := .none) only [push_cast, DrawG, seval, beq_self_eq_true, getD_in _ _ _ hlt, trpP]); (try (refine xsu ?_; try exact xtI))))
  ·(try replace h2 := xhh h2)
   (iterate 2 ((try simp (etaStruct := .none) only [push_cast, DrawG, seval, beq_self_eq_true, getD_in _ _ _ hlt, trpP]); (try (refine xsu ?_; try exact xtI))))
   refine ⟨0, trI, To.mk [0, 1, 2, 3] rfl rfl (by decide) ?_ ?_⟩
   ·(iterate 2 ((try simp (etaStruct := .none) only [push_cast, DrawG, seval, beq_self_eq_true, getD_in _ _ _ hlt, trpP]); (try (refine xsu ?_; try exact xtI))))
   ·(iterate 2 ((try simp (etaStruct := .none) only [push_cast, DrawG, seval, beq_self_eq_true, getD_in _ _ _ hlt, trpP]); (try (refine xsu ?_; try exact xtI))))
  ·rintro m _
   (iterate 2 ((try simp (etaStruct := .none) only [push_cast, DrawG, seval, beq_self_eq_true, getD_in _ _ _ hlt, trpP]); (try (refine xsu ?_; try exact xtI))))
   refine gcP (fun hcc => twithin_s (w.troops.getD k default).id _ _) ?_
   (iterate 2 ((try simp (etaStruct := .none) only [push_cast, DrawG, seval, beq_self_eq_true, getD_in _ _ _ hlt, trpP]); (try (refine xsu ?_; try exact xtI))))
   refine gcP (fun hcc => twithin_s (w.troops.getD k default).owner 0 ((w.bases.length : Int) - 1)) ?_
   (iterate 2 ((try simp (etaStruct := .none) only [push_cast, DrawG, seval, beq_self_eq_true, getD_in _ _ _ hlt, trpP]); (try (refine xsu ?_; try exact xtI))))
   refine gcP (fun hcc => tground_s w.f (w.troops.getD k default).c hf l1) ?_
   (iterate 2 ((try simp (etaStruct := .none) only [push_cast, DrawG, seval, beq_self_eq_true, getD_in _ _ _ hlt, trpP]); (try (refine xsu ?_; try exact xtI))))
   refine gcP (fun hcc => twithin_s (w.troops.getD k default).life 1 (kindV (w.troops.getD k default).kind).life) ?_
   (iterate 2 ((try simp (etaStruct := .none) only [push_cast, DrawG, seval, beq_self_eq_true, getD_in _ _ _ hlt, trpP]); (try (refine xsu ?_; try exact xtI))))
   refine gcP (fun hcc => twithin_s (w.troops.getD k default).load 0 m) ?_
   (iterate 2 ((try simp (etaStruct := .none) only [push_cast, DrawG, seval, beq_self_eq_true, getD_in _ _ _ hlt, trpP]); (try (refine xsu ?_; try exact xtI))))
   refine cond_i (fun h3 => ?_) (fun h3 => ?_)
   ·(try replace h3 := xhh h3)
    (iterate 2 ((try simp (etaStruct := .none) only [push_cast, DrawG, seval, beq_self_eq_true, getD_in _ _ _ hlt, trpP]); (try (refine xsu ?_; try exact xtI))))
    (first | (refine retA rfl (Wk.of ?_); (try simp (etaStruct := .none) only [push_cast, DrawG, seval]); first | done | (simp [e, *]; done) | (simp_all [e]; done)) | (refine retA rfl ?_; (try simp (etaStruct := .none) only [push_cast, DrawG, seval]); (try simp [e, *]); (try exact wkc)))
   ·(try replace h3 := xhh h3)
    have hmp := mpos_lt [(w.troops.getD k default).c.x, (w.troops.getD k default).c.y] es
    (iterate 2 ((try simp (etaStruct := .none) only [push_cast, DrawG, seval, beq_self_eq_true, getD_in _ _ _ hlt, trpP, mput_def]); (try (refine xsu ?_; try exact xtI))))
    (try (refine ⟨by kernel_rfl, ?_⟩))
    (iterate 2 ((try simp (etaStruct := .none) only [push_cast, DrawG, seval, beq_self_eq_true, getD_in _ _ _ hlt, trpP, mput_def]); (try (refine xsu ?_; try exact xtI))))
    refine cond_i (fun h4 => ?_) (fun h4 => ?_)
    ·(try replace h4 := xhh h4)
     (iterate 2 ((try simp (etaStruct := .none) only [push_cast, DrawG, seval, beq_self_eq_true, getD_in _ _ _ hlt, trpP, mput_def]); (try (refine xsu ?_; try exact xtI))))
     (first | (refine retA rfl (Wk.of ?_); (try simp (etaStruct := .none) only [push_cast, DrawG, seval]); first | done | (simp [e, *]; done) | (simp_all [e]; done)) | (refine retA rfl ?_; (try simp (etaStruct := .none) only [push_cast, DrawG, seval]); (try simp [e, *]); (try exact wkc)))
    ·(try replace h4 := xhh h4)
     (iterate 2 ((try simp (etaStruct := .none) only [push_cast, DrawG, seval, beq_self_eq_true, getD_in _ _ _ hlt, trpP, mput_def]); (try (refine xsu ?_; try exact xtI))))
     refine ⟨(k + 1, (w.troops.getD k default).id, mput [(w.troops.getD k default).c.x, (w.troops.getD k default).c.y] (IntKind.i64.wrap (mget [(w.troops.getD k default).c.x, (w.troops.getD k default).c.y] es + 1)) es), by simp only; omega, by simp only; omega, To.mk [0, 1] rfl rfl (by decide) ?_ ?_⟩
     ·(iterate 2 ((try simp (etaStruct := .none) only [push_cast, DrawG, seval, beq_self_eq_true, getD_in _ _ _ hlt, trpP, mput_def]); (try (refine xsu ?_; try exact xtI))))
     ·(iterate 2 ((try simp (etaStruct := .none) only [push_cast, DrawG, seval, beq_self_eq_true, getD_in _ _ _ hlt, trpP, mput_def]); (try (refine xsu ?_; try exact xtI))))
 ·(try replace h1 := xhh h1)
  (iterate 2 ((try simp (etaStruct := .none) only [push_cast, DrawG, seval, beq_self_eq_true]); (try (refine xsu ?_; try exact xtI))))
  refine caP (twithin_s w.next 1 1000000) ?_
  (iterate 2 ((try simp (etaStruct := .none) only [push_cast, DrawG, seval, beq_self_eq_true]); (try (refine xsu ?_; try exact xtI))))
  refine gcP (fun hcc => twithin_s w.now 0 1000000) ?_
  (iterate 2 ((try simp (etaStruct := .none) only [push_cast, DrawG, seval, beq_self_eq_true]); (try (refine xsu ?_; try exact xtI))))
  exact ret0 rfl trivial (Wk.of (by rw [e, hb]; rfl))
theorem ttroops_all (w : Wld) (hl : wldL w) (hf : fldE w.f = 0) : Spec Tryz.prog 92 [wldA w] [] (B (troopsV w)) [] := by
 cases hb : (within w.next 1 1000000 && within w.now 0 1000000) with
 | false => exact ttroops_bad w hl hf hb
 | true => rw [Bool.and_eq_true] at hb; exact ttroops_s w hl hf hb.1 hb.2
theorem tcheck_s (w : Wld) (hl : wldL w) : Spec Tryz.prog 58 [wldA w] [] (I .i64 (worldE w)) [] := by
 refine spec_am Tryz.func58 rfl rfl mix 33 rfl [.tmp 2] Tryz.results58 (Nat.le_of_ble_eq_true rfl) ?_
 (try (refine xst ?_; try exact xtI))
 refine caP (fcheck_s w.f hl.1) ?_
 (try (refine xst ?_; try exact xtI))
 refine cond_i (fun h1 => ?_) (fun h1 => ?_)
 ·(try replace h1 := xhh h1)
  have e : worldE w = fldE w.f := by unfold worldE; rw [if_pos (by simpa using h1)]
  (try (refine xst ?_; try exact xtI))
  (first | (refine retA rfl (Wk.of ?_); (try simp (etaStruct := .none) only [push_cast, DrawG, seval]); first | done | (simp [e, *]; done) | (simp_all [e]; done)) | (refine retA rfl ?_; (try simp (etaStruct := .none) only [push_cast, DrawG, seval]); (try simp [e, *]); (try exact wkc)))
 ·(try replace h1 := xhh h1)
  have hf : fldE w.f = 0 := by simpa using h1
  (try (refine xst ?_; try exact xtI))
  refine cond_i (fun h2 => ?_) (fun h2 => ?_)
  ·(try replace h2 := xhh h2)
   have e : worldE w = 2 := by unfold worldE; rw [if_neg (by simp [hf]), if_pos (by omega)]
   (try (refine xst ?_; try exact xtI))
   (first | (refine retA rfl (Wk.of ?_); (try simp (etaStruct := .none) only [push_cast, DrawG, seval]); first | done | (simp [e, *]; done) | (simp_all [e]; done)) | (refine retA rfl ?_; (try simp (etaStruct := .none) only [push_cast, DrawG, seval]); (try simp [e, *]); (try exact wkc)))
  ·(try replace h2 := xhh h2)
   have hb : ¬ (8 < w.bases.length ∨ 100 < w.troops.length) := by omega
   (try (refine xst ?_; try exact xtI))
   refine caP (tplayers_s w hl hf) ?_
   (try (refine xst ?_; try exact xtI))
   refine gcP (fun hcc => tmines_s w hl) ?_
   (try (refine xst ?_; try exact xtI))
   refine gcP (fun hcc => ttroops_all w hl hf) ?_
   (try (refine xst ?_; try exact xtI))
   refine cond_i (fun h3 => ?_) (fun h3 => ?_)
   ·(try replace h3 := xhh h3)
    have e : worldE w = 4 := by
     unfold worldE; rw [if_neg (by simp [hf]), if_neg hb, if_neg]
     rw [← ptm]
     rcases h3 with (h | h) | h <;> rw [h] <;> simp
    (try (refine xst ?_; try exact xtI))
    (first | (refine retA rfl (Wk.of ?_); (try simp (etaStruct := .none) only [push_cast, DrawG, seval]); first | done | (simp [e, *]; done) | (simp_all [e]; done)) | (refine retA rfl ?_; (try simp (etaStruct := .none) only [push_cast, DrawG, seval]); (try simp [e, *]); (try exact wkc)))
   ·(try replace h3 := xhh h3)
    have e : worldE w = 0 := by
     unfold worldE; rw [if_neg (by simp [hf]), if_neg hb, if_pos]
     rw [← ptm, h3.1.1, h3.1.2, h3.2]; rfl
    (try (refine xst ?_; try exact xtI))
    (first | (refine retA rfl (Wk.of ?_); (try simp (etaStruct := .none) only [push_cast, DrawG, seval]); first | done | (simp [e, *]; done) | (simp_all [e]; done)) | (refine retA rfl ?_; (try simp (etaStruct := .none) only [push_cast, DrawG, seval]); (try simp [e, *]); (try exact wkc)))
theorem worldE_ok {w : Wld} (h : worldE w = 0) : fldE w.f = 0 ∧ w.bases.length ≤ 8 ∧ w.troops.length ≤ 100 ∧ worldF w = true ∧ worldB w = true := by
 unfold worldE at h
 split at h
 ·rename_i h1; exact absurd h h1
 ·rename_i h1
  split at h
  ·simp at h
  ·rename_i h2
   split at h
   ·rename_i h3
    rw [Bool.and_eq_true] at h3
    exact ⟨Decidable.not_not.1 h1, by omega, by omega, h3.1, h3.2⟩
   ·simp at h
theorem worldF_ok {w : Wld} (h : worldF w = true) : w.stocks.length = w.bases.length ∧ w.mines.length = w.f.p.length ∧ (1 ≤ w.next ∧ w.next ≤ 1000000) ∧ 0 ≤ w.now ∧ w.now ≤ 1000000 := by
 unfold worldF at h
 simp only [Bool.and_eq_true, decide_eq_true_eq, within_iff] at h
 exact ⟨h.1.1.1, h.1.1.2, h.1.2, h.2⟩
structure TrpOk (w : Wld) (t : Trp) : Prop where
 kind : t.kind = 1 ∨ t.kind = 2
 id : 1 ≤ t.id ∧ t.id ≤ w.next - 1
 owner : 0 ≤ t.owner ∧ t.owner ≤ (w.bases.length : Int) - 1
 at_ : groundV w.f t.c = true
 x : 0 ≤ t.c.x ∧ t.c.x < w.f.w
 y : 0 ≤ t.c.y ∧ t.c.y < w.f.h
 life : 1 ≤ t.life ∧ t.life ≤ (kindV t.kind).life
 load : 0 ≤ t.load ∧ t.load ≤ 5 * (2 - t.kind)
theorem ground_iff {f : Fld} {c : Cel} : groundV f c = true ↔ inF f c = true ∧ placeV f c ≠ 1 := by unfold groundV; simp
theorem troop_ok {w : Wld} (h : worldE w = 0) {k : Nat} (hk : k < w.troops.length) : TrpOk w (w.troops.getD k default) ∧ trp2 w k = true := by
 obtain ⟨_, _, _, _, h5⟩ := worldE_ok h
 unfold worldB at h5
 simp only [Bool.and_eq_true] at h5
 have := (allN_iff _ _).1 h5.2 k hk
 unfold troopB trp1 at this
 simp only [Bool.and_eq_true, within_iff] at this
 obtain ⟨a, ⟨⟨⟨⟨b, c⟩, d⟩, e⟩, f⟩, g⟩ := this
 have hi := inF_iff.1 (ground_iff.1 d).1
 exact ⟨⟨by omega, b, c, d, hi.1, hi.2, e, f⟩, g⟩
theorem troop_mem {w : Wld} (h : worldE w = 0) {t : Trp} (ht : t ∈ w.troops) : TrpOk w t := by
 obtain ⟨i, hi, rfl⟩ := List.getElem_of_mem ht
 have := (troop_ok h hi).1
 rwa [getD_at _ _ hi] at this
theorem trp_ix (F : FuncId) (a b : List AV) (l : List Trp) (p : Trp → Bool) (hl : l.length ≤ 9223372036854775807) (hp : ∀ n ∈ l, Spec Tryz.prog F (a ++ [trpA n] ++ b) [] (B (p n)) []) (ha : ∀ h, cvL [] h a = a) (hb : ∀ h, cvL [] h b = b) :
 Spec Tryz.prog 116 [.c (.sl 7 (l.map trpP)), .clo (.func F) a b] [] (I .i64 (ixOf p l)) [] := by
 refine spec_am Tryz.func116 rfl rfl mix 19 rfl [.tmp 4] Tryz.results116 (Nat.le_of_ble_eq_true rfl) ?_
 simp (etaStruct := .none) only [push_cast, DrawG, seval]
 refine loopI (fun k : Nat => ⟨[(8, I .i64 k), (7, I .i64 l.length), (0, .c (.sl 7 (l.map trpP))), (1, .clo (.func F) a b)], [], 0⟩) (fun k => k ≤ l.length ∧ ∀ j (hj : j < l.length), j < k → p l[j] = false) (fun k => l.length - k) 0 ⟨Nat.zero_le _, fun j _ h => by omega⟩ (To.mk [] rfl rfl List.nodup_nil trivial ?_) ?_
 ·simp (etaStruct := .none) only [push_cast, DrawG, seval, ha, hb]
 ·rintro k ⟨hk, hn⟩
  simp (etaStruct := .none) only [push_cast, DrawG, seval]
  refine cond_i (fun h => ?_) (fun h => ?_)
  ·have hlt : k < l.length := by simpa using h
   simp (etaStruct := .none) only [push_cast, DrawG, seval, getD_map _ _ _ hlt, trpP]
   repeat with_reducible refine obA ?_
   refine callP (hp _ (List.getElem_mem hlt)) (by simp only [cvL_append, ha, hb, cvL, cv]; exact WkL.refl _) ?_
   simp (etaStruct := .none) only [push_cast, DrawG, seval]
   refine cond_i (fun h => ?_) (fun h => ?_)
   ·simp (etaStruct := .none) only [push_cast, DrawG, seval]
    exact ret0 rfl trivial (Wk.of (by rw [ixOf_hit p l k hlt h hn]; rfl))
   ·simp (etaStruct := .none) only [push_cast, DrawG, seval]
    refine ⟨k + 1, ⟨by omega, fun j hj hjk => ?_⟩, by omega, To.mk [] rfl rfl List.nodup_nil trivial ?_⟩
    ·by_cases e : j = k
     ·subst e; exact h
     ·exact hn j hj (by omega)
    ·simp (etaStruct := .none) only [push_cast, DrawG, seval, ha, hb]
     simp (disch := omega) only [wrap_in, wk_self, tdv, tmd]
  ·have hge : k = l.length := by simp at h; omega
   subst hge
   simp (etaStruct := .none) only [push_cast, DrawG, seval]
   exact ret0 rfl trivial (Wk.of (by rw [ixOf_miss p l (fun j hj => hn j hj hj)]; rfl))
theorem ixOf_ge {α : Type} (p : α → Bool) (l : List α) : -1 ≤ ixOf p l ∧ ixOf p l < l.length := by
 unfold ixOf
 cases h : l.findIdx? p with
 | none => simp; omega
 | some i =>
  obtain ⟨hi, _⟩ := List.findIdx?_eq_some_iff_getElem.1 h
  simp only; omega
theorem filter_snoc {α : Type} [Inhabited α] (p : α → Bool) (l : List α) (k : Nat) (h : k < l.length) : (l.take (k + 1)).filter p = if p (l.getD k default) then (l.take k).filter p ++ [l.getD k default] else (l.take k).filter p := by
 rw [take_snoc l k h, List.filter_append, List.filter_cons, List.filter_nil]
 split <;> simp
structure Blw where
 by_ : Int
 at_ : Int
 deriving DecidableEq, Inhabited
def blwP (b : Blw) : List PV := [pI b.by_, pI b.at_]
structure Gop where
 id : Int
 to : Cel
 deriving DecidableEq, Inhabited
def gopP (g : Gop) : List PV := [pI g.id, pI g.to.x, pI g.to.y]
structure Ded where
 kind : Int
 who : Int
 c : Cel
 what : Int
 deriving DecidableEq, Inhabited
def dedP (d : Ded) : List PV := [pI d.kind, pI d.who, pI d.c.x, pI d.c.y, pI d.what]
def findT (w : Wld) (i : Int) : Option Trp := w.troops.find? fun t => decide (t.id = i)
def trp0 : Trp := ⟨0, 0, 0, ⟨0, 0⟩, 0, 0⟩
theorem find_hit {α : Type} [Inhabited α] (p : α → Bool) (l : List α) (k : Nat) (h : k < l.length) (hp : p (l.getD k default) = true) (hn : ∀ j, j < k → p (l.getD j default) = false) : l.find? p = some (l.getD k default) := by
 induction l generalizing k with
 | nil => simp at h
 | cons a r ih =>
  cases k with
  | zero => simp only [List.getD_cons_zero] at hp ⊢; rw [List.find?_cons, hp]
  | succ k =>
   have h0 := hn 0 (by omega)
   simp only [List.getD_cons_zero] at h0
   rw [List.find?_cons, h0]
   simp only [List.getD_cons_succ] at hp ⊢
   exact ih k (by simpa using h) hp (fun j hj => by have := hn (j + 1) (by omega); simpa using this)
theorem find_miss {α : Type} [Inhabited α] (p : α → Bool) (l : List α) (hn : ∀ j, j < l.length → p (l.getD j default) = false) : l.find? p = none := by
 rw [List.find?_eq_none]
 intro x hx
 obtain ⟨i, hi, rfl⟩ := List.getElem_of_mem hx
 have := hn i hi
 rw [getD_at _ _ hi] at this
 simp [this]
theorem troopOf_s (w : Wld) (i : Int) (hl : wldL w) : Spec Tryz.prog 105 [wldA w, I .i64 i] [] (.tup [trpA ((findT w i).getD trp0), B (findT w i).isSome]) [] := by
 obtain ⟨l1, l2, l3, l4, l5⟩ := hl
 refine spec_am Tryz.func105 rfl rfl mix 22 rfl [.cell 4 83, .tmp 5] Tryz.results105 (Nat.le_of_ble_eq_true rfl) ?_
 (try (refine xst ?_; try exact xtI))
 refine loopI (fun k : Nat => ⟨[(11, I .i64 k), (10, I .i64 w.troops.length), (9, .c (.sl 7 (w.troops.map trpP))), (4, .ptr 0 0 0), (1, I .i64 i)], [(0, .blk 83 [I .i64 0, I .i64 0, I .i64 0, I .i64 0, I .i64 0, I .i64 0, I .i64 0])], 1⟩) (fun k : Nat => k ≤ w.troops.length ∧ ∀ j, j < k → decide ((w.troops.getD j default).id = i) = false) (fun k : Nat => w.troops.length - k) (0) (⟨Nat.zero_le _, fun j h => by omega⟩) (To.mk [1] rfl rfl (by decide) ?_ ?_) ?_
 ·simp (etaStruct := .none) only [push_cast, DrawG, seval]
 ·simp (etaStruct := .none) only [push_cast, DrawG, seval]
 rintro k ⟨hk, hn⟩
 (try (refine xst ?_; try exact xtI))
 refine cond_i (fun h1 => ?_) (fun h1 => ?_)
 ·(try replace h1 := xhh h1)
  have hlt : k < w.troops.length := by omega
  (iterate 2 ((try simp (etaStruct := .none) only [push_cast, DrawG, seval, getD_in _ _ _ hlt, trpP]); (try (refine xsu ?_; try exact xtI))))
  refine cond_i (fun h2 => ?_) (fun h2 => ?_)
  ·(try replace h2 := xhh h2)
   have e : findT w i = some (w.troops.getD k default) := find_hit _ _ k hlt (by simpa using h2) (fun j hj => by simpa using hn j hj)
   (iterate 2 ((try simp (etaStruct := .none) only [push_cast, DrawG, seval, getD_in _ _ _ hlt, trpP]); (try (refine xsu ?_; try exact xtI))))
   refine ret0 rfl (by repeat' (first | exact trivial | exact rfl | refine ⟨?_, ?_⟩)) (Wk.of ?_)
   rw [e]; simp (etaStruct := .none) only [push_cast, DrawG, seval]
   try rfl
  ·(try replace h2 := xhh h2)
   (iterate 2 ((try simp (etaStruct := .none) only [push_cast, DrawG, seval, getD_in _ _ _ hlt, trpP]); (try (refine xsu ?_; try exact xtI))))
   refine ⟨k + 1, ⟨by omega, fun j hj => by
 rcases Nat.lt_or_ge j k with h | h
 ·simpa using hn j h
 ·rw [show j = k by omega]; simpa using h2⟩, by omega, To.mk [0] rfl rfl (by decide) ?_ ?_⟩
   ·(iterate 2 ((try simp (etaStruct := .none) only [push_cast, DrawG, seval, getD_in _ _ _ hlt, trpP]); (try (refine xsu ?_; try exact xtI))))
   ·(iterate 2 ((try simp (etaStruct := .none) only [push_cast, DrawG, seval, getD_in _ _ _ hlt, trpP]); (try (refine xsu ?_; try exact xtI))))
 ·(try replace h1 := xhh h1)
  have e : findT w i = none := find_miss _ _ (fun j hj => by simpa using hn j (by omega))
  (try (refine xst ?_; try exact xtI))
  refine ret0 rfl (by repeat' (first | exact trivial | exact rfl | refine ⟨?_, ?_⟩)) (Wk.of ?_)
  rw [e]; simp (etaStruct := .none) only [push_cast, DrawG, seval]
  try rfl
def allowV (o : Ord) (w : Wld) : Bool := if o.kind = 5 then decide (o.by_ < w.bases.length) else match findT w o.who with | some t => decide (t.owner = o.by_) | none => false
theorem allow_s (o : Ord) (w : Wld) (hl : wldL w) : Spec Tryz.prog 76 [ordA o, wldA w] [] (B (allowV o w)) [] := by
 refine spec_am Tryz.func76 rfl rfl mix 31 rfl [.tmp 4] Tryz.results76 (Nat.le_of_ble_eq_true rfl) ?_
 (try (refine xst ?_; try exact xtI))
 refine cond_i (fun h1 => ?_) (fun h1 => ?_)
 ·(try replace h1 := xhh h1)
  have e : allowV o w = decide (o.by_ < w.bases.length) := by unfold allowV; rw [if_pos h1]
  (try (refine xst ?_; try exact xtI))
  (first | (refine retA rfl (Wk.of ?_); (try simp (etaStruct := .none) only [push_cast, DrawG, seval]); first | done | (simp [e, *]; done) | (simp_all [e]; done)) | (refine retA rfl ?_; (try simp (etaStruct := .none) only [push_cast, DrawG, seval]); (try simp [e, *]); (try exact wkc)))
 ·(try replace h1 := xhh h1)
  have e : allowV o w = ((findT w o.who).isSome && decide (((findT w o.who).getD trp0).owner = o.by_)) := by
   unfold allowV; rw [if_neg (by simpa using h1)]; cases findT w o.who <;> rfl
  (try (refine xst ?_; try exact xtI))
  refine caP (troopOf_s w o.who hl) ?_
  (try (refine xst ?_; try exact xtI))
  (first | (refine retA rfl (Wk.of ?_); (try simp (etaStruct := .none) only [push_cast, DrawG, seval]); first | done | (simp [e, *]; done) | (simp_all [e]; done)) | (refine retA rfl ?_; (try simp (etaStruct := .none) only [push_cast, DrawG, seval]); (try simp [e, *]); (try exact wkc)))
def addB (o : Ord) : List Blw := if o.kind = 1 then [⟨o.who, o.what⟩] else []
def addG (o : Ord) : List Gop := if o.kind = 2 then [⟨o.who, o.c⟩] else []
def dedOf (o : Ord) : Ded := ⟨o.kind - 2, if o.kind = 5 then o.by_ else o.who, o.c, o.what⟩
def addD (o : Ord) : List Ded := if 2 < o.kind then [dedOf o] else []
def blowsV (l : List Ord) (w : Wld) : List Blw := (l.filter fun o => allowV o w).flatMap addB
def goesV (l : List Ord) (w : Wld) : List Gop := (l.filter fun o => allowV o w).flatMap addG
def deedsV (l : List Ord) (w : Wld) : List Ded := (l.filter fun o => allowV o w).flatMap addD
theorem flat_step {α : Type} (p : Ord → Bool) (f : Ord → List α) (l : List Ord) (k : Nat) (h : k < l.length) : ((l.take (k + 1)).filter p).flatMap f = ((l.take k).filter p).flatMap f ++ (if p (l.getD k default) then f (l.getD k default) else []) := by
 rw [filter_snoc p l k h]
 split <;> simp
theorem ford_len {α : Type} (p : Ord → Bool) (f : Ord → List α) (hf : ∀ o, (f o).length ≤ 1) : ∀ l : List Ord, ((l.filter p).flatMap f).length ≤ l.length
 | [] => by simp
 | a :: r => by
  have := ford_len p f hf r
  have h1 := hf a
  rw [List.filter_cons]
  split
  ·rw [List.flatMap_cons, List.length_append, List.length_cons]; omega
  ·rw [List.length_cons]; omega
theorem addB_len (o : Ord) : (addB o).length ≤ 1 := by unfold addB; split <;> simp
theorem addG_len (o : Ord) : (addG o).length ≤ 1 := by unfold addG; split <;> simp
theorem addD_len (o : Ord) : (addD o).length ≤ 1 := by unfold addD; split <;> simp
theorem blows_s (l : List Ord) (w : Wld) (hl : wldL w) (hll : l.length ≤ 100) : Spec Tryz.prog 46 [.c (.sl 6 (l.map ordP)), wldA w] [] (.c (.sl 2 ((blowsV l w).map blwP))) [] := by
 refine spec_am Tryz.func46 rfl rfl mix 32 rfl [.tmp 4] Tryz.results46 (Nat.le_of_ble_eq_true rfl) ?_
 (try (refine xst ?_; try exact xtI))
 refine loopI (fun k : Nat => ⟨[(10, I .i64 k), (9, I .i64 l.length), (8, .c (.sl 6 (l.map ordP))), (5, .own 1), (3, .ptr 0 0 0)], [(0, .blk 28 (wldC w)), (1, .row 128 2 ((blowsV (l.take k) w).map blwP))], 2⟩) (fun k : Nat => k ≤ l.length) (fun k : Nat => l.length - k) (0) (Nat.zero_le _) ((To.nil 5 128 2 rfl).trans (To.mk [0, 1] rfl rfl (by decide) ?_ ?_)) ?_
 ·simp (etaStruct := .none) only [push_cast, DrawG, seval, blowsV, List.filter_nil, List.flatMap_nil]
 ·simp (etaStruct := .none) only [push_cast, DrawG, seval]
 rintro k hk
 (try (refine xst ?_; try exact xtI))
 refine cond_i (fun h1 => ?_) (fun h1 => ?_)
 ·(try replace h1 := xhh h1)
  have hlt : k < l.length := by omega
  have st := flat_step (fun o => allowV o w) addB l k hlt
  have hfl := ford_len (fun o => allowV o w) addB addB_len (l.take k)
  rw [List.length_take] at hfl
  change blowsV (l.take (k + 1)) w = blowsV (l.take k) w ++ _ at st
  change (blowsV (l.take k) w).length ≤ _ at hfl
  (iterate 2 ((try simp (etaStruct := .none) only [push_cast, DrawG, seval, getD_in _ _ _ hlt, ordP]); (try (refine xsu ?_; try exact xtI))))
  refine gcP (fun hcc => allow_s (l.getD k default) w hl) ?_
  (iterate 2 ((try simp (etaStruct := .none) only [push_cast, DrawG, seval, getD_in _ _ _ hlt, ordP]); (try (refine xsu ?_; try exact xtI))))
  refine cond_i (fun h2 => ?_) (fun h2 => ?_)
  ·(try replace h2 := xhh h2)
   have e : blowsV (l.take (k + 1)) w = blowsV (l.take k) w ++ [⟨(l.getD k default).who, (l.getD k default).what⟩] := by rw [st, if_pos h2.2]; unfold addB; rw [if_pos h2.1]
   (iterate 2 ((try simp (etaStruct := .none) only [push_cast, DrawG, seval, getD_in _ _ _ hlt, ordP]); (try (refine xsu ?_; try exact xtI))))
   refine ⟨k + 1, by omega, by omega, To.mk [0, 4] rfl rfl (by decide) ?_ ?_⟩
   ·(iterate 2 ((try simp (etaStruct := .none) only [push_cast, DrawG, seval, e, List.map_append, blwP]); (try (refine xsu ?_; try exact xtI))))
   ·(iterate 2 ((try simp (etaStruct := .none) only [push_cast, DrawG, seval, getD_in _ _ _ hlt, ordP]); (try (refine xsu ?_; try exact xtI))))
  ·(try replace h2 := xhh h2)
   have e : blowsV (l.take (k + 1)) w = blowsV (l.take k) w := by
    rw [st]
    rcases h2 with h | h
    ·unfold addB; rw [if_neg h]; simp
    ·rw [h]; simp
   (iterate 2 ((try simp (etaStruct := .none) only [push_cast, DrawG, seval, getD_in _ _ _ hlt, ordP]); (try (refine xsu ?_; try exact xtI))))
   refine ⟨k + 1, by omega, by omega, To.mk [0, 1] rfl rfl (by decide) ?_ ?_⟩
   ·(iterate 2 ((try simp (etaStruct := .none) only [push_cast, DrawG, seval, e]); (try (refine xsu ?_; try exact xtI))))
   ·(iterate 2 ((try simp (etaStruct := .none) only [push_cast, DrawG, seval, getD_in _ _ _ hlt, ordP]); (try (refine xsu ?_; try exact xtI))))
 ·(try replace h1 := xhh h1)
  obtain rfl : k = l.length := by omega
  (iterate 2 ((try simp (etaStruct := .none) only [push_cast, DrawG, seval, List.take_length]); (try (refine xsu ?_; try exact xtI))))
  exact xrz rfl
theorem goes_s (l : List Ord) (w : Wld) (hl : wldL w) (hll : l.length ≤ 100) : Spec Tryz.prog 47 [.c (.sl 6 (l.map ordP)), wldA w] [] (.c (.sl 3 ((goesV l w).map gopP))) [] := by
 refine spec_am Tryz.func47 rfl rfl mix 32 rfl [.tmp 4] Tryz.results47 (Nat.le_of_ble_eq_true rfl) ?_
 (try (refine xst ?_; try exact xtI))
 refine loopI (fun k : Nat => ⟨[(10, I .i64 k), (9, I .i64 l.length), (8, .c (.sl 6 (l.map ordP))), (5, .own 1), (3, .ptr 0 0 0)], [(0, .blk 28 (wldC w)), (1, .row 130 3 ((goesV (l.take k) w).map gopP))], 2⟩) (fun k : Nat => k ≤ l.length) (fun k : Nat => l.length - k) (0) (Nat.zero_le _) ((To.nil 5 130 3 rfl).trans (To.mk [0, 1] rfl rfl (by decide) ?_ ?_)) ?_
 ·simp (etaStruct := .none) only [push_cast, DrawG, seval, goesV, List.filter_nil, List.flatMap_nil]
 ·simp (etaStruct := .none) only [push_cast, DrawG, seval]
 rintro k hk
 (try (refine xst ?_; try exact xtI))
 refine cond_i (fun h1 => ?_) (fun h1 => ?_)
 ·(try replace h1 := xhh h1)
  have hlt : k < l.length := by omega
  have st := flat_step (fun o => allowV o w) addG l k hlt
  have hfl := ford_len (fun o => allowV o w) addG addG_len (l.take k)
  rw [List.length_take] at hfl
  change goesV (l.take (k + 1)) w = goesV (l.take k) w ++ _ at st
  change (goesV (l.take k) w).length ≤ _ at hfl
  (iterate 2 ((try simp (etaStruct := .none) only [push_cast, DrawG, seval, getD_in _ _ _ hlt, ordP]); (try (refine xsu ?_; try exact xtI))))
  refine gcP (fun hcc => allow_s (l.getD k default) w hl) ?_
  (iterate 2 ((try simp (etaStruct := .none) only [push_cast, DrawG, seval, getD_in _ _ _ hlt, ordP]); (try (refine xsu ?_; try exact xtI))))
  refine cond_i (fun h2 => ?_) (fun h2 => ?_)
  ·(try replace h2 := xhh h2)
   have e : goesV (l.take (k + 1)) w = goesV (l.take k) w ++ [⟨(l.getD k default).who, (l.getD k default).c⟩] := by rw [st, if_pos h2.2]; unfold addG; rw [if_pos h2.1]
   (iterate 2 ((try simp (etaStruct := .none) only [push_cast, DrawG, seval, getD_in _ _ _ hlt, ordP]); (try (refine xsu ?_; try exact xtI))))
   refine ⟨k + 1, by omega, by omega, To.mk [0, 4] rfl rfl (by decide) ?_ ?_⟩
   ·(iterate 2 ((try simp (etaStruct := .none) only [push_cast, DrawG, seval, e, List.map_append, gopP]); (try (refine xsu ?_; try exact xtI))))
   ·(iterate 2 ((try simp (etaStruct := .none) only [push_cast, DrawG, seval, getD_in _ _ _ hlt, ordP]); (try (refine xsu ?_; try exact xtI))))
  ·(try replace h2 := xhh h2)
   have e : goesV (l.take (k + 1)) w = goesV (l.take k) w := by
    rw [st]
    rcases h2 with h | h
    ·unfold addG; rw [if_neg h]; simp
    ·rw [h]; simp
   (iterate 2 ((try simp (etaStruct := .none) only [push_cast, DrawG, seval, getD_in _ _ _ hlt, ordP]); (try (refine xsu ?_; try exact xtI))))
   refine ⟨k + 1, by omega, by omega, To.mk [0, 1] rfl rfl (by decide) ?_ ?_⟩
   ·(iterate 2 ((try simp (etaStruct := .none) only [push_cast, DrawG, seval, e]); (try (refine xsu ?_; try exact xtI))))
   ·(iterate 2 ((try simp (etaStruct := .none) only [push_cast, DrawG, seval, getD_in _ _ _ hlt, ordP]); (try (refine xsu ?_; try exact xtI))))
 ·(try replace h1 := xhh h1)
  obtain rfl : k = l.length := by omega
  (iterate 2 ((try simp (etaStruct := .none) only [push_cast, DrawG, seval, List.take_length]); (try (refine xsu ?_; try exact xtI))))
  exact xrz rfl
theorem deeds_s (l : List Ord) (w : Wld) (hl : wldL w) (hll : l.length ≤ 100) (hk5 : ∀ o ∈ l, ordE o = 0) : Spec Tryz.prog 48 [.c (.sl 6 (l.map ordP)), wldA w] [] (.c (.sl 5 ((deedsV l w).map dedP))) [] := by
 refine spec_am Tryz.func48 rfl rfl mix 45 rfl [.tmp 4] Tryz.results48 (Nat.le_of_ble_eq_true rfl) ?_
 (try (refine xst ?_; try exact xtI))
 refine loopI (fun k : Nat => ⟨[(11, I .i64 k), (10, I .i64 l.length), (9, .c (.sl 6 (l.map ordP))), (5, .own 1), (3, .ptr 0 0 0)], [(0, .blk 28 (wldC w)), (1, .row 132 5 ((deedsV (l.take k) w).map dedP))], 2⟩) (fun k : Nat => k ≤ l.length) (fun k : Nat => l.length - k) (0) (Nat.zero_le _) ((To.nil 5 132 5 rfl).trans (To.mk [0, 1] rfl rfl (by decide) ?_ ?_)) ?_
 ·simp (etaStruct := .none) only [push_cast, DrawG, seval, deedsV, List.filter_nil, List.flatMap_nil]
 ·simp (etaStruct := .none) only [push_cast, DrawG, seval]
 rintro k hk
 (try (refine xst ?_; try exact xtI))
 refine cond_i (fun h1 => ?_) (fun h1 => ?_)
 ·(try replace h1 := xhh h1)
  have hlt : k < l.length := by omega
  have st := flat_step (fun o => allowV o w) addD l k hlt
  have hfl := ford_len (fun o => allowV o w) addD addD_len (l.take k)
  rw [List.length_take] at hfl
  change deedsV (l.take (k + 1)) w = deedsV (l.take k) w ++ _ at st
  change (deedsV (l.take k) w).length ≤ _ at hfl
  have hor := ordE_ok (hk5 _ (getD_mem l k hlt))
  (iterate 2 ((try simp (etaStruct := .none) only [push_cast, DrawG, seval, getD_in _ _ _ hlt, ordP]); (try (refine xsu ?_; try exact xtI))))
  refine gcP (fun hcc => allow_s (l.getD k default) w hl) ?_
  (iterate 2 ((try simp (etaStruct := .none) only [push_cast, DrawG, seval, getD_in _ _ _ hlt, ordP]); (try (refine xsu ?_; try exact xtI))))
  refine cond_i (fun h2 => ?_) (fun h2 => ?_)
  ·(try replace h2 := xhh h2)
   have e : deedsV (l.take (k + 1)) w = deedsV (l.take k) w ++ [dedOf (l.getD k default)] := by rw [st, if_pos h2.2]; unfold addD; rw [if_pos h2.1]
   (iterate 2 ((try simp (etaStruct := .none) only [push_cast, DrawG, seval, getD_in _ _ _ hlt, ordP]); (try (refine xsu ?_; try exact xtI))))
   refine cond_i (fun h3 => ?_) (fun h3 => ?_)
   ·(try replace h3 := xhh h3)
    (iterate 2 ((try simp (etaStruct := .none) only [push_cast, DrawG, seval, getD_in _ _ _ hlt, ordP]); (try (refine xsu ?_; try exact xtI))))
    refine ⟨k + 1, by omega, by omega, To.mk [0, 5] rfl rfl (by decide) ?_ ?_⟩
    ·(iterate 2 ((try simp (etaStruct := .none) only [push_cast, DrawG, seval, e, List.map_append, dedP, dedOf, if_pos h3]); (try (refine xsu ?_; try exact xtI))))
    ·(iterate 2 ((try simp (etaStruct := .none) only [push_cast, DrawG, seval, getD_in _ _ _ hlt, ordP]); (try (refine xsu ?_; try exact xtI))))
   ·(try replace h3 := xhh h3)
    (iterate 2 ((try simp (etaStruct := .none) only [push_cast, DrawG, seval, getD_in _ _ _ hlt, ordP]); (try (refine xsu ?_; try exact xtI))))
    refine ⟨k + 1, by omega, by omega, To.mk [0, 5] rfl rfl (by decide) ?_ ?_⟩
    ·(iterate 2 ((try simp (etaStruct := .none) only [push_cast, DrawG, seval, e, List.map_append, dedP, dedOf, if_neg h3]); (try (refine xsu ?_; try exact xtI))))
    ·(iterate 2 ((try simp (etaStruct := .none) only [push_cast, DrawG, seval, getD_in _ _ _ hlt, ordP]); (try (refine xsu ?_; try exact xtI))))
  ·(try replace h2 := xhh h2)
   have e : deedsV (l.take (k + 1)) w = deedsV (l.take k) w := by
    rw [st]
    rcases h2 with h | h
    ·unfold addD; rw [if_neg (show ¬ 2 < (l.getD k default).kind by omega)]; simp
    ·rw [h]; simp
   (iterate 2 ((try simp (etaStruct := .none) only [push_cast, DrawG, seval, getD_in _ _ _ hlt, ordP]); (try (refine xsu ?_; try exact xtI))))
   refine ⟨k + 1, by omega, by omega, To.mk [0, 1] rfl rfl (by decide) ?_ ?_⟩
   ·(iterate 2 ((try simp (etaStruct := .none) only [push_cast, DrawG, seval, e]); (try (refine xsu ?_; try exact xtI))))
   ·(iterate 2 ((try simp (etaStruct := .none) only [push_cast, DrawG, seval, getD_in _ _ _ hlt, ordP]); (try (refine xsu ?_; try exact xtI))))
 ·(try replace h1 := xhh h1)
  obtain rfl : k = l.length := by omega
  (iterate 2 ((try simp (etaStruct := .none) only [push_cast, DrawG, seval, List.take_length]); (try (refine xsu ?_; try exact xtI))))
  exact xrz rfl
end Go.Proofs.YtllmjdcblfkfaaaGreat
namespace Go.Proofs.YtllmjdcblfkfaaaGreat
set_option linter.all false
open Go.RowKit
set_option maxRecDepth 100000
set_option maxHeartbeats 400000
theorem int_clone (l : List Int) (hl : l.length ≤ 17592186044415) : Spec Tryz.prog 87 [.c (.sl 1 (l.map i64P))] [] (.own 0) [.row 3 1 (l.map i64P)] := by
 refine spec_am Tryz.func87 rfl rfl mix 8 rfl [.tmp 2] Tryz.results87 (Nat.le_of_ble_eq_true rfl) ?_
 (try (refine xst ?_; try exact xtI))
 intro b hb
 (try (refine xst ?_; try exact xtI))
 refine cond_i (fun h => ?_) (fun h => ?_)
 ·(try (refine xst ?_; try exact xtI))
  have e := hb h
  refine retTo (To.nil 2 3 1 rfl) (retM [0] rfl rfl (by decide) ⟨?_, trivial⟩ trivial ?_)
  ·simp (etaStruct := .none) only [push_cast, DrawG, seval, e]
  ·simp (etaStruct := .none) only [push_cast, DrawG, seval]
 ·(try (refine xst ?_; try exact xtI))
  refine retM [1] rfl rfl (by decide) ⟨?_, trivial⟩ trivial ?_
  ·simp (etaStruct := .none) only [push_cast, DrawG, seval]
  ·simp (etaStruct := .none) only [push_cast, DrawG, seval]
theorem int_copy (l : List Int) (hl : l.length ≤ 17592186044415) : Spec Tryz.prog 87 [.c (.sl 1 (l.map i64P))] [] (.c (.sl 1 (l.map i64P))) [] := by
 refine spec_am Tryz.func87 rfl rfl mix 8 rfl [.tmp 2] Tryz.results87 (Nat.le_of_ble_eq_true rfl) ?_
 (try (refine xst ?_; try exact xtI))
 intro b hb
 (try (refine xst ?_; try exact xtI))
 refine cond_i (fun h => ?_) (fun h => ?_)
 ·(try (refine xst ?_; try exact xtI))
  exact ret0 rfl trivial (by rw [hb h]; exact Wk.nil _)
 ·(try (refine xst ?_; try exact xtI))
  exact ret0 rfl trivial (Wk.refl _)
theorem cel_clone (l : List Cel) (hl : l.length ≤ 8796093022207) : Spec Tryz.prog 88 [.c (.sl 2 (l.map celP))] [] (.own 0) [.row 68 2 (l.map celP)] := by
 refine spec_am Tryz.func88 rfl rfl mix 8 rfl [.tmp 2] Tryz.results88 (Nat.le_of_ble_eq_true rfl) ?_
 (try (refine xst ?_; try exact xtI))
 intro b hb
 (try (refine xst ?_; try exact xtI))
 refine cond_i (fun h => ?_) (fun h => ?_)
 ·(try (refine xst ?_; try exact xtI))
  have e := hb h
  refine retTo (To.nil 2 68 2 rfl) (retM [0] rfl rfl (by decide) ⟨?_, trivial⟩ trivial ?_)
  ·simp (etaStruct := .none) only [push_cast, DrawG, seval, e]
  ·simp (etaStruct := .none) only [push_cast, DrawG, seval]
 ·(try (refine xst ?_; try exact xtI))
  refine retM [1] rfl rfl (by decide) ⟨?_, trivial⟩ trivial ?_
  ·simp (etaStruct := .none) only [push_cast, DrawG, seval]
  ·simp (etaStruct := .none) only [push_cast, DrawG, seval]
theorem cel_copy (l : List Cel) (hl : l.length ≤ 8796093022207) : Spec Tryz.prog 88 [.c (.sl 2 (l.map celP))] [] (.c (.sl 2 (l.map celP))) [] := by
 refine spec_am Tryz.func88 rfl rfl mix 8 rfl [.tmp 2] Tryz.results88 (Nat.le_of_ble_eq_true rfl) ?_
 (try (refine xst ?_; try exact xtI))
 intro b hb
 (try (refine xst ?_; try exact xtI))
 refine cond_i (fun h => ?_) (fun h => ?_)
 ·(try (refine xst ?_; try exact xtI))
  exact ret0 rfl trivial (by rw [hb h]; exact Wk.nil _)
 ·(try (refine xst ?_; try exact xtI))
  exact ret0 rfl trivial (Wk.refl _)
theorem trp_clone (l : List Trp) (hl : l.length ≤ 2513169434916) : Spec Tryz.prog 78 [.c (.sl 7 (l.map trpP))] [] (.own 0) [.row 83 7 (l.map trpP)] := by
 refine spec_am Tryz.func78 rfl rfl mix 8 rfl [.tmp 2] Tryz.results78 (Nat.le_of_ble_eq_true rfl) ?_
 (try (refine xst ?_; try exact xtI))
 intro b hb
 (try (refine xst ?_; try exact xtI))
 refine cond_i (fun h => ?_) (fun h => ?_)
 ·(try (refine xst ?_; try exact xtI))
  have e := hb h
  refine retTo (To.nil 2 83 7 rfl) (retM [0] rfl rfl (by decide) ⟨?_, trivial⟩ trivial ?_)
  ·simp (etaStruct := .none) only [push_cast, DrawG, seval, e]
  ·simp (etaStruct := .none) only [push_cast, DrawG, seval]
 ·(try (refine xst ?_; try exact xtI))
  refine retM [1] rfl rfl (by decide) ⟨?_, trivial⟩ trivial ?_
  ·simp (etaStruct := .none) only [push_cast, DrawG, seval]
  ·simp (etaStruct := .none) only [push_cast, DrawG, seval]
theorem trp_copy (l : List Trp) (hl : l.length ≤ 2513169434916) : Spec Tryz.prog 78 [.c (.sl 7 (l.map trpP))] [] (.c (.sl 7 (l.map trpP))) [] := by
 refine spec_am Tryz.func78 rfl rfl mix 8 rfl [.tmp 2] Tryz.results78 (Nat.le_of_ble_eq_true rfl) ?_
 (try (refine xst ?_; try exact xtI))
 intro b hb
 (try (refine xst ?_; try exact xtI))
 refine cond_i (fun h => ?_) (fun h => ?_)
 ·(try (refine xst ?_; try exact xtI))
  exact ret0 rfl trivial (by rw [hb h]; exact Wk.nil _)
 ·(try (refine xst ?_; try exact xtI))
  exact ret0 rfl trivial (Wk.refl _)
end Go.Proofs.YtllmjdcblfkfaaaGreat
namespace Go.Proofs.YtllmjdcblfkfaaaGreat
set_option linter.all false
open Go.RowKit
set_option maxRecDepth 100000
set_option maxHeartbeats 2000000
theorem lineV_len (a b : Cel) : (lineV a b).length = max (b.x - a.x).natAbs (b.y - a.y).natAbs + 1 := by simp [lineV, lpts_len]
theorem lpt_step (a : Cel) (sx sy : Int) (X Y k L m : Nat) (hL : L = max X Y) (hm : m = min X Y) (h0 : 0 < L) :
 lpt a sx sy X Y (k + 1) = ⟨if Y ≤ X ∨ 2 * L ≤ lr L m k + 2 * m then (lpt a sx sy X Y k).x + sx else (lpt a sx sy X Y k).x, if X < Y ∨ 2 * L ≤ lr L m k + 2 * m then (lpt a sx sy X Y k).y + sy else (lpt a sx sy X Y k).y⟩ ∧
 (lr L m (k + 1) : Int) = if 2 * L ≤ lr L m k + 2 * m then (lr L m k : Int) + 2 * m - 2 * L else lr L m k + 2 * m := by
 by_cases h : Y ≤ X
 ·obtain rfl : L = X := by omega
  obtain rfl : m = Y := by omega
  have st := lq_step L m k h0 h
  rw [lpt_stepX a sx sy L m k h h0, if_pos (show m ≤ L ∨ 2 * L ≤ lr L m k + 2 * m from Or.inl h)]
  by_cases hc : 2 * L ≤ lr L m k + 2 * m
  ·rw [if_pos hc, if_pos (show L < m ∨ 2 * L ≤ lr L m k + 2 * m from Or.inr hc), if_pos hc]; exact ⟨rfl, by have := (st.1 hc).2; omega⟩
  ·rw [if_neg hc, if_neg (show ¬ (L < m ∨ 2 * L ≤ lr L m k + 2 * m) by omega), if_neg hc]; exact ⟨rfl, by have := (st.2 (by omega)).2; omega⟩
 ·obtain rfl : L = Y := by omega
  obtain rfl : m = X := by omega
  have st := lq_step L m k h0 (by omega)
  rw [lpt_stepY a sx sy m L k (by omega), if_pos (show m < L ∨ 2 * L ≤ lr L m k + 2 * m from Or.inl (by omega))]
  by_cases hc : 2 * L ≤ lr L m k + 2 * m
  ·rw [if_pos hc, if_pos (show L ≤ m ∨ 2 * L ≤ lr L m k + 2 * m from Or.inr hc), if_pos hc]; exact ⟨rfl, by have := (st.1 hc).2; omega⟩
  ·rw [if_neg hc, if_neg (show ¬ (L ≤ m ∨ 2 * L ≤ lr L m k + 2 * m) by omega), if_neg hc]; exact ⟨rfl, by have := (st.2 (by omega)).2; omega⟩
theorem lpts_zero (a : Cel) (sx sy : Int) (X Y : Nat) : lpts a sx sy X Y 0 = [a] := by simp [lpts, lpt_zero]
theorem cells_s (a b : Cel) (ha : nearB a = true) (hb : nearB b = true) : Spec Tryz.prog 153 [celA a, celA b] [] (.tup [.c (.sl 2 ((lineV a b).map celP)), I .i64 0]) [] := by
 have hx := nearB_true ha
 have hy := nearB_true hb
 obtain ⟨sx, hsx⟩ : ∃ s, s = (b.x - a.x).sign := ⟨_, rfl⟩
 obtain ⟨sy, hsy⟩ : ∃ s, s = (b.y - a.y).sign := ⟨_, rfl⟩
 obtain ⟨X, hX⟩ : ∃ s, s = (b.x - a.x).natAbs := ⟨_, rfl⟩
 obtain ⟨Y, hY⟩ : ∃ s, s = (b.y - a.y).natAbs := ⟨_, rfl⟩
 have gx := sg (b.x - a.x)
 have gy := sg (b.y - a.y)
 rw [← hsx] at gx
 rw [← hsy] at gy
 have S1 := sign_s (b.x - a.x) (by omega) (by omega)
 have S2 := sign_s (b.y - a.y) (by omega) (by omega)
 have hX2 : X ≤ 2000 := by omega
 have hY2 : Y ≤ 2000 := by omega
 unfold lineV
 rw [← hsx, ← hX] at S1 ⊢
 rw [← hsy, ← hY] at S2 ⊢
 obtain ⟨L, hL⟩ : ∃ L, L = max X Y := ⟨_, rfl⟩
 obtain ⟨m, hm⟩ : ∃ m, m = min X Y := ⟨_, rfl⟩
 rw [← hL]
 have LR := fun k h0 => lr_lt L m k h0
 have NR := fun k hk => lpt_near a sx sy X Y k gx gy hX2 hY2 hk ha
 clear hsx hsy hX hY
 refine spec_am Tryz.func153 rfl rfl mix 93 rfl [.tmp 4, .tmp 5] Tryz.results153 (Nat.le_of_ble_eq_true rfl) ?_
 (iterate 2 ((try simp (etaStruct := .none) only [push_cast, DrawG, seval, lpts_len]); (try (refine xsu ?_; try exact xtI))))
 refine caP (near_s a (by omega) (by omega)) ?_
 (iterate 2 ((try simp (etaStruct := .none) only [push_cast, DrawG, seval, lpts_len]); (try (refine xsu ?_; try exact xtI))))
 refine gcP (fun hcc => near_s b (by omega) (by omega)) ?_
 (iterate 2 ((try simp (etaStruct := .none) only [push_cast, DrawG, seval, lpts_len]); (try (refine xsu ?_; try exact xtI))))
 refine cond_i (fun h1 => ?_) (fun h1 => ?_)
 ·(try replace h1 := xhh h1)
  simp [ha, hb] at h1
 ·(try replace h1 := xhh h1)
  (iterate 2 ((try simp (etaStruct := .none) only [push_cast, DrawG, seval, lpts_len]); (try (refine xsu ?_; try exact xtI))))
  refine caP (S1) ?_
  (iterate 2 ((try simp (etaStruct := .none) only [push_cast, DrawG, seval, lpts_len]); (try (refine xsu ?_; try exact xtI))))
  refine caP (S2) ?_
  (iterate 2 ((try simp (etaStruct := .none) only [push_cast, DrawG, seval, lpts_len]); (try (refine xsu ?_; try exact xtI))))
  refine cond_j (fun _u : Unit => ⟨[(10, I .i64 L), (11, I .i64 m), (9, I .i64 Y), (8, I .i64 sy), (7, I .i64 X), (6, I .i64 sx), (2, .ptr 0 0 0)], [(0, .blk 68 [I .i64 a.x, I .i64 a.y])], 1⟩) (fun _u : Unit => Tr) (fun h2 => ?_) (fun h2 => ?_) ?_
  ·(try replace h2 := xhh h2)
   obtain rfl : L = Y := by omega
   obtain rfl : m = X := by omega
   (iterate 2 ((try simp (etaStruct := .none) only [push_cast, DrawG, seval, lpts_len]); (try (refine xsu ?_; try exact xtI))))
   refine ⟨(), trI, To.mk [0] rfl rfl (by decide) ?_ ?_⟩
   ·(iterate 2 ((try simp (etaStruct := .none) only [push_cast, DrawG, seval, lpts_len]); (try (refine xsu ?_; try exact xtI))))
   ·(iterate 2 ((try simp (etaStruct := .none) only [push_cast, DrawG, seval, lpts_len]); (try (refine xsu ?_; try exact xtI))))
  ·(try replace h2 := xhh h2)
   obtain rfl : L = X := by omega
   obtain rfl : m = Y := by omega
   (iterate 2 ((try simp (etaStruct := .none) only [push_cast, DrawG, seval, lpts_len]); (try (refine xsu ?_; try exact xtI))))
   refine ⟨(), trI, To.mk [0] rfl rfl (by decide) ?_ ?_⟩
   ·(iterate 2 ((try simp (etaStruct := .none) only [push_cast, DrawG, seval, lpts_len]); (try (refine xsu ?_; try exact xtI))))
   ·(iterate 2 ((try simp (etaStruct := .none) only [push_cast, DrawG, seval, lpts_len]); (try (refine xsu ?_; try exact xtI))))
  ·rintro _ _
   (iterate 2 ((try simp (etaStruct := .none) only [push_cast, DrawG, seval, lpts_len]); (try (refine xsu ?_; try exact xtI))))
   refine loopI (fun k : Nat => ⟨[(51, I .i64 k), (50, I .i64 L), (13, I .i64 ((lr L m k : Int) - L)), (12, .own 1), (11, I .i64 m), (10, I .i64 L), (9, I .i64 Y), (8, I .i64 sy), (7, I .i64 X), (6, I .i64 sx), (2, .ptr 0 0 0)], [(0, .blk 68 [I .i64 (lpt a sx sy X Y k).x, I .i64 (lpt a sx sy X Y k).y]), (1, .row 68 2 ((lpts a sx sy X Y k).map celP))], 2⟩) (fun k : Nat => k ≤ L) (fun k : Nat => L - k) (0) (Nat.zero_le _) (To.mk [0, 1] rfl rfl (by decide) ?_ ?_) ?_
   ·simp (etaStruct := .none) only [push_cast, DrawG, seval, lpt_zero, lpts_zero, celP]
   ·simp (etaStruct := .none) only [push_cast, DrawG, seval, lpt_zero, lr_zero, Int.sub_self]
   rintro k hk
   (iterate 2 ((try simp (etaStruct := .none) only [push_cast, DrawG, seval, lpts_len]); (try (refine xsu ?_; try exact xtI))))
   refine cond_i (fun h3 => ?_) (fun h3 => ?_)
   ·(try replace h3 := xhh h3)
    have hlt : k < L := by omega
    obtain ⟨ST, SR⟩ := lpt_step a sx sy X Y k L m hL hm (by omega)
    have hlr := LR k (by omega)
    have hnr := NR k (by omega)
    have hnr2 := NR (k + 1) (by omega)
    (iterate 2 ((try simp (etaStruct := .none) only [push_cast, DrawG, seval, lpts_len]); (try (refine xsu ?_; try exact xtI))))
    refine cond_j (fun o : Bool => ⟨[(51, I .i64 k), (50, I .i64 L), (14, B o), (13, I .i64 ((lr L m (k + 1) : Int) - L)), (12, .own 1), (11, I .i64 m), (10, I .i64 L), (9, I .i64 Y), (8, I .i64 sy), (7, I .i64 X), (6, I .i64 sx), (2, .ptr 0 0 0)], [(0, .blk 68 [I .i64 (lpt a sx sy X Y k).x, I .i64 (lpt a sx sy X Y k).y]), (1, .row 68 2 ((lpts a sx sy X Y k).map celP))], 2⟩) (fun o : Bool => (o = true ↔ 2 * L ≤ lr L m k + 2 * m)) (fun h4 => ?_) (fun h4 => ?_) ?_
    ·(try replace h4 := xhh h4)
     have e1 : (lr L m k : Int) - L + 2 * m - 2 * L = (lr L m (k + 1) : Int) - L := by rw [SR, if_pos (by omega)]; omega
     have e2 : decide ((L : Int) ≤ (lr L m k : Int) - L + 2 * m) = true := by simp; omega
     (iterate 2 ((try simp (etaStruct := .none) only [push_cast, DrawG, seval, lpts_len, e1, e2]); (try (refine xsu ?_; try exact xtI))))
     refine ⟨true, by simp; omega, To.mk [0, 1] rfl rfl (by decide) ?_ ?_⟩
     ·(iterate 2 ((try simp (etaStruct := .none) only [push_cast, DrawG, seval, lpts_len, e1, e2]); (try (refine xsu ?_; try exact xtI))))
     ·(iterate 2 ((try simp (etaStruct := .none) only [push_cast, DrawG, seval, lpts_len, e1, e2]); (try (refine xsu ?_; try exact xtI))))
    ·(try replace h4 := xhh h4)
     have e1 : (lr L m k : Int) - L + 2 * m = (lr L m (k + 1) : Int) - L := by rw [SR, if_neg (by omega)]; omega
     have e2 : decide ((L : Int) ≤ (lr L m (k + 1) : Int) - L) = false := by rw [← e1]; simp; omega
     (iterate 2 ((try simp (etaStruct := .none) only [push_cast, DrawG, seval, lpts_len, e1, e2]); (try (refine xsu ?_; try exact xtI))))
     refine ⟨false, by simp; omega, To.mk [0, 1] rfl rfl (by decide) ?_ ?_⟩
     ·(iterate 2 ((try simp (etaStruct := .none) only [push_cast, DrawG, seval, lpts_len, e1, e2]); (try (refine xsu ?_; try exact xtI))))
     ·(iterate 2 ((try simp (etaStruct := .none) only [push_cast, DrawG, seval, lpts_len, e1, e2]); (try (refine xsu ?_; try exact xtI))))
    ·rintro o ho
     (iterate 2 ((try simp (etaStruct := .none) only [push_cast, DrawG, seval, lpts_len]); (try (refine xsu ?_; try exact xtI))))
     refine cond_j (fun _u : Unit => ⟨[(51, I .i64 k), (50, I .i64 L), (14, B o), (13, I .i64 ((lr L m (k + 1) : Int) - L)), (12, .own 1), (11, I .i64 m), (10, I .i64 L), (9, I .i64 Y), (8, I .i64 sy), (7, I .i64 X), (6, I .i64 sx), (2, .ptr 0 0 0)], [(0, .blk 68 [I .i64 (lpt a sx sy X Y (k + 1)).x, I .i64 (lpt a sx sy X Y k).y]), (1, .row 68 2 ((lpts a sx sy X Y k).map celP))], 2⟩) (fun _u : Unit => Tr) (fun h5 => ?_) (fun h5 => ?_) ?_
     ·(try replace h5 := xhh h5)
      rw [ho] at h5
      have e1 : (lpt a sx sy X Y k).x + sx = (lpt a sx sy X Y (k + 1)).x := by rw [ST]; simp only; rw [if_pos (by omega)]
      (iterate 2 ((try simp (etaStruct := .none) only [push_cast, DrawG, seval, lpts_len, e1]); (try (refine xsu ?_; try exact xtI))))
      refine ⟨(), trI, To.mk [0, 1] rfl rfl (by decide) ?_ ?_⟩
      ·(iterate 2 ((try simp (etaStruct := .none) only [push_cast, DrawG, seval, lpts_len, e1]); (try (refine xsu ?_; try exact xtI))))
      ·(iterate 2 ((try simp (etaStruct := .none) only [push_cast, DrawG, seval, lpts_len, e1]); (try (refine xsu ?_; try exact xtI))))
     ·(try replace h5 := xhh h5)
      rw [Bool.eq_false_iff, ne_eq, ho] at h5
      have e1 : (lpt a sx sy X Y k).x = (lpt a sx sy X Y (k + 1)).x := by rw [ST]; simp only; rw [if_neg (by omega)]
      (iterate 2 ((try simp (etaStruct := .none) only [push_cast, DrawG, seval, lpts_len]); (try (refine xsu ?_; try exact xtI))))
      refine ⟨(), trI, To.mk [0, 1] rfl rfl (by decide) ?_ ?_⟩
      ·simp (etaStruct := .none) only [push_cast, DrawG, seval]
       rw [← e1]
       simp (etaStruct := .none) only [push_cast, DrawG, seval]
      ·(iterate 2 ((try simp (etaStruct := .none) only [push_cast, DrawG, seval, lpts_len]); (try (refine xsu ?_; try exact xtI))))
     ·rintro _ _
      (iterate 2 ((try simp (etaStruct := .none) only [push_cast, DrawG, seval, lpts_len]); (try (refine xsu ?_; try exact xtI))))
      refine cond_i (fun h6 => ?_) (fun h6 => ?_)
      ·(try replace h6 := xhh h6)
       rw [ho] at h6
       have e1 : (lpt a sx sy X Y k).y + sy = (lpt a sx sy X Y (k + 1)).y := by rw [ST]; simp only; rw [if_pos (by omega)]
       (iterate 2 ((try simp (etaStruct := .none) only [push_cast, DrawG, seval, lpts_len, e1]); (try (refine xsu ?_; try exact xtI))))
       refine ⟨k + 1, by omega, by omega, To.mk [0, 3] rfl rfl (by decide) ?_ ?_⟩
       ·(iterate 2 ((try simp (etaStruct := .none) only [push_cast, DrawG, seval, lpts_snoc, List.map_append, celP]); (try (refine xsu ?_; try exact xtI))))
       ·(iterate 2 ((try simp (etaStruct := .none) only [push_cast, DrawG, seval, lpts_len, e1]); (try (refine xsu ?_; try exact xtI))))
      ·(try replace h6 := xhh h6)
       rw [Bool.eq_false_iff, ne_eq, ho] at h6
       have e1 : (lpt a sx sy X Y k).y = (lpt a sx sy X Y (k + 1)).y := by rw [ST]; simp only; rw [if_neg (by omega)]
       (iterate 2 ((try simp (etaStruct := .none) only [push_cast, DrawG, seval, lpts_len]); (try (refine xsu ?_; try exact xtI))))
       refine ⟨k + 1, by omega, by omega, To.mk [0, 3] rfl rfl (by decide) ?_ ?_⟩
       ·(iterate 2 ((try simp (etaStruct := .none) only [push_cast, DrawG, seval, lpts_snoc, List.map_append, celP]); (try (refine xsu ?_; try exact xtI))))
        rw [← e1]
        exact ⟨Wk.refl _, rfl⟩
       ·(iterate 2 ((try simp (etaStruct := .none) only [push_cast, DrawG, seval, lpts_len]); (try (refine xsu ?_; try exact xtI))))
   ·(try replace h3 := xhh h3)
    obtain rfl : k = L := by omega
    (iterate 2 ((try simp (etaStruct := .none) only [push_cast, DrawG, seval, lpts_len]); (try (refine xsu ?_; try exact xtI))))
    exact xrz rfl
theorem lineOf_s (a b : Cel) (ha : nearB a = true) (hb : nearB b = true) (hm : max (b.x - a.x).natAbs (b.y - a.y).natAbs ≤ 120) : Spec Tryz.prog 160 [celA a, celA b] [] (.c (.sl 2 ((lineV a b).map celP))) [] := by
 have hx := nearB_true ha
 have hy := nearB_true hb
 obtain ⟨sx, hsx⟩ : ∃ s, s = (b.x - a.x).sign := ⟨_, rfl⟩
 obtain ⟨sy, hsy⟩ : ∃ s, s = (b.y - a.y).sign := ⟨_, rfl⟩
 obtain ⟨X, hX⟩ : ∃ s, s = (b.x - a.x).natAbs := ⟨_, rfl⟩
 obtain ⟨Y, hY⟩ : ∃ s, s = (b.y - a.y).natAbs := ⟨_, rfl⟩
 have F1 := far_s a.x b.x (by omega) (by omega)
 have F2 := far_s a.y b.y (by omega) (by omega)
 rw [show (a.x - b.x).natAbs = X by omega] at F1
 rw [show (a.y - b.y).natAbs = Y by omega] at F2
 unfold lineV
 rw [← hsx, ← hsy, ← hX, ← hY]
 rw [← hX, ← hY] at hm
 have EM : (if (Y : Int) > X then (Y : Int) else X) = (max X Y : Nat) := by split <;> omega
 have gx := sg (b.x - a.x)
 have gy := sg (b.y - a.y)
 rw [← hsx] at gx
 rw [← hsy] at gy
 refine spec_am Tryz.func160 rfl rfl mix 80 rfl [.tmp 4] Tryz.results160 (Nat.le_of_ble_eq_true rfl) ?_
 (iterate 2 ((try simp (etaStruct := .none) only [push_cast, DrawG, seval, EM, lpts_len]); (try (refine xsu ?_; try exact xtI))))
 refine caP (F1) ?_
 (iterate 2 ((try simp (etaStruct := .none) only [push_cast, DrawG, seval, EM, lpts_len]); (try (refine xsu ?_; try exact xtI))))
 refine caP (F2) ?_
 (iterate 2 ((try simp (etaStruct := .none) only [push_cast, DrawG, seval, EM, lpts_len]); (try (refine xsu ?_; try exact xtI))))
 (try (refine ⟨by kernel_rfl, ?_⟩))
 (iterate 2 ((try simp (etaStruct := .none) only [push_cast, DrawG, seval, EM, lpts_len]); (try (refine xsu ?_; try exact xtI))))
 refine loopI (fun k : Nat => ⟨[(8, I .i64 ((k : Int) + 1)), (7, .own 2), (6, I .i64 Y), (5, I .i64 X), (3, .ptr 1 0 0), (2, .ptr 0 0 0)], [(0, .blk 68 [I .i64 a.x, I .i64 a.y]), (1, .blk 68 [I .i64 b.x, I .i64 b.y]), (2, .row 68 2 ((lpts a sx sy X Y k).map celP))], 3⟩) (fun k : Nat => k ≤ max X Y) (fun k : Nat => max X Y - k) (0) (Nat.zero_le _) (To.mk [0, 1, 50] rfl rfl (by decide) ?_ ?_) ?_
 ·simp (etaStruct := .none) only [push_cast, DrawG, seval, lpts_zero, celP]
 ·simp (etaStruct := .none) only [push_cast, DrawG, seval, Int.zero_add]
 rintro k hk
 (iterate 2 ((try simp (etaStruct := .none) only [push_cast, DrawG, seval, EM, lpts_len]); (try (refine xsu ?_; try exact xtI))))
 refine cond_i (fun h1 => ?_) (fun h1 => ?_)
 ·(try replace h1 := xhh h1)
  have hlt : k < max X Y := by omega
  have m1 := mul_bound (k + 1) (b.x - a.x) 120 2000 (by omega) (by omega)
  have m2 := mul_bound (k + 1) (b.y - a.y) 120 2000 (by omega) (by omega)
  simp only [Int.natCast_add, Int.cast_ofNat_Int, Int.natCast_one] at m1 m2
  (iterate 2 ((try simp (etaStruct := .none) only [push_cast, DrawG, seval, EM, lpts_len]); (try (refine xsu ?_; try exact xtI))))
  refine cond_i (fun h2 => ?_) (fun h2 => ?_)
  ·(try replace h2 := xhh h2)
   have t1 := tdiv_step (k + 1) X (b.x - a.x) sx hsx.symm hX.symm (by omega)
   obtain ⟨s', a1, a2, a3⟩ := aside_sign X Y (k + 1) a.y b.y sy hsy.symm hY.symm
   have q1 := lq_le X Y (k + 1) (by omega) (by omega)
   have AS := aside_s X Y (k + 1) a.y b.y s' (by omega) (by omega) (by omega) (by omega) a1 a2 (by omega) (by omega)
   rw [a3] at AS
   have LE : lpt a sx sy X Y (k + 1) = ⟨a.x + sx * (k + 1 : Nat), a.y + sy * lq X Y (k + 1)⟩ := by unfold lpt; rw [if_pos (by omega)]
   have q3 : -120 ≤ sx * ((k : Int) + 1) ∧ sx * ((k : Int) + 1) ≤ 120 := by rcases gx with h | h | h <;> rw [h] <;> omega
   simp only [Int.natCast_add, Int.cast_ofNat_Int, Int.natCast_one] at t1 LE AS
   (iterate 2 ((try simp (etaStruct := .none) only [push_cast, DrawG, seval, EM, lpts_len, t1]); (try (refine xsu ?_; try exact xtI))))
   (try (refine ⟨by kernel_rfl, ?_⟩))
   (iterate 2 ((try simp (etaStruct := .none) only [push_cast, DrawG, seval, EM, lpts_len, t1]); (try (refine xsu ?_; try exact xtI))))
   refine caP (AS) ?_
   (iterate 2 ((try simp (etaStruct := .none) only [push_cast, DrawG, seval, EM, lpts_len, t1]); (try (refine xsu ?_; try exact xtI))))
   refine ⟨k + 1, by omega, by omega, To.mk [0, 1, 61] rfl rfl (by decide) ?_ ?_⟩
   ·(iterate 2 ((try simp (etaStruct := .none) only [push_cast, DrawG, seval, lpts_snoc, List.map_append, celP, LE]); (try (refine xsu ?_; try exact xtI))))
   ·(iterate 2 ((try simp (etaStruct := .none) only [push_cast, DrawG, seval, EM, lpts_len, t1]); (try (refine xsu ?_; try exact xtI))))
  ·(try replace h2 := xhh h2)
   have t1 := tdiv_step (k + 1) Y (b.y - a.y) sy hsy.symm hY.symm (by omega)
   obtain ⟨s', a1, a2, a3⟩ := aside_sign Y X (k + 1) a.x b.x sx hsx.symm hX.symm
   have q1 := lq_le Y X (k + 1) (by omega) (by omega)
   have AS := aside_s Y X (k + 1) a.x b.x s' (by omega) (by omega) (by omega) (by omega) a1 a2 (by omega) (by omega)
   rw [a3] at AS
   have LE : lpt a sx sy X Y (k + 1) = ⟨a.x + sx * lq Y X (k + 1), a.y + sy * (k + 1 : Nat)⟩ := by unfold lpt; rw [if_neg (by omega)]
   have q3 : -120 ≤ sy * ((k : Int) + 1) ∧ sy * ((k : Int) + 1) ≤ 120 := by rcases gy with h | h | h <;> rw [h] <;> omega
   simp only [Int.natCast_add, Int.cast_ofNat_Int, Int.natCast_one] at t1 LE AS
   (iterate 2 ((try simp (etaStruct := .none) only [push_cast, DrawG, seval, EM, lpts_len, t1]); (try (refine xsu ?_; try exact xtI))))
   (try (refine ⟨by kernel_rfl, ?_⟩))
   (iterate 2 ((try simp (etaStruct := .none) only [push_cast, DrawG, seval, EM, lpts_len, t1]); (try (refine xsu ?_; try exact xtI))))
   refine caP (AS) ?_
   (iterate 2 ((try simp (etaStruct := .none) only [push_cast, DrawG, seval, EM, lpts_len, t1]); (try (refine xsu ?_; try exact xtI))))
   refine ⟨k + 1, by omega, by omega, To.mk [0, 1, 61] rfl rfl (by decide) ?_ ?_⟩
   ·(iterate 2 ((try simp (etaStruct := .none) only [push_cast, DrawG, seval, lpts_snoc, List.map_append, celP, LE]); (try (refine xsu ?_; try exact xtI))))
   ·(iterate 2 ((try simp (etaStruct := .none) only [push_cast, DrawG, seval, EM, lpts_len, t1]); (try (refine xsu ?_; try exact xtI))))
 ·(try replace h1 := xhh h1)
  obtain rfl : k = max X Y := by omega
  (iterate 2 ((try simp (etaStruct := .none) only [push_cast, DrawG, seval, EM, lpts_len]); (try (refine xsu ?_; try exact xtI))))
  exact xrz rfl
end Go.Proofs.YtllmjdcblfkfaaaGreat
namespace Go.Proofs.YtllmjdcblfkfaaaGreat
set_option linter.all false
open Go.RowKit
theorem lq_top (n m : Nat) (hn : 0 < n) (_ : m ≤ n) : lq n m n = m := by
 unfold lq
 rw [show 2 * n * m + n = n + 2 * n * m by omega, Nat.add_mul_div_left _ _ (by omega), Nat.div_eq_of_lt (by omega)]; omega
theorem sgn_mul (d : Int) (n : Nat) (h : n = d.natAbs) : d.sign * n = d := by rw [h]; exact Int.sign_mul_natAbs d
theorem way_in (d : Int) (q : Nat) (hq : q ≤ d.natAbs) (f : Int) : min f (f + d) ≤ f + d.sign * q ∧ f + d.sign * q ≤ max f (f + d) := by
 rcases Int.lt_trichotomy d 0 with h | h | h
 ·rw [Int.sign_eq_neg_one_of_neg h]; omega
 ·subst h; simp
 ·rw [Int.sign_eq_one_of_pos h]; omega
theorem lpt_box (a b : Cel) (k : Nat) (hk : k ≤ max (b.x - a.x).natAbs (b.y - a.y).natAbs) :
 (min a.x b.x ≤ (lpt a (b.x - a.x).sign (b.y - a.y).sign (b.x - a.x).natAbs (b.y - a.y).natAbs k).x ∧ (lpt a (b.x - a.x).sign (b.y - a.y).sign (b.x - a.x).natAbs (b.y - a.y).natAbs k).x ≤ max a.x b.x) ∧
 (min a.y b.y ≤ (lpt a (b.x - a.x).sign (b.y - a.y).sign (b.x - a.x).natAbs (b.y - a.y).natAbs k).y ∧ (lpt a (b.x - a.x).sign (b.y - a.y).sign (b.x - a.x).natAbs (b.y - a.y).natAbs k).y ≤ max a.y b.y) := by
 have ex : a.x + (b.x - a.x) = b.x := by omega
 have ey : a.y + (b.y - a.y) = b.y := by omega
 unfold lpt
 split
 ·rename_i h
  have hq : lq (b.x - a.x).natAbs (b.y - a.y).natAbs k ≤ (b.y - a.y).natAbs := by
   rcases Nat.eq_zero_or_pos (b.x - a.x).natAbs with h0 | h0
   ·have : k = 0 := by omega
    subst this; rw [lq_zero]; omega
   ·exact lq_le _ _ _ h0 (by omega)
  have w1 := way_in (b.x - a.x) k (by omega) a.x
  have w2 := way_in (b.y - a.y) _ hq a.y
  rw [ex] at w1; rw [ey] at w2
  exact ⟨w1, w2⟩
 ·rename_i h
  have hq : lq (b.y - a.y).natAbs (b.x - a.x).natAbs k ≤ (b.x - a.x).natAbs := lq_le _ _ _ (by omega) (by omega)
  have w1 := way_in (b.y - a.y) k (by omega) a.y
  have w2 := way_in (b.x - a.x) _ hq a.x
  rw [ey] at w1; rw [ex] at w2
  exact ⟨w2, w1⟩
theorem lpt_last (a b : Cel) : lpt a (b.x - a.x).sign (b.y - a.y).sign (b.x - a.x).natAbs (b.y - a.y).natAbs (max (b.x - a.x).natAbs (b.y - a.y).natAbs) = b := by
 obtain ⟨bx, by_⟩ := b
 unfold lpt
 split
 ·rename_i h
  simp only at h ⊢
  rw [Nat.max_eq_left h, sgn_mul _ _ rfl]
  rcases Nat.eq_zero_or_pos (bx - a.x).natAbs with h0 | h0
  ·rw [h0, lq_zero]; congr 1; omega; simp; omega
  ·rw [lq_top _ _ h0 h, sgn_mul _ _ rfl]; congr 1 <;> omega
 ·rename_i h
  simp only at h ⊢
  rw [Nat.max_eq_right (by omega), sgn_mul _ _ rfl, lq_top _ _ (by omega) (by omega), sgn_mul _ _ rfl]; congr 1 <;> omega
theorem sgn_ne {d : Int} {k : Nat} (h1 : 0 < k) (h2 : k < d.natAbs) : d.sign * k ≠ 0 ∧ d.sign * k ≠ d := by
 rcases Int.lt_trichotomy d 0 with h | h | h
 ·rw [Int.sign_eq_neg_one_of_neg h]; omega
 ·subst h; simp at h2
 ·rw [Int.sign_eq_one_of_pos h]; omega
theorem lpt_mid (a b : Cel) (k : Nat) (h0 : 0 < k) (hk : k < max (b.x - a.x).natAbs (b.y - a.y).natAbs) :
 lpt a (b.x - a.x).sign (b.y - a.y).sign (b.x - a.x).natAbs (b.y - a.y).natAbs k ≠ a ∧ lpt a (b.x - a.x).sign (b.y - a.y).sign (b.x - a.x).natAbs (b.y - a.y).natAbs k ≠ b := by
 have key : ∀ p : Cel, (p.x ≠ a.x ∧ p.x ≠ b.x ∨ p.y ≠ a.y ∧ p.y ≠ b.y) → p ≠ a ∧ p ≠ b := by
  intro p h
  constructor
  ·intro e; subst e; omega
  ·intro e; subst e; omega
 apply key
 unfold lpt
 split
 ·have := sgn_ne (d := b.x - a.x) h0 (by omega)
  simp only; omega
 ·have := sgn_ne (d := b.y - a.y) h0 (by omega)
  simp only; omega
theorem lineV_at (a b : Cel) (k : Nat) (hk : k ≤ max (b.x - a.x).natAbs (b.y - a.y).natAbs) : (lineV a b).getD k default = lpt a (b.x - a.x).sign (b.y - a.y).sign (b.x - a.x).natAbs (b.y - a.y).natAbs k := by
 rw [getD_at _ _ (by rw [lineV_len]; omega)]
 simp [lineV, lpts]
theorem inF_near {f : Fld} {c : Cel} (h : fldE f = 0) (hc : inF f c = true) : nearB c = true := by
 obtain ⟨h1, h2, _, _⟩ := fldE_ok h
 obtain ⟨h3, h4⟩ := inF_iff.1 hc
 unfold nearB; simp; omega
theorem line_in {f : Fld} {a b : Cel} (ha : inF f a = true) (hb : inF f b = true) (k : Nat) (hk : k ≤ max (b.x - a.x).natAbs (b.y - a.y).natAbs) : inF f ((lineV a b).getD k default) = true := by
 rw [lineV_at a b k hk]
 have := lpt_box a b k hk
 rw [inF_iff] at ha hb ⊢
 omega
theorem line_far {f : Fld} {a b : Cel} (h : fldE f = 0) (ha : inF f a = true) (hb : inF f b = true) : (b.x - a.x).natAbs ≤ 39 ∧ (b.y - a.y).natAbs ≤ 39 := by
 obtain ⟨h1, h2, _, _⟩ := fldE_ok h
 rw [inF_iff] at ha hb
 omega
def clearP (p : Int) : Bool := decide (p % 3 = 0)
def openV (f : Fld) (a b : Cel) : Bool := (List.range (max (b.x - a.x).natAbs (b.y - a.y).natAbs - 1)).all fun k => clearP (placeV f ((lineV a b).getD (k + 1) default))
theorem openV_t {f : Fld} {a b : Cel} (h : ∀ k, 0 < k → k < max (b.x - a.x).natAbs (b.y - a.y).natAbs → clearP (placeV f ((lineV a b).getD k default)) = true) : openV f a b = true := by
 unfold openV
 rw [List.all_eq_true]
 intro k hk
 exact h (k + 1) (by omega) (by simp at hk; omega)
theorem openV_f {f : Fld} {a b : Cel} {k : Nat} (h0 : 0 < k) (h1 : k < max (b.x - a.x).natAbs (b.y - a.y).natAbs) (h : clearP (placeV f ((lineV a b).getD k default)) = false) : openV f a b = false := by
 unfold openV
 rw [List.all_eq_false]
 refine ⟨k - 1, by simp; omega, ?_⟩
 rw [show k - 1 + 1 = k by omega, h]; simp
def looksV (f : Fld) (a b : Cel) : Bool := openV f a b || openV f b a
theorem place_03 {f : Fld} (h : fldE f = 0) {c : Cel} (hc : inF f c = true) : 0 ≤ placeV f c ∧ placeV f c < 4 := by
 obtain ⟨_, _, _, h4⟩ := fldE_ok h
 obtain ⟨_, _, i3, i4, _⟩ := place_ix h hc
 have hl : (c.y * f.w + c.x).toNat < f.p.length := by omega
 unfold placeV
 rw [getD_at _ _ hl]
 exact h4 _ (List.getElem_mem hl)
end Go.Proofs.YtllmjdcblfkfaaaGreat
namespace Go.Proofs.YtllmjdcblfkfaaaGreat
set_option linter.all false
open Go.RowKit
set_option maxRecDepth 100000
set_option maxHeartbeats 2000000
theorem bare_s (f : Fld) (a b : Cel) (hf : fldE f = 0) (ha : inF f a = true) (hb : inF f b = true) : Spec Tryz.prog 142 [fldA f, celA a, celA b] [] (B (openV f a b)) [] := by
 have CS := cells_s a b (inF_near hf ha) (inF_near hf hb)
 have LL := lineV_len a b
 have LF := line_far hf ha hb
 have LI := fun k hk => line_in ha hb k hk
 have LT := @openV_t f a b
 have LN := @openV_f f a b
 have PL : f.p.length ≤ 1600 := (place_ix hf ha).2.2.2.2
 generalize lineV a b = l at CS LL LI LT LN
 obtain ⟨L, hL⟩ : ∃ L, L = max (b.x - a.x).natAbs (b.y - a.y).natAbs := ⟨_, rfl⟩
 rw [← hL] at LL LI LT LN
 have hLL : L ≤ 39 := by omega
 clear hL
 refine spec_am Tryz.func142 rfl rfl mix 45 rfl [.tmp 6] Tryz.results142 (Nat.le_of_ble_eq_true rfl) ?_
 (iterate 2 ((try simp (etaStruct := .none) only [push_cast, DrawG, seval, LL, Int.add_sub_cancel]); (try (refine xsu ?_; try exact xtI))))
 refine caP (CS) ?_
 (iterate 2 ((try simp (etaStruct := .none) only [push_cast, DrawG, seval, LL, Int.add_sub_cancel]); (try (refine xsu ?_; try exact xtI))))
 refine cond_i (fun h1 => ?_) (fun h1 => ?_)
 ·(try replace h1 := xhh h1)
  have hl2 : L ≤ 1 := by omega
  have e := LT (fun k h0 h1 => by omega)
  (iterate 2 ((try simp (etaStruct := .none) only [push_cast, DrawG, seval, LL, Int.add_sub_cancel]); (try (refine xsu ?_; try exact xtI))))
  (first | (refine retA rfl (Wk.of ?_); (try simp (etaStruct := .none) only [push_cast, DrawG, seval]); first | done | (simp [e, *]; done) | (simp_all [e]; done)) | (refine retA rfl ?_; (try simp (etaStruct := .none) only [push_cast, DrawG, seval]); (try simp [e, *]); (try exact wkc)))
 ·(try replace h1 := xhh h1)
  have e3 : ((l.map celP).take L).drop 1 = ((l.take L).drop 1).map celP := by rw [List.map_drop, List.map_take]
  have e4 : ((l.take L).drop 1).length = L - 1 := by simp; omega
  have e5 : ∀ k, k < L - 1 → ((l.take L).drop 1).getD k default = l.getD (k + 1) default := by intro k hk; simp [List.getD_eq_getElem?_getD, List.getElem?_drop, List.getElem?_take, show k + 1 < L by omega, Nat.add_comm]
  (iterate 2 ((try simp (etaStruct := .none) only [push_cast, DrawG, seval, LL, Int.add_sub_cancel, e3, e4]); (try (refine xsu ?_; try exact xtI))))
  refine loopI (fun k : Nat => ⟨[(28, I .i64 k), (27, I .i64 (L - 1 : Nat)), (26, .c (.sl 2 (((l.take L).drop 1).map celP))), (3, .ptr 0 0 0)], [(0, .blk 24 [I .i64 f.w, I .i64 f.h, .c (.sl 1 (f.p.map i64P))])], 1⟩) (fun k : Nat => k ≤ L - 1 ∧ ∀ j, 0 < j → j ≤ k → clearP (placeV f (l.getD j default)) = true) (fun k : Nat => L - 1 - k) (0) (⟨Nat.zero_le _, fun j h h' => by omega⟩) (To.mk [0] rfl rfl (by decide) ?_ ?_) ?_
  ·simp (etaStruct := .none) only [push_cast, DrawG, seval]
  ·simp (etaStruct := .none) only [push_cast, DrawG, seval]
  rintro k ⟨hk, hn⟩
  (iterate 2 ((try simp (etaStruct := .none) only [push_cast, DrawG, seval, LL, Int.add_sub_cancel, e3, e4]); (try (refine xsu ?_; try exact xtI))))
  refine cond_i (fun h2 => ?_) (fun h2 => ?_)
  ·(try replace h2 := xhh h2)
   have hlt : k < L - 1 := by omega
   have hlt2 : k < ((l.take L).drop 1).length := by omega
   have e6 := e5 k hlt
   have hin := LI (k + 1) (by omega)
   have AT := at_s f (l.getD (k + 1) default) (by omega)
   have AV : atV f (l.getD (k + 1) default) = (placeV f (l.getD (k + 1) default), 0) := by unfold atV; rw [if_neg (by simp [hf]), if_pos hin]
   rw [AV] at AT
   have p03 := place_03 hf hin
   (iterate 2 ((try simp (etaStruct := .none) only [push_cast, DrawG, seval, LL, Int.add_sub_cancel, e3, e4, getD_in _ _ _ hlt2, celP, e6]); (try (refine xsu ?_; try exact xtI))))
   refine caP (AT) ?_
   (iterate 2 ((try simp (etaStruct := .none) only [push_cast, DrawG, seval, LL, Int.add_sub_cancel, e3, e4, getD_in _ _ _ hlt2, celP, e6]); (try (refine xsu ?_; try exact xtI))))
   refine cond_i (fun h3 => ?_) (fun h3 => ?_)
   ·(try replace h3 := xhh h3)
    have hc : clearP (placeV f (l.getD (k + 1) default)) = false := decide_eq_false (by omega)
    have e := LN (by omega) (by omega) hc
    (iterate 2 ((try simp (etaStruct := .none) only [push_cast, DrawG, seval, LL, Int.add_sub_cancel, e3, e4, getD_in _ _ _ hlt2, celP, e6]); (try (refine xsu ?_; try exact xtI))))
    (first | (refine retA rfl (Wk.of ?_); (try simp (etaStruct := .none) only [push_cast, DrawG, seval]); first | done | (simp [e, *]; done) | (simp_all [e]; done)) | (refine retA rfl ?_; (try simp (etaStruct := .none) only [push_cast, DrawG, seval]); (try simp [e, *]); (try exact wkc)))
   ·(try replace h3 := xhh h3)
    have hc : clearP (placeV f (l.getD (k + 1) default)) = true := decide_eq_true (by omega)
    (iterate 2 ((try simp (etaStruct := .none) only [push_cast, DrawG, seval, LL, Int.add_sub_cancel, e3, e4, getD_in _ _ _ hlt2, celP, e6]); (try (refine xsu ?_; try exact xtI))))
    refine ⟨k + 1, ⟨by omega, fun j h0 h1 => by rcases Nat.lt_or_ge k j with h | h; rw [show j = k + 1 by omega]; exact hc; exact hn j h0 h⟩, by omega, To.mk [0] rfl rfl (by decide) ?_ ?_⟩
    ·(iterate 2 ((try simp (etaStruct := .none) only [push_cast, DrawG, seval, LL, Int.add_sub_cancel, e3, e4, getD_in _ _ _ hlt2, celP, e6]); (try (refine xsu ?_; try exact xtI))))
    ·(iterate 2 ((try simp (etaStruct := .none) only [push_cast, DrawG, seval, LL, Int.add_sub_cancel, e3, e4, getD_in _ _ _ hlt2, celP, e6]); (try (refine xsu ?_; try exact xtI))))
  ·(try replace h2 := xhh h2)
   have e := LT (fun j h0 h1 => hn j h0 (by omega))
   (iterate 2 ((try simp (etaStruct := .none) only [push_cast, DrawG, seval, LL, Int.add_sub_cancel, e3, e4]); (try (refine xsu ?_; try exact xtI))))
   (first | (refine retA rfl (Wk.of ?_); (try simp (etaStruct := .none) only [push_cast, DrawG, seval]); first | done | (simp [e, *]; done) | (simp_all [e]; done)) | (refine retA rfl ?_; (try simp (etaStruct := .none) only [push_cast, DrawG, seval]); (try simp [e, *]); (try exact wkc)))
theorem openLine_s (f : Fld) (a b : Cel) (hf : fldE f = 0) (ha : inF f a = true) (hb : inF f b = true) : Spec Tryz.prog 152 [fldA f, celA a, celA b] [] (B (openV f a b)) [] := by
 have LF := line_far hf ha hb
 have CS := lineOf_s a b (inF_near hf ha) (inF_near hf hb) (by omega)
 have LL := lineV_len a b
 have LI := fun k hk => line_in ha hb k hk
 have LT := @openV_t f a b
 have LN := @openV_f f a b
 have LA := lineV_at a b
 have MID := lpt_mid a b
 have L0 := lpt_zero a (b.x - a.x).sign (b.y - a.y).sign (b.x - a.x).natAbs (b.y - a.y).natAbs
 have LZ := lpt_last a b
 have PL : f.p.length ≤ 1600 := (place_ix hf ha).2.2.2.2
 generalize lineV a b = l at CS LL LI LT LN LA
 generalize lpt a (b.x - a.x).sign (b.y - a.y).sign (b.x - a.x).natAbs (b.y - a.y).natAbs = g at LA MID L0 LZ
 obtain ⟨L, hL⟩ : ∃ L, L = max (b.x - a.x).natAbs (b.y - a.y).natAbs := ⟨_, rfl⟩
 rw [← hL] at LL LI LT LN LA MID LZ
 have hLL : L ≤ 39 := by omega
 clear hL
 refine spec_am Tryz.func152 rfl rfl mix 35 rfl [.tmp 6] Tryz.results152 (Nat.le_of_ble_eq_true rfl) ?_
 (iterate 2 ((try simp (etaStruct := .none) only [push_cast, DrawG, seval, LL]); (try (refine xsu ?_; try exact xtI))))
 refine caP (CS) ?_
 (iterate 2 ((try simp (etaStruct := .none) only [push_cast, DrawG, seval, LL]); (try (refine xsu ?_; try exact xtI))))
 refine loopI (fun k : Nat => ⟨[(14, I .i64 k), (13, I .i64 (L + 1 : Nat)), (12, .c (.sl 2 (l.map celP))), (5, .ptr 2 0 0), (4, .ptr 1 0 0), (3, .ptr 0 0 0)], [(0, .blk 24 [I .i64 f.w, I .i64 f.h, .c (.sl 1 (f.p.map i64P))]), (1, .blk 68 [I .i64 a.x, I .i64 a.y]), (2, .blk 68 [I .i64 b.x, I .i64 b.y])], 3⟩) (fun k : Nat => k ≤ L + 1 ∧ ∀ j, 0 < j → j < k → j < L → clearP (placeV f (l.getD j default)) = true) (fun k : Nat => L + 1 - k) (0) (⟨Nat.zero_le _, fun j h h' => by omega⟩) (To.mk [0, 1, 2] rfl rfl (by decide) ?_ ?_) ?_
 ·simp (etaStruct := .none) only [push_cast, DrawG, seval]
 ·simp (etaStruct := .none) only [push_cast, DrawG, seval]
 rintro k ⟨hk, hn⟩
 (iterate 2 ((try simp (etaStruct := .none) only [push_cast, DrawG, seval, LL]); (try (refine xsu ?_; try exact xtI))))
 refine cond_i (fun h1 => ?_) (fun h1 => ?_)
 ·(try replace h1 := xhh h1)
  have hlt : k < l.length := by omega
  have hin := LI k (by omega)
  have p03 := place_03 hf hin
  have eL := LA k (by omega)
  have PS := place_s f (l.getD k default) hf hin
  have ca := cel_dec (l.getD k default) a
  have cb := cel_dec (l.getD k default) b
  (iterate 2 ((try simp (etaStruct := .none) only [push_cast, DrawG, seval, LL, getD_in _ _ _ hlt, celP, ca, cb]); (try (refine xsu ?_; try exact xtI))))
  refine caP (PS) ?_
  (iterate 2 ((try simp (etaStruct := .none) only [push_cast, DrawG, seval, LL, getD_in _ _ _ hlt, celP, ca, cb]); (try (refine xsu ?_; try exact xtI))))
  refine cond_i (fun h2 => ?_) (fun h2 => ?_)
  ·(try replace h2 := xhh h2)
   have hk0 : 0 < k := by
    rcases Nat.eq_zero_or_pos k with e | e
    ·subst e; rw [eL, L0] at h2; exact absurd rfl h2.1.1
    ·exact e
   have hkL : k < L := by
    rcases Nat.lt_or_ge k L with e | e
    ·exact e
    ·obtain rfl : k = L := by omega
     rw [eL, LZ] at h2; exact absurd rfl h2.1.2
   have e := LN hk0 hkL (decide_eq_false h2.2)
   (iterate 2 ((try simp (etaStruct := .none) only [push_cast, DrawG, seval, LL, getD_in _ _ _ hlt, celP, ca, cb]); (try (refine xsu ?_; try exact xtI))))
   (first | (refine retA rfl (Wk.of ?_); (try simp (etaStruct := .none) only [push_cast, DrawG, seval]); first | done | (simp [e, *]; done) | (simp_all [e]; done)) | (refine retA rfl ?_; (try simp (etaStruct := .none) only [push_cast, DrawG, seval]); (try simp [e, *]); (try exact wkc)))
  ·(try replace h2 := xhh h2)
   have hc : 0 < k → k < L → clearP (placeV f (l.getD k default)) = true := by
    intro k0 k1
    have mm := MID k k0 (by omega)
    rw [← eL] at mm
    rcases h2 with (h | h) | h
    ·exact absurd h mm.1
    ·exact absurd h mm.2
    ·exact decide_eq_true h
   (iterate 2 ((try simp (etaStruct := .none) only [push_cast, DrawG, seval, LL, getD_in _ _ _ hlt, celP, ca, cb]); (try (refine xsu ?_; try exact xtI))))
   refine ⟨k + 1, ⟨by omega, fun j h0 h1 hj => by rcases Nat.lt_or_ge j k with h | h; exact hn j h0 h hj; rw [show j = k by omega] at hj ⊢; exact hc (by omega) hj⟩, by omega, To.mk [0, 1, 2] rfl rfl (by decide) ?_ ?_⟩
   ·(iterate 2 ((try simp (etaStruct := .none) only [push_cast, DrawG, seval, LL, getD_in _ _ _ hlt, celP, ca, cb]); (try (refine xsu ?_; try exact xtI))))
   ·(iterate 2 ((try simp (etaStruct := .none) only [push_cast, DrawG, seval, LL, getD_in _ _ _ hlt, celP, ca, cb]); (try (refine xsu ?_; try exact xtI))))
 ·(try replace h1 := xhh h1)
  have e := LT (fun j h0 h1 => hn j h0 (by omega) h1)
  (iterate 2 ((try simp (etaStruct := .none) only [push_cast, DrawG, seval, LL]); (try (refine xsu ?_; try exact xtI))))
  (first | (refine retA rfl (Wk.of ?_); (try simp (etaStruct := .none) only [push_cast, DrawG, seval]); first | done | (simp [e, *]; done) | (simp_all [e]; done)) | (refine retA rfl ?_; (try simp (etaStruct := .none) only [push_cast, DrawG, seval]); (try simp [e, *]); (try exact wkc)))
theorem looks_s (f : Fld) (a b : Cel) (hf : fldE f = 0) (ha : inF f a = true) (hb : inF f b = true) : Spec Tryz.prog 138 [fldA f, celA a, celA b] [] (B (looksV f a b)) [] := by
 refine spec_am Tryz.func138 rfl rfl mix 17 rfl [.tmp 6] Tryz.results138 (Nat.le_of_ble_eq_true rfl) ?_
 (try (refine xst ?_; try exact xtI))
 refine caP (openLine_s f a b hf ha hb) ?_
 (try (refine xst ?_; try exact xtI))
 refine gcP (fun hcc => openLine_s f b a hf hb ha) ?_
 (try (refine xst ?_; try exact xtI))
 (first | (refine retA rfl (Wk.of ?_); (try simp (etaStruct := .none) only [push_cast, DrawG, seval]); first | done | (simp [looksV, *]; done) | (simp_all [looksV]; done)) | (refine retA rfl ?_; (try simp (etaStruct := .none) only [push_cast, DrawG, seval]); (try simp [looksV, *]); (try exact wkc)))
theorem at_2 (f : Fld) (c : Cel) : (atV f c).2 = if fldE f ≠ 0 then fldE f else if inF f c then 0 else 7 := by
 unfold atV; split
 ·rfl
 ·split <;> rfl
theorem at_0 {f : Fld} {c : Cel} (h : (atV f c).2 = 0) : fldE f = 0 ∧ inF f c = true := by
 rw [at_2] at h
 split at h
 ·rename_i h1; exact absurd h h1
 ·rename_i h1
  split at h
  ·rename_i h2; exact ⟨Decidable.not_not.1 h1, h2⟩
  ·simp at h
def seesV (f : Fld) (a b : Cel) : Bool × Int := if fldE f ≠ 0 then (false, fldE f) else if inF f a && inF f b then (looksV f a b, 0) else (false, 7)
theorem sees_s (f : Fld) (a b : Cel) (hl : f.p.length ≤ 9223372036854775807) : Spec Tryz.prog 121 [fldA f, celA a, celA b] [] (.tup [B (seesV f a b).1, I .i64 (seesV f a b).2]) [] := by
 refine spec_am Tryz.func121 rfl rfl mix 38 rfl [.tmp 6, .tmp 7] Tryz.results121 (Nat.le_of_ble_eq_true rfl) ?_
 (try (refine xst ?_; try exact xtI))
 refine loopI (fun k : Nat => ⟨[(15, I .i64 k), (14, .agg [I .i64 a.x, I .i64 a.y, I .i64 b.x, I .i64 b.y]), (5, .ptr 2 0 0), (4, .ptr 1 0 0), (3, .ptr 0 0 0)], [(0, .blk 24 [I .i64 f.w, I .i64 f.h, .c (.sl 1 (f.p.map i64P))]), (1, .blk 68 [I .i64 a.x, I .i64 a.y]), (2, .blk 68 [I .i64 b.x, I .i64 b.y])], 3⟩) (fun k : Nat => k ≤ 2 ∧ (0 < k → fldE f = 0 ∧ inF f a = true) ∧ (1 < k → inF f b = true)) (fun k : Nat => 2 - k) (0) (⟨by omega, fun h => by omega, fun h => by omega⟩) (To.mk [0, 1, 2] rfl rfl (by decide) ?_ ?_) ?_
 ·simp (etaStruct := .none) only [push_cast, DrawG, seval]
 ·simp (etaStruct := .none) only [push_cast, DrawG, seval]
 rintro k ⟨hk, q1, q2⟩
 (try (refine xst ?_; try exact xtI))
 refine cond_i (fun h1 => ?_) (fun h1 => ?_)
 ·(try replace h1 := xhh h1)
  obtain ⟨c, hc1, hc2, hc3⟩ : ∃ c : Cel, (k = 0 → c = a) ∧ (k = 1 → c = b) ∧ List.take 2 (List.drop (k * 2) [AV.c (PV.v (.int .i64 a.x)), .c (.v (.int .i64 a.y)), .c (.v (.int .i64 b.x)), .c (.v (.int .i64 b.y))]) = [.c (.v (.int .i64 c.x)), .c (.v (.int .i64 c.y))] := by
   rcases (show k = 0 ∨ k = 1 by omega) with rfl | rfl
   ·exact ⟨a, fun _ => rfl, fun h => by omega, rfl⟩
   ·exact ⟨b, fun h => by omega, fun _ => rfl, rfl⟩
  (iterate 2 ((try simp (etaStruct := .none) only [push_cast, DrawG, seval, hc3]); (try (refine xsu ?_; try exact xtI))))
  refine caP (at_s f c hl) ?_
  (iterate 2 ((try simp (etaStruct := .none) only [push_cast, DrawG, seval, hc3]); (try (refine xsu ?_; try exact xtI))))
  refine cond_i (fun h2 => ?_) (fun h2 => ?_)
  ·(try replace h2 := xhh h2)
   have e2 := at_2 f c
   have e3 : seesV f a b = (false, (atV f c).2) := by
    unfold seesV
    by_cases hf : fldE f = 0
    ·rw [if_neg (by simp [hf])]
     rw [if_neg (by simp [hf])] at e2
     cases hc : inF f c with
     | true => rw [hc] at e2; exact absurd e2 h2
     | false =>
      rw [hc] at e2
      rw [e2]
      rcases (show k = 0 ∨ k = 1 by omega) with h | h
      ·rw [← hc1 h, hc]; rfl
      ·rw [← hc2 h, hc]; simp
    ·rw [if_pos hf] at e2 ⊢; rw [e2]
   (iterate 2 ((try simp (etaStruct := .none) only [push_cast, DrawG, seval, hc3]); (try (refine xsu ?_; try exact xtI))))
   (first | (refine retA rfl (Wk.of ?_); (try simp (etaStruct := .none) only [push_cast, DrawG, seval]); first | done | (simp [e3, *]; done) | (simp_all [e3]; done)) | (refine retA rfl ?_; (try simp (etaStruct := .none) only [push_cast, DrawG, seval]); (try simp [e3, *]); (try exact wkc)))
  ·(try replace h2 := xhh h2)
   obtain ⟨a1, a2⟩ := at_0 h2
   (iterate 2 ((try simp (etaStruct := .none) only [push_cast, DrawG, seval, hc3]); (try (refine xsu ?_; try exact xtI))))
   refine ⟨k + 1, ⟨by omega, fun _ => ⟨a1, by rcases (show k = 0 ∨ k = 1 by omega) with h | h; rw [← hc1 h]; exact a2; exact (q1 (by omega)).2⟩, fun h => by rw [← hc2 (by omega)]; exact a2⟩, by omega, To.mk [0, 1, 2] rfl rfl (by decide) ?_ ?_⟩
   ·(iterate 2 ((try simp (etaStruct := .none) only [push_cast, DrawG, seval, hc3]); (try (refine xsu ?_; try exact xtI))))
   ·(iterate 2 ((try simp (etaStruct := .none) only [push_cast, DrawG, seval, hc3]); (try (refine xsu ?_; try exact xtI))))
 ·(try replace h1 := xhh h1)
  obtain ⟨hf, ha⟩ := q1 (by omega)
  have hb := q2 (by omega)
  have e4 : seesV f a b = (looksV f a b, 0) := by unfold seesV; rw [if_neg (by simp [hf]), if_pos (by simp [ha, hb])]
  (try (refine xst ?_; try exact xtI))
  refine caP (bare_s f a b hf ha hb) ?_
  (try (refine xst ?_; try exact xtI))
  refine gcP (fun hcc => bare_s f b a hf hb ha) ?_
  (try (refine xst ?_; try exact xtI))
  (first | (refine retA rfl (Wk.of ?_); (try simp (etaStruct := .none) only [push_cast, DrawG, seval]); first | done | (simp [e4, looksV, *]; done) | (simp_all [e4, looksV]; done)) | (refine retA rfl ?_; (try simp (etaStruct := .none) only [push_cast, DrawG, seval]); (try simp [e4, looksV, *]); (try exact wkc)))
end Go.Proofs.YtllmjdcblfkfaaaGreat
namespace Go.Proofs.YtllmjdcblfkfaaaGreat
set_option linter.all false
open Go.RowKit
set_option maxRecDepth 100000
def kingD (a b : Cel) : Nat := max (a.x - b.x).natAbs (a.y - b.y).natAbs
def countB (w : Wld) (x y : Trp) : Bool := !decide (x.owner = y.owner) && decide ((kingD x.c y.c : Int) ≤ (kindV x.kind).blow) && looksV w.f x.c y.c
def blowB (w : Wld) (b : Blw) : Bool := (findT w b.by_).isSome && (findT w b.at_).isSome && countB w ((findT w b.by_).getD trp0) ((findT w b.at_).getD trp0)
def hitP (w : Wld) (t : Trp) (b : Blw) : Bool := decide (b.by_ = t.id) && blowB w b
def hitC (w : Wld) (l : List Blw) (id : Int) (t : Trp) : Int := match l.find? (hitP w t) with | some b => if b.at_ = id then (kindV t.kind).load else 0 | none => 0
def sumI (l : List Int) : Int := l.sum
theorem sumI_snoc (l : List Int) (x : Int) : sumI (l ++ [x]) = sumI l + x := by unfold sumI; simp
theorem sumI_set : ∀ (l : List Int) (i : Nat) (v : Int), i < l.length → sumI (l.set i v) = sumI l - l.getD i default + v
 | [], i, v, h => by simp at h
 | a :: r, 0, v, _ => by simp [sumI]; omega
 | a :: r, i + 1, v, h => by
  have := sumI_set r i v (by simpa using h)
  simp only [sumI, List.set_cons_succ, List.sum_cons, List.getD_cons_succ] at this ⊢
  omega
def harmV (w : Wld) (l : List Blw) (id : Int) : Int := sumI (w.troops.map (hitC w l id))
def Ups (w : Wld) : Prop := ∀ i j, i < j → j < w.troops.length → (w.troops.getD i default).id < (w.troops.getD j default).id
theorem ups_ok {w : Wld} (h : worldE w = 0) : Ups w := by
 intro i j hij hj
 have h2 := (troop_ok h hj).2
 unfold trp2 at h2
 have := (allN_iff _ _).1 h2 i hij
 simp only [Bool.and_eq_true, decide_eq_true_eq] at this
 exact this.1
theorem Ups.ne {w : Wld} (h : Ups w) {i j : Nat} (hi : i < w.troops.length) (hj : j < w.troops.length) (hne : i ≠ j) : (w.troops.getD i default).id ≠ (w.troops.getD j default).id := by
 rcases Nat.lt_or_gt_of_ne hne with h1 | h1
 ·have := h i j h1 hj; omega
 ·have := h j i h1 hi; omega
theorem findT_some {w : Wld} {n : Int} (h : (findT w n).isSome = true) : ∃ i, i < w.troops.length ∧ (w.troops.getD i default).id = n ∧ (findT w n).getD trp0 = w.troops.getD i default := by
 unfold findT at *
 obtain ⟨t, ht⟩ := Option.isSome_iff_exists.1 h
 have hm := List.mem_of_find?_eq_some ht
 have hp := List.find?_some ht
 obtain ⟨i, hi, e⟩ := mem_getD.1 hm
 refine ⟨i, hi, by rw [e]; simpa using hp, by rw [ht, e]; rfl⟩
theorem hitC_snoc (w : Wld) (l : List Blw) (b : Blw) (id : Int) (t : Trp) : hitC w (l ++ [b]) id t = if l.any (hitP w t) = false ∧ hitP w t b = true then (if b.at_ = id then (kindV t.kind).load else 0) else hitC w l id t := by
 unfold hitC
 rw [List.find?_append]
 cases h : l.find? (hitP w t) with
 | some x =>
  have hx := List.find?_some h
  have hm := List.mem_of_find?_eq_some h
  have : l.any (hitP w t) = true := List.any_eq_true.2 ⟨x, hm, hx⟩
  rw [if_neg (by simp [this])]; rfl
 | none =>
  have : l.any (hitP w t) = false := by rw [List.any_eq_false]; intro x hx; exact List.find?_eq_none.1 h x hx
  rw [this]
  cases hp : hitP w t b with
  | true => simp [hp]
  | false => simp [hp]
theorem hitC_none (w : Wld) (l : List Blw) (id : Int) (t : Trp) (h : l.any (hitP w t) = false) : hitC w l id t = 0 := by
 unfold hitC
 rw [List.find?_eq_none.2 (fun x hx => by have := List.any_eq_false.1 h x hx; simpa using this)]
theorem harm_skip {w : Wld} (hu : Ups w) (l : List Blw) (b : Blw) (id : Int) (h : blowB w b = false ∨ ∃ i, i < w.troops.length ∧ (w.troops.getD i default).id = b.by_ ∧ l.any (hitP w (w.troops.getD i default)) = true) : harmV w (l ++ [b]) id = harmV w l id := by
 unfold harmV
 congr 1
 refine List.map_congr_left fun t ht => ?_
 rw [hitC_snoc, if_neg]
 rintro ⟨h1, h2⟩
 rcases h with h | ⟨i, hi, e, h3⟩
 ·unfold hitP at h2; rw [h] at h2; simp at h2
 ·obtain ⟨j, hj, rfl⟩ := mem_getD.1 ht
  by_cases hij : i = j
  ·subst hij; rw [h3] at h1; simp at h1
  ·have := hu.ne hi hj hij
   unfold hitP at h2
   simp only [Bool.and_eq_true, decide_eq_true_eq] at h2
   omega
theorem harm_step {w : Wld} (hu : Ups w) (l : List Blw) (b : Blw) (id : Int) (hb : blowB w b = true) {i : Nat} (hi : i < w.troops.length) (hid : (w.troops.getD i default).id = b.by_) (hn : l.any (hitP w (w.troops.getD i default)) = false) :
 harmV w (l ++ [b]) id = harmV w l id + (if b.at_ = id then (kindV (w.troops.getD i default).kind).load else 0) := by
 have e : w.troops.map (hitC w (l ++ [b]) id) = (w.troops.map (hitC w l id)).set i (if b.at_ = id then (kindV (w.troops.getD i default).kind).load else 0) := by
  refine List.ext_getElem (by simp) fun j h1 h2 => ?_
  rw [List.length_map] at h1
  rw [List.getElem_map, List.getElem_set, hitC_snoc, ← getD_at _ _ h1]
  by_cases hij : i = j
  ·subst hij
   rw [if_pos rfl, if_pos ⟨hn, by unfold hitP; rw [hb, hid]; simp⟩]
  ·have := hu.ne hi h1 hij
   rw [if_neg hij, if_neg, List.getElem_map, ← getD_at _ _ h1]
   rintro ⟨_, h3⟩
   unfold hitP at h3
   simp only [Bool.and_eq_true, decide_eq_true_eq] at h3
   omega
 unfold harmV
 rw [e, sumI_set _ _ _ (by simpa using hi)]
 have : (w.troops.map (hitC w l id)).getD i default = 0 := by
  rw [getD_at _ _ (by simpa using hi), List.getElem_map, ← getD_at _ _ hi]
  exact hitC_none _ _ _ _ hn
 omega
theorem harm_nil (w : Wld) (id : Int) : harmV w [] id = 0 := by
 unfold harmV sumI
 induction w.troops with
 | nil => rfl
 | cons a r ih => rw [List.map_cons, List.sum_cons, ih]; rfl
theorem ixOf_find {α : Type} [Inhabited α] (p : α → Bool) (l : List α) : (∃ i : Nat, i < l.length ∧ ixOf p l = (i : Int) ∧ l.find? p = some (l.getD i default)) ∨ (ixOf p l = -1 ∧ l.find? p = none) := by
 unfold ixOf
 cases h : l.findIdx? p with
 | none =>
  refine .inr ⟨rfl, ?_⟩
  rw [List.find?_eq_none]
  intro x hx
  have := List.findIdx?_eq_none_iff.1 h x hx
  simp [this]
 | some i =>
  obtain ⟨hi, h1, h2⟩ := List.findIdx?_eq_some_iff_getElem.1 h
  refine .inl ⟨i, hi, rfl, find_hit p l i hi (by rw [getD_at _ _ hi]; exact h1) (fun j hj => ?_)⟩
  rw [getD_at _ _ (by omega)]
  have := h2 j hj
  simpa using this
def harmL (w : Wld) (l : List Blw) : List Int := w.troops.map fun t => harmV w l t.id
def blowsE (w : Wld) (l : List Blw) : Int := if worldE w ≠ 0 then worldE w else if 200 < l.length then 2 else 0
def harmR (w : Wld) (l : List Blw) : List Int := if blowsE w l = 0 then harmL w l else []
def woundT (w : Wld) (l : List Blw) (t : Trp) : Trp := { t with life := t.life - harmV w l t.id }
def leftV (w : Wld) (l : List Blw) : List Trp := (w.troops.map (woundT w l)).filter fun t => decide (0 < t.life)
def goneV (w : Wld) (l : List Blw) : List Int := ((w.troops.map (woundT w l)).filter fun t => !decide (0 < t.life)).map (·.id)
def struckW (w : Wld) (l : List Blw) : Wld := { w with troops := leftV w l }
end Go.Proofs.YtllmjdcblfkfaaaGreat
namespace Go.Proofs.YtllmjdcblfkfaaaGreat
set_option linter.all false
open Go.RowKit
set_option maxRecDepth 100000
set_option maxHeartbeats 400000
theorem king_max (a b : Cel) : (if (b.x - a.x).natAbs < (b.y - a.y).natAbs then ((b.y - a.y).natAbs : Int) else ((b.x - a.x).natAbs : Int)) = (kingD a b : Int) := by
 unfold kingD; split <;> omega
theorem lapart_s (a b : Cel) (ha : nearB a = true) (hb : nearB b = true) : Spec Tryz.prog 120 [celA a, celA b] [] (.tup [I .i64 (kingD a b : Nat), I .i64 (((b.x - a.x).natAbs + (b.y - a.y).natAbs : Nat) : Int), I .i64 0]) [] := by
 have ha1 := ha
 have hb1 := hb
 unfold nearB at ha1 hb1
 rw [decide_eq_true_eq] at ha1 hb1
 refine spec_am Tryz.func120 rfl rfl mix 43 rfl [.tmp 4, .tmp 5, .tmp 6] Tryz.results120 (Nat.le_of_ble_eq_true rfl) ?_
 (try (refine xst ?_; try exact xtI))
 refine caP (near_s a ⟨by omega, by omega⟩ ⟨by omega, by omega⟩) ?_
 (try (refine xst ?_; try exact xtI))
 refine gcP (fun hcc => near_s b ⟨by omega, by omega⟩ ⟨by omega, by omega⟩) ?_
 (try (refine xst ?_; try exact xtI))
 refine cond_i (fun h1 => ?_) (fun h1 => ?_)
 ·(try replace h1 := xhh h1)
  rw [ha, hb] at h1; simp at h1
 ·(try replace h1 := xhh h1)
  (try (refine xst ?_; try exact xtI))
  refine caP (sign_s (b.x - a.x) ⟨by omega, by omega⟩ (by omega)) ?_
  (try (refine xst ?_; try exact xtI))
  refine caP (sign_s (b.y - a.y) ⟨by omega, by omega⟩ (by omega)) ?_
  (try (refine xst ?_; try exact xtI))
  (first | (refine retA rfl (Wk.of ?_); (try simp (etaStruct := .none) only [push_cast, DrawG, seval]); first | done | (simp [king_max, *]; done) | (simp_all [king_max]; done)) | (refine retA rfl ?_; (try simp (etaStruct := .none) only [push_cast, DrawG, seval]); (try simp [king_max, *]); (try exact wkc)))
theorem seesV_in {f : Fld} {a b : Cel} (hf : fldE f = 0) (ha : inF f a = true) (hb : inF f b = true) : seesV f a b = (looksV f a b, 0) := by
 unfold seesV; rw [if_neg (by simp [hf]), if_pos (by simp [ha, hb])]
theorem nearB_in {f : Fld} {c : Cel} (hf : fldE f = 0) (h : inF f c = true) : nearB c = true := by
 have h1 := inF_iff.1 h
 obtain ⟨h2, h3, _⟩ := fldE_ok hf
 unfold nearB
 rw [decide_eq_true_eq]; omega
theorem counts_s (w : Wld) (x y : Trp) (hl : wldL w) (hw : worldE w = 0) (hx : x ∈ w.troops) (hy : y ∈ w.troops) : Spec Tryz.prog 85 [wldA w, trpA x, trpA y] [] (B (countB w x y)) [] := by
 obtain ⟨hf, _⟩ := worldE_ok hw
 have ox := troop_mem hw hx
 have oy := troop_mem hw hy
 have ix := (ground_iff.1 ox.at_).1
 have iy := (ground_iff.1 oy.at_).1
 have es := seesV_in hf ix iy
 refine spec_am Tryz.func85 rfl rfl mix 51 rfl [.tmp 6] Tryz.results85 (Nat.le_of_ble_eq_true rfl) ?_
 (try (refine xst ?_; try exact xtI))
 refine caP (tkind_s x.kind) ?_
 (try (refine xst ?_; try exact xtI))
 refine caP (lapart_s x.c y.c (nearB_in hf ix) (nearB_in hf iy)) ?_
 (try (refine xst ?_; try exact xtI))
 refine cond_i (fun h1 => ?_) (fun h1 => ?_)
 ·(try replace h1 := xhh h1)
  have e : countB w x y = false := by
   unfold countB
   rcases h1 with h | h
   ·simp [h]
   ·simp only [Bool.and_eq_false_iff]; exact .inl (.inr (by simpa using h))
  (try (refine xst ?_; try exact xtI))
  (first | (refine retA rfl (Wk.of ?_); (try simp (etaStruct := .none) only [push_cast, DrawG, seval]); first | done | (simp [e, *]; done) | (simp_all [e]; done)) | (refine retA rfl ?_; (try simp (etaStruct := .none) only [push_cast, DrawG, seval]); (try simp [e, *]); (try exact wkc)))
 ·(try replace h1 := xhh h1)
  have e : countB w x y = looksV w.f x.c y.c := by
   unfold countB
   rw [decide_eq_false h1.1, decide_eq_true h1.2]; simp
  (try (refine xst ?_; try exact xtI))
  refine caP (sees_s w.f x.c y.c hl.1) ?_
  (try (refine xst ?_; try exact xtI))
  rw [es]
  (first | (refine retA rfl (Wk.of ?_); (try simp (etaStruct := .none) only [push_cast, DrawG, seval]); first | done | (simp [e, *]; done) | (simp_all [e]; done)) | (refine retA rfl ?_; (try simp (etaStruct := .none) only [push_cast, DrawG, seval]); (try simp [e, *]); (try exact wkc)))
def IdxM (w : Wld) (k : Nat) (es : List (List Int × Int)) : Prop := (∀ i : Int, mhas [i] es = (w.troops.take k).any fun t => decide (t.id = i)) ∧ ∀ j, j < k → mget [(w.troops.getD j default).id] es = (j : Int)
theorem IdxM.step {w : Wld} (hu : Ups w) {k : Nat} {es : List (List Int × Int)} (h : IdxM w k es) (hk : k < w.troops.length) : IdxM w (k + 1) (mput [(w.troops.getD k default).id] (k : Int) es) := by
 refine ⟨fun i => ?_, fun j hj => ?_⟩
 ·rw [mhas_put_if, take_snoc _ _ hk, List.any_append, h.1 i]
  simp only [List.any_cons, List.any_nil, Bool.or_false, List.cons.injEq, and_true]
  by_cases hi : i = (w.troops.getD k default).id
  ·rw [if_pos hi, decide_eq_true hi.symm, Bool.or_true]
  ·rw [if_neg hi, decide_eq_false (Ne.symm hi), Bool.or_false]
 ·rw [mget_put_if]
  by_cases hjk : j = k
  ·subst hjk; rw [if_pos rfl]
  ·have := hu j k (by omega) hk
   rw [if_neg (fun h => by have := (List.cons.inj h).1; omega)]
   exact h.2 j (by omega)
theorem mget_none {k : List Int} {es : List (List Int × Int)} (h : mhas k es = false) : mget k es = 0 := by
 unfold mhas at h; unfold mget
 cases hm : mfind k 0 es with
 | none => rfl
 | some p => rw [hm] at h; simp at h
theorem IdxM.get {w : Wld} {es : List (List Int × Int)} (h : IdxM w w.troops.length es) (hpos : 0 < w.troops.length) (a : Int) : ∃ i : Nat, i < w.troops.length ∧ mget [a] es = (i : Int) ∧ mhas [a] es = (findT w a).isSome ∧ ((findT w a).isSome = true → (w.troops.getD i default).id = a ∧ (findT w a).getD trp0 = w.troops.getD i default) := by
 have h1 := h.1 a
 rw [List.take_length] at h1
 cases hf : findT w a with
 | none =>
  have e : mhas [a] es = false := by
   rw [h1, List.any_eq_false]
   intro x hx
   have := List.find?_eq_none.1 hf x hx
   simpa using this
  exact ⟨0, hpos, mget_none e, e, fun h => by simp at h⟩
 | some t =>
  obtain ⟨i, hi, e1, e2⟩ := findT_some (w := w) (n := a) (by rw [hf]; rfl)
  refine ⟨i, hi, ?_, ?_, fun _ => ⟨e1, by rw [← hf]; exact e2⟩⟩
  ·rw [← e1]; exact h.2 i hi
  ·rw [h1, List.any_eq_true.2 ⟨w.troops.getD i default, getD_mem _ _ hi, by simpa using e1⟩]; rfl
theorem kind_harm (k : Int) : 0 ≤ (kindV k).load ∧ (kindV k).load ≤ 4 := by unfold kindV; split <;> (try split) <;> simp
theorem harm_ext {w : Wld} {l : List Blw} {harm : List Int} (hl : harm.length = w.troops.length) (h : ∀ j, j < w.troops.length → harm.getD j default = harmV w l (w.troops.getD j default).id) : harm = harmL w l := by
 refine List.ext_getElem (by unfold harmL; rw [List.length_map]; exact hl) fun j h1 h2 => ?_
 have := h j (by omega)
 rw [getD_at _ _ h1, getD_at _ _ (by omega)] at this
 simp only [harmL, List.getElem_map]; exact this
theorem sgetB {l : List Bool} {i : Nat} (v : Bool) (p : Nat) (hi : i < l.length) : (l.set i v).getD p default = if p = i then v else l.getD p default := by
 by_cases h : p = i
 ·subst h; rw [if_pos rfl, getD_at _ _ (by simpa using hi)]; simp
 ·rw [if_neg h]
  simp only [List.getD_eq_getElem?_getD, List.getElem?_set, if_neg (Ne.symm h)]
theorem sgetI {l : List Int} {i : Nat} (v : Int) (p : Nat) (hi : i < l.length) : (l.set i v).getD p default = if p = i then v else l.getD p default := by
 by_cases h : p = i
 ·subst h; rw [if_pos rfl, getD_at _ _ (by simpa using hi)]; simp
 ·rw [if_neg h]
  simp only [List.getD_eq_getElem?_getD, List.getElem?_set, if_neg (Ne.symm h)]
theorem blows_e (w : Wld) (l : List Blw) (hl : wldL w) (hll : l.length ≤ 9223372036854775807) (h : blowsE w l ≠ 0) : Spec Tryz.prog 56 [wldA w, .c (.sl 2 (l.map blwP))] [] (.tup [.c (.sl 1 ((harmR w l).map i64P)), I .i64 (blowsE w l)]) [] := by
 have e2 : harmR w l = [] := by unfold harmR; rw [if_neg h]
 refine spec_am Tryz.func56 rfl rfl mix 120 rfl [.tmp 4, .tmp 5] Tryz.results56 (Nat.le_of_ble_eq_true rfl) ?_
 (try (refine xst ?_; try exact xtI))
 refine caP (tcheck_s w hl) ?_
 (try (refine xst ?_; try exact xtI))
 refine cond_i (fun h1 => ?_) (fun h1 => ?_)
 ·(try replace h1 := xhh h1)
  have e : blowsE w l = worldE w := by unfold blowsE; rw [if_pos h1]
  (try (refine xst ?_; try exact xtI))
  (first | (refine retA rfl (Wk.of ?_); (try simp (etaStruct := .none) only [push_cast, DrawG, seval]); first | done | (simp [e, e2, *]; done) | (simp_all [e, e2]; done)) | (refine retA rfl ?_; (try simp (etaStruct := .none) only [push_cast, DrawG, seval]); (try simp [e, e2, *]); (try exact wkc)))
 ·(try replace h1 := xhh h1)
  (try (refine xst ?_; try exact xtI))
  refine cond_i (fun h2 => ?_) (fun h2 => ?_)
  ·(try replace h2 := xhh h2)
   have e : blowsE w l = 2 := by unfold blowsE; rw [if_neg (by simpa using h1), if_pos (by omega)]
   (try (refine xst ?_; try exact xtI))
   (first | (refine retA rfl (Wk.of ?_); (try simp (etaStruct := .none) only [push_cast, DrawG, seval]); first | done | (simp [e, e2, *]; done) | (simp_all [e, e2]; done)) | (refine retA rfl ?_; (try simp (etaStruct := .none) only [push_cast, DrawG, seval]); (try simp [e, e2, *]); (try exact wkc)))
  ·(try replace h2 := xhh h2)
   exact absurd (by unfold blowsE; rw [if_neg (by simpa using h1), if_neg (by omega)]) h
end Go.Proofs.YtllmjdcblfkfaaaGreat
namespace Go.Proofs.YtllmjdcblfkfaaaGreat
set_option linter.all false
open Go.RowKit
set_option maxRecDepth 100000
set_option maxHeartbeats 1000000
def nodP (x : Nod) : List PV := [pI x.c.x, pI x.c.y, pI x.far, pI x.all]
abbrev nodA (x : Nod) : AV := .agg [I .i64 x.c.x, I .i64 x.c.y, I .i64 x.far, I .i64 x.all]
theorem olen_s (l : List Nod) : Spec Tryz.prog 163 [.c (.sl 4 (l.map nodP))] [] (I .i64 l.length) [] := by
 refine spec_am Tryz.func163 rfl rfl mix 5 rfl [.tmp 2] Tryz.results163 (Nat.le_of_ble_eq_true rfl) ?_
 (try (refine xst ?_; try exact xtI))
 exact xrz rfl
theorem oless_s (l : List Nod) (i j : Nat) (hi : i < l.length) (hj : j < l.length) : Spec Tryz.prog 188 [.c (.sl 4 (l.map nodP)), I .i64 i, I .i64 j] [] (B (decide ((l.getD i default).all < (l.getD j default).all))) [] := by
 refine spec_am Tryz.func188 rfl rfl mix 18 rfl [.tmp 6] Tryz.results188 (Nat.le_of_ble_eq_true rfl) ?_
 (iterate 2 ((try simp (etaStruct := .none) only [push_cast, DrawG, seval, getD_in _ _ _ hi, getD_in _ _ _ hj, nodP]); (try (refine xsu ?_; try exact xtI))))
 (try (refine ⟨by kernel_rfl, ?_⟩))
 (iterate 2 ((try simp (etaStruct := .none) only [push_cast, DrawG, seval, getD_in _ _ _ hi, getD_in _ _ _ hj, nodP]); (try (refine xsu ?_; try exact xtI))))
 exact xrz rfl
theorem oswap_s (l : List Nod) (i j : Nat) (hi : i < l.length) (hj : j < l.length) : Spec Tryz.prog 189 [.own 0, I .i64 i, I .i64 j] [.row 225 4 (l.map nodP)] (.tup []) [.row 225 4 ((swapL l i j).map nodP)] := by
 have hj2 : j < (l.set i (l.getD j default)).length := by rw [List.length_set]; exact hj
 refine spec_am Tryz.func189 rfl rfl mix 20 rfl [] Tryz.results189 (Nat.le_of_ble_eq_true rfl) ?_
 (iterate 2 ((try simp (etaStruct := .none) only [push_cast, DrawG, seval, getD_in _ _ _ hi, getD_in _ _ _ hj, nodP]); (try (refine xsu ?_; try exact xtI))))
 (try (refine ⟨by kernel_rfl, ?_⟩))
 (iterate 2 ((try simp (etaStruct := .none) only [push_cast, DrawG, seval, getD_in _ _ _ hi, getD_in _ _ _ hj, nodP]); (try (refine xsu ?_; try exact xtI))))
 refine retM [0] rfl rfl (by decide) ⟨?_, trivial⟩ trivial ?_ <;> simp (etaStruct := .none) only [push_cast, DrawG, seval, swapL, ← List.map_set, List.length_map, List.map_set, nodP]
theorem oqpush_s (f : Fld) (b : Cel) (far : List Int)(l : List Nod) (x : Nod) (hl : l.length ≤ 1000000) : Spec Tryz.prog 191 [.ptr 0 0 6, .ifc 225 (nodA x)] [.blk 209 [I .i64 f.w, I .i64 f.h, .c (.sl 1 (f.p.map i64P)), I .i64 b.x, I .i64 b.y, .own 1, .own 2], .row 3 1 (far.map i64P),.row 225 4 (l.map nodP)] (.tup []) [.blk 209 [I .i64 f.w, I .i64 f.h, .c (.sl 1 (f.p.map i64P)), I .i64 b.x, I .i64 b.y, .own 1, .own 3], .row 3 1 (far.map i64P),.dead, .row 225 4 ((l ++ [x]).map nodP)] := by
 refine spec_am Tryz.func191 rfl rfl mix 13 rfl [] Tryz.results191 (Nat.le_of_ble_eq_true rfl) ?_
 (try (refine xst ?_; try exact xtI))
 (try (refine ⟨by kernel_rfl, ?_⟩))
 (try (refine xst ?_; try exact xtI))
 refine retM [0, 1, 2, 31] rfl rfl (by decide) ⟨?_, ?_, ?_, ?_, trivial⟩ trivial ?_ <;> simp (etaStruct := .none) only [push_cast, DrawG, seval, List.map_append, nodP]
theorem oqpop_s (f : Fld) (b : Cel) (far : List Int)(l : List Nod) (n : Nat) (hn : l.length = n + 1) (hl : l.length ≤ 1000001) : Spec Tryz.prog 190 [.ptr 0 0 6] [.blk 209 [I .i64 f.w, I .i64 f.h, .c (.sl 1 (f.p.map i64P)), I .i64 b.x, I .i64 b.y, .own 1, .own 2], .row 3 1 (far.map i64P),.row 225 4 (l.map nodP)] (.ifc 225 (nodA (l.getD n default))) [.blk 209 [I .i64 f.w, I .i64 f.h, .c (.sl 1 (f.p.map i64P)), I .i64 b.x, I .i64 b.y, .own 1, .own 3], .row 3 1 (far.map i64P),.dead, .row 225 4 ((l.take n).map nodP)] := by
 have hlt : n < l.length := by omega
 have e1 : IntKind.i64.wrap ((l.length : Int) - 1) = (n : Int) := by rw [wrap_in _ (by omega) (by omega)]; omega
 refine spec_am Tryz.func190 rfl rfl mix 23 rfl [.tmp 2] Tryz.results190 (Nat.le_of_ble_eq_true rfl) ?_
 (iterate 2 ((try simp (etaStruct := .none) only [push_cast, DrawG, seval, e1, getD_in _ _ _ hlt, nodP]); (try (refine xsu ?_; try exact xtI))))
 refine retTo (To.cutC 0 6 2 n 225 4 209 _ (l.map nodP) rfl rfl rfl (by rw [List.length_map]; omega)) ?_
 refine retM [0, 1, 2, 4] rfl rfl (by decide) ⟨?_, ?_, ?_, ?_, trivial⟩ trivial ?_ <;> simp (etaStruct := .none) only [push_cast, DrawG, seval, List.map_take, List.set_cons_zero, List.set_cons_succ]
theorem oup_s (f : Fld) (b : Cel) (far : List Int)(l : List Nod) (j : Nat) (hj : j < l.length) (hl : l.length ≤ 1000001) : Spec Tryz.prog 168 [.ifc 223 (.ptr 0 0 6), I .i64 j] [.blk 209 [I .i64 f.w, I .i64 f.h, .c (.sl 1 (f.p.map i64P)), I .i64 b.x, I .i64 b.y, .own 1, .own 2], .row 3 1 (far.map i64P),.row 225 4 (l.map nodP)] (.tup []) [.blk 209 [I .i64 f.w, I .i64 f.h, .c (.sl 1 (f.p.map i64P)), I .i64 b.x, I .i64 b.y, .own 1, .own 2], .row 3 1 (far.map i64P),.row 225 4 ((hup Nod.all l j).map nodP)] := by
 refine spec_am Tryz.func168 rfl rfl mix 23 rfl [] Tryz.results168 (Nat.le_of_ble_eq_true rfl) ?_
 (iterate 2 ((try simp (etaStruct := .none) only [push_cast, DrawG, seval, par_tdiv]); (try (refine xsu ?_; try exact xtI))))
 refine loopI (fun x : List Nod × Nat => ⟨[(1, I .i64 x.2), (0, .ifc 223 (.ptr 0 0 6))], [(0, .blk 209 [I .i64 f.w, I .i64 f.h, .c (.sl 1 (f.p.map i64P)), I .i64 b.x, I .i64 b.y, .own 1, .own 2]), (1, .row 3 1 (far.map i64P)),(2, .row 225 4 (x.1.map nodP))], 3⟩) (fun x : List Nod × Nat => x.2 < x.1.length ∧ x.1.length ≤ 1000001 ∧ hup Nod.all x.1 x.2 = hup Nod.all l j) (fun x : List Nod × Nat => x.2) ((l, j)) (⟨hj, hl, rfl⟩) (To.mk [0, 1, 2] rfl rfl (by decide) ?_ ?_) ?_
 ·simp (etaStruct := .none) only [push_cast, DrawG, seval]
 ·simp (etaStruct := .none) only [push_cast, DrawG, seval]
 rintro ⟨m, i⟩ ⟨hi, hm, hu⟩
 simp only at hi hm hu
 have lp : par i ≤ i := by simp only [par]; omega
 have hp : par i < m.length := by omega
 (iterate 2 ((try simp (etaStruct := .none) only [push_cast, DrawG, seval, par_tdiv]); (try (refine xsu ?_; try exact xtI))))
 refine gcallB (fun hcc => oless_s m i (par i) hi hp) (WkL.refl _) rfl (by intro hc; (try simp (etaStruct := .none) only [push_cast, DrawG, seval]); (try simp_all)) ?_
 (iterate 2 ((try simp (etaStruct := .none) only [push_cast, DrawG, seval, par_tdiv]); (try (refine xsu ?_; try exact xtI))))
 refine cond_i (fun h1 => ?_) (fun h1 => ?_)
 ·(try replace h1 := xhh h1)
  have e : hup Nod.all m i = m := by
   rw [hup, if_pos]
   rcases h1 with h | h
   ·exact .inl (by omega)
   ·exact .inr (by omega)
  rw [← hu, e]
  (iterate 2 ((try simp (etaStruct := .none) only [push_cast, DrawG, seval, par_tdiv]); (try (refine xsu ?_; try exact xtI))))
  refine retM [0, 1, 2] rfl rfl (by decide) ⟨?_, ?_, ?_, trivial⟩ trivial ?_ <;> simp (etaStruct := .none) only [push_cast, DrawG, seval]
 ·(try replace h1 := xhh h1)
  have e : hup Nod.all m i = hup Nod.all (swapL m (par i) i) (par i) := by rw [hup, if_neg]; rintro (h | h) <;> omega
  have lt : par i < i := by omega
  (iterate 2 ((try simp (etaStruct := .none) only [push_cast, DrawG, seval, par_tdiv]); (try (refine xsu ?_; try exact xtI))))
  refine caM [2] (oswap_s m (par i) i hp hi) ?_
  (iterate 2 ((try simp (etaStruct := .none) only [push_cast, DrawG, seval, par_tdiv]); (try (refine xsu ?_; try exact xtI))))
  refine ⟨(swapL m (par i) i, par i), ⟨by rw [swapL_len]; exact hp, by rw [swapL_len]; exact hm, by rw [← hu, e]⟩, lt, To.mk [0, 1, 2] rfl rfl (by decide) ?_ ?_⟩
  ·(iterate 2 ((try simp (etaStruct := .none) only [push_cast, DrawG, seval, par_tdiv]); (try (refine xsu ?_; try exact xtI))))
  ·(iterate 2 ((try simp (etaStruct := .none) only [push_cast, DrawG, seval, par_tdiv]); (try (refine xsu ?_; try exact xtI))))
theorem ohpush_s (f : Fld) (b : Cel) (far : List Int)(l : List Nod) (x : Nod) (hl : l.length ≤ 1000000) : Spec Tryz.prog 162 [.ifc 223 (.ptr 0 0 6), .ifc 225 (nodA x)] [.blk 209 [I .i64 f.w, I .i64 f.h, .c (.sl 1 (f.p.map i64P)), I .i64 b.x, I .i64 b.y, .own 1, .own 2], .row 3 1 (far.map i64P),.row 225 4 (l.map nodP)] (.tup []) [.blk 209 [I .i64 f.w, I .i64 f.h, .c (.sl 1 (f.p.map i64P)), I .i64 b.x, I .i64 b.y, .own 1, .own 3], .row 3 1 (far.map i64P),.dead, .row 225 4 ((hpush Nod.all l x).map nodP)] := by
 have hlen : (l ++ [x]).length = l.length + 1 := by simp
 have e1 : IntKind.i64.wrap (((l ++ [x]).length : Int) - 1) = (l.length : Int) := by rw [wrap_in _ (by omega) (by omega)]; omega
 refine spec_am Tryz.func162 rfl rfl mix 12 rfl [] Tryz.results162 (Nat.le_of_ble_eq_true rfl) ?_
 (iterate 2 ((try simp (etaStruct := .none) only [push_cast, DrawG, seval, e1]); (try (refine xsu ?_; try exact xtI))))
 refine caM [0, 1, 2] (oqpush_s f b far l x hl) ?_
 (iterate 2 ((try simp (etaStruct := .none) only [push_cast, DrawG, seval, e1]); (try (refine xsu ?_; try exact xtI))))
 refine callB (olen_s (l ++ [x])) (WkL.refl _) rfl ?_
 (iterate 2 ((try simp (etaStruct := .none) only [push_cast, DrawG, seval, e1]); (try (refine xsu ?_; try exact xtI))))
 refine caM [0, 1, 3] (oup_s f b far (l ++ [x]) l.length (by omega) (by omega)) ?_
 (iterate 2 ((try simp (etaStruct := .none) only [push_cast, DrawG, seval, e1]); (try (refine xsu ?_; try exact xtI))))
 refine retM [0, 1, 2, 3] rfl rfl (by decide) ⟨?_, ?_, ?_, ?_, trivial⟩ trivial ?_ <;> simp (etaStruct := .none) only [push_cast, DrawG, seval, hpush]
theorem odown_s (f : Fld) (b : Cel) (far : List Int)(l : List Nod) (n : Nat) (hn : n ≤ l.length) (hl : l.length ≤ 1000001) : Spec Tryz.prog 169 [.ifc 223 (.ptr 0 0 6), I .i64 0, I .i64 n] [.blk 209 [I .i64 f.w, I .i64 f.h, .c (.sl 1 (f.p.map i64P)), I .i64 b.x, I .i64 b.y, .own 1, .own 2], .row 3 1 (far.map i64P),.row 225 4 (l.map nodP)] .undef [.blk 209 [I .i64 f.w, I .i64 f.h, .c (.sl 1 (f.p.map i64P)), I .i64 b.x, I .i64 b.y, .own 1, .own 2], .row 3 1 (far.map i64P),.row 225 4 ((hdn Nod.all l 0 n).map nodP)] := by
 refine spec_am Tryz.func169 rfl rfl mix 48 rfl [.tmp 6] Tryz.results169 (Nat.le_of_ble_eq_true rfl) ?_
 (try (refine xst ?_; try exact xtI))
 refine loopI (fun x : List Nod × Nat => ⟨[(7, I .i64 x.2), (2, I .i64 n), (1, I .i64 0), (0, .ifc 223 (.ptr 0 0 6))], [(0, .blk 209 [I .i64 f.w, I .i64 f.h, .c (.sl 1 (f.p.map i64P)), I .i64 b.x, I .i64 b.y, .own 1, .own 2]), (1, .row 3 1 (far.map i64P)),(2, .row 225 4 (x.1.map nodP))], 3⟩) (fun x : List Nod × Nat => x.2 ≤ n ∧ n ≤ x.1.length ∧ x.1.length ≤ 1000001 ∧ hdn Nod.all x.1 x.2 n = hdn Nod.all l 0 n) (fun x : List Nod × Nat => n - x.2) ((l, 0)) (⟨Nat.zero_le _, hn, hl, rfl⟩) (To.mk [0, 1, 2] rfl rfl (by decide) ?_ ?_) ?_
 ·simp (etaStruct := .none) only [push_cast, DrawG, seval]
 ·simp (etaStruct := .none) only [push_cast, DrawG, seval]
 rintro ⟨m, i⟩ ⟨hi, hm, hm2, hu⟩
 simp only at hi hm hm2 hu
 obtain ⟨a, ha⟩ : ∃ a : Nat, a = 2 * i + 1 := ⟨_, rfl⟩
 obtain ⟨b, hb⟩ : ∃ b : Nat, b = 2 * i + 2 := ⟨_, rfl⟩
 have e1 : IntKind.i64.wrap (IntKind.i64.wrap (2 * (i : Int)) + 1) = (a : Int) := by rw [wrap_in (2 * _) (by omega) (by omega), wrap_in _ (by omega) (by omega)]; omega
 have e2 : IntKind.i64.wrap ((a : Int) + 1) = (b : Int) := by rw [wrap_in _ (by omega) (by omega)]; omega
 simp (etaStruct := .none) only [push_cast, DrawG, seval, e1, e2]
 (try (refine xst ?_; try exact xtI))
 refine cond_i (fun h1 => ?_) (fun h1 => ?_)
 ·(try replace h1 := xhh h1)
  have e : hdn Nod.all m i n = m := by rw [hdn, if_pos]; exact .inl (by omega)
  rw [← hu, e]
  (try (refine xst ?_; try exact xtI))
  refine retM [0, 1, 2] rfl rfl (by decide) ⟨?_, ?_, ?_, trivial⟩ trivial (Wk.undef _) <;> simp (etaStruct := .none) only [push_cast, DrawG, seval]
 ·(try replace h1 := xhh h1)
  (iterate 2 ((try simp (etaStruct := .none) only [push_cast, DrawG, seval, e1, e2]); (try (refine xsu ?_; try exact xtI))))
  refine gcallB (fun hcc => oless_s m b a (by simp only [decide_eq_true_eq] at hcc; omega) (by omega)) (WkL.refl _) rfl (by intro hc; (try simp (etaStruct := .none) only [push_cast, DrawG, seval]); (try simp_all)) ?_
  (iterate 2 ((try simp (etaStruct := .none) only [push_cast, DrawG, seval, e1, e2]); (try (refine xsu ?_; try exact xtI))))
  refine cond_i (fun h2 => ?_) (fun h2 => ?_)
  ·(try replace h2 := xhh h2)
   have ek : kid Nod.all m i n = b := by unfold kid; rw [← ha, ← hb, if_pos ⟨by omega, h2.2⟩]
   (iterate 2 ((try simp (etaStruct := .none) only [push_cast, DrawG, seval, e1, e2]); (try (refine xsu ?_; try exact xtI))))
   refine callB (oless_s m b i (by omega) (by omega)) (WkL.refl _) rfl ?_
   (iterate 2 ((try simp (etaStruct := .none) only [push_cast, DrawG, seval, e1, e2]); (try (refine xsu ?_; try exact xtI))))
   refine cond_i (fun h3 => ?_) (fun h3 => ?_)
   ·(try replace h3 := xhh h3)
    have e : hdn Nod.all m i n = m := by rw [hdn, if_pos]; rw [ek]; exact .inr (by omega)
    rw [← hu, e]
    (iterate 2 ((try simp (etaStruct := .none) only [push_cast, DrawG, seval, e1, e2]); (try (refine xsu ?_; try exact xtI))))
    refine retM [0, 1, 2] rfl rfl (by decide) ⟨?_, ?_, ?_, trivial⟩ trivial (Wk.undef _) <;> simp (etaStruct := .none) only [push_cast, DrawG, seval]
   ·(try replace h3 := xhh h3)
    have e : hdn Nod.all m i n = hdn Nod.all (swapL m i b) b n := by rw [hdn, if_neg, ek]; rw [ek]; rintro (h | h) <;> omega
    (iterate 2 ((try simp (etaStruct := .none) only [push_cast, DrawG, seval, e1, e2]); (try (refine xsu ?_; try exact xtI))))
    refine caM [2] (oswap_s m i b (by omega) (by omega)) ?_
    (iterate 2 ((try simp (etaStruct := .none) only [push_cast, DrawG, seval, e1, e2]); (try (refine xsu ?_; try exact xtI))))
    refine ⟨(swapL m i b, b), ⟨by simp only; omega, by rw [swapL_len]; exact hm, by rw [swapL_len]; exact hm2, by rw [← hu, e]⟩, by simp only; omega, To.mk [0, 1, 2] rfl rfl (by decide) ?_ ?_⟩
    ·(iterate 2 ((try simp (etaStruct := .none) only [push_cast, DrawG, seval, e1, e2]); (try (refine xsu ?_; try exact xtI))))
    ·(iterate 2 ((try simp (etaStruct := .none) only [push_cast, DrawG, seval, e1, e2]); (try (refine xsu ?_; try exact xtI))))
  ·(try replace h2 := xhh h2)
   have ek : kid Nod.all m i n = a := by unfold kid; rw [← ha, ← hb, if_neg (fun h => by have := h.1; have := h.2; omega)]
   (iterate 2 ((try simp (etaStruct := .none) only [push_cast, DrawG, seval, e1, e2]); (try (refine xsu ?_; try exact xtI))))
   refine callB (oless_s m a i (by omega) (by omega)) (WkL.refl _) rfl ?_
   (iterate 2 ((try simp (etaStruct := .none) only [push_cast, DrawG, seval, e1, e2]); (try (refine xsu ?_; try exact xtI))))
   refine cond_i (fun h4 => ?_) (fun h4 => ?_)
   ·(try replace h4 := xhh h4)
    have e : hdn Nod.all m i n = m := by rw [hdn, if_pos]; rw [ek]; exact .inr (by omega)
    rw [← hu, e]
    (iterate 2 ((try simp (etaStruct := .none) only [push_cast, DrawG, seval, e1, e2]); (try (refine xsu ?_; try exact xtI))))
    refine retM [0, 1, 2] rfl rfl (by decide) ⟨?_, ?_, ?_, trivial⟩ trivial (Wk.undef _) <;> simp (etaStruct := .none) only [push_cast, DrawG, seval]
   ·(try replace h4 := xhh h4)
    have e : hdn Nod.all m i n = hdn Nod.all (swapL m i a) a n := by rw [hdn, if_neg, ek]; rw [ek]; rintro (h | h) <;> omega
    (iterate 2 ((try simp (etaStruct := .none) only [push_cast, DrawG, seval, e1, e2]); (try (refine xsu ?_; try exact xtI))))
    refine caM [2] (oswap_s m i a (by omega) (by omega)) ?_
    (iterate 2 ((try simp (etaStruct := .none) only [push_cast, DrawG, seval, e1, e2]); (try (refine xsu ?_; try exact xtI))))
    refine ⟨(swapL m i a, a), ⟨by simp only; omega, by rw [swapL_len]; exact hm, by rw [swapL_len]; exact hm2, by rw [← hu, e]⟩, by simp only; omega, To.mk [0, 1, 2] rfl rfl (by decide) ?_ ?_⟩
    ·(iterate 2 ((try simp (etaStruct := .none) only [push_cast, DrawG, seval, e1, e2]); (try (refine xsu ?_; try exact xtI))))
    ·(iterate 2 ((try simp (etaStruct := .none) only [push_cast, DrawG, seval, e1, e2]); (try (refine xsu ?_; try exact xtI))))
theorem ohpop_s (f : Fld) (b : Cel) (far : List Int)(l : List Nod) (h0 : 0 < l.length) (hl : l.length ≤ 1000001) : Spec Tryz.prog 164 [.ifc 223 (.ptr 0 0 6)] [.blk 209 [I .i64 f.w, I .i64 f.h, .c (.sl 1 (f.p.map i64P)), I .i64 b.x, I .i64 b.y, .own 1, .own 2], .row 3 1 (far.map i64P),.row 225 4 (l.map nodP)] (.ifc 225 (nodA (l.getD 0 default))) [.blk 209 [I .i64 f.w, I .i64 f.h, .c (.sl 1 (f.p.map i64P)), I .i64 b.x, I .i64 b.y, .own 1, .own 3], .row 3 1 (far.map i64P),.dead, .row 225 4 ((hpop Nod.all l).map nodP)] := by
 obtain ⟨n, hn⟩ : ∃ n, l.length = n + 1 := ⟨l.length - 1, by omega⟩
 have e1 : IntKind.i64.wrap ((l.length : Int) - 1) = (n : Int) := by rw [wrap_in _ (by omega) (by omega)]; omega
 have e2 := hpop_last Nod.all l h0
 have e3 : hpop Nod.all l = (hdn Nod.all (swapL l 0 n) 0 n).take n := by unfold hpop; rw [hn]; rfl
 rw [hn, Nat.add_sub_cancel] at e2
 rw [← e2, e3]
 refine spec_am Tryz.func164 rfl rfl mix 15 rfl [.tmp 2] Tryz.results164 (Nat.le_of_ble_eq_true rfl) ?_
 (iterate 2 ((try simp (etaStruct := .none) only [push_cast, DrawG, seval, e1]); (try (refine xsu ?_; try exact xtI))))
 refine callB (olen_s l) (WkL.refl _) rfl ?_
 (iterate 2 ((try simp (etaStruct := .none) only [push_cast, DrawG, seval, e1]); (try (refine xsu ?_; try exact xtI))))
 refine caM [2] (oswap_s l 0 n h0 (by omega)) ?_
 (iterate 2 ((try simp (etaStruct := .none) only [push_cast, DrawG, seval, e1]); (try (refine xsu ?_; try exact xtI))))
 refine caM [0, 1, 2] (odown_s f b far (swapL l 0 n) n (by rw [swapL_len]; omega) (by rw [swapL_len]; omega)) ?_
 (iterate 2 ((try simp (etaStruct := .none) only [push_cast, DrawG, seval, e1]); (try (refine xsu ?_; try exact xtI))))
 refine caM [0, 1, 2] (oqpop_s f b far (hdn Nod.all (swapL l 0 n) 0 n) n (by rw [hdn_len, swapL_len]; exact hn) (by rw [hdn_len, swapL_len]; exact hl)) ?_
 (iterate 2 ((try simp (etaStruct := .none) only [push_cast, DrawG, seval, e1]); (try (refine xsu ?_; try exact xtI))))
 refine retM [0, 1, 2, 3] rfl rfl (by decide) ⟨?_, ?_, ?_, ?_, trivial⟩ trivial ?_ <;> simp (etaStruct := .none) only [push_cast, DrawG, seval]
theorem wrap_u64_nat (n : Nat) (h : n < 18446744073709551616) : IntKind.u64.wrap (n : Int) = n := by rw [IntKind.wrap_u64]; omega
theorem u64_and_low (n : Nat) (h : n < 4294967296) : bits .and .u64 (n : Int) 4294967295 = (n : Int) := by
 show IntKind.u64.wrap ((BitVec.ofInt 64 (n : Int) &&& BitVec.ofInt 64 ((4294967295 : Nat) : Int)).toNat : Nat) = _
 rw [BitVec.toNat_and, BitVec.ofInt_natCast, BitVec.ofInt_natCast, BitVec.toNat_ofNat, BitVec.toNat_ofNat, Nat.mod_eq_of_lt (show n < 2 ^ 64 by omega), Nat.mod_eq_of_lt (show 4294967295 < 2 ^ 64 by decide)]
 have : n &&& 4294967295 = n := by rw [show (4294967295 : Nat) = 2 ^ 32 - 1 from rfl, Nat.and_two_pow_sub_one_eq_mod, Nat.mod_eq_of_lt (by omega)]
 rw [this]
 exact wrap_u64_nat n (by omega)
theorem mul64_s (n : Nat) (h : n ≤ 1600) : Spec Tryz.prog 167 [.c (.v (.int .u64 1)), .c (.v (.int .u64 n))] [] (.tup [.c (.v (.int .u64 0)), .c (.v (.int .u64 n))]) [] := by
 have a1 := u64_and_low n (by omega)
 have a2 : bits .and .u64 1 4294967295 = 1 := u64_and_low 1 (by decide)
 have a3 : bits .and .u64 0 4294967295 = 0 := u64_and_low 0 (by decide)
 have w1 : ∀ x : Int, 0 ≤ x → x ≤ 1600 → IntKind.u64.wrap x = x := fun x h1 h2 => by
  obtain ⟨k, rfl⟩ := Int.eq_ofNat_of_zero_le h1
  exact wrap_u64_nat k (by omega)
 have d1 : (n : Int).fdiv 4294967296 = 0 := by rw [Int.fdiv_eq_ediv_of_nonneg _ (by decide)]; omega
 have d2 : (1 : Int).fdiv 4294967296 = 0 := rfl
 have d3 : (0 : Int).fdiv 4294967296 = 0 := rfl
 have e1 : IntKind.u64.wrap (n : Int) = n := w1 _ (by omega) (by omega)
 have e0 : IntKind.u64.wrap 0 = 0 := rfl
 have hm : (2 : Int) ^ min 32 IntKind.u64.bits = 4294967296 := rfl
 refine spec_am Tryz.func167 rfl rfl mix 51 rfl [.tmp 4, .tmp 5] Tryz.results167 (Nat.le_of_ble_eq_true rfl) ?_
 (iterate 2 ((try simp (etaStruct := .none) only [push_cast, DrawG, seval, hm, a1, a2, a3, d1, d2, d3, e1, e0, Int.mul_zero, Int.zero_mul, Int.one_mul, Int.add_zero, Int.zero_add]); (try (refine xsu ?_; try exact xtI))))
 exact xrz rfl
theorem mul_s (n : Nat) (h : n ≤ 1600) : Spec Tryz.prog 161 [.c (.v (.int .u64 1)), .c (.v (.int .u64 n))] [] (.tup [.c (.v (.int .u64 0)), .c (.v (.int .u64 n))]) [] := by
 refine spec_am Tryz.func161 rfl rfl mix 30 rfl [.tmp 4, .tmp 5] Tryz.results161 (Nat.le_of_ble_eq_true rfl) ?_
 (try (refine xst ?_; try exact xtI))
 refine cond_i (fun h1 => ?_) (fun h1 => ?_)
 ·(try replace h1 := xhh h1)
  exact absurd h1 (by decide)
 ·(try replace h1 := xhh h1)
  (try (refine xst ?_; try exact xtI))
  refine caP (mul64_s n h) ?_
  (try (refine xst ?_; try exact xtI))
  exact xrz rfl
def rp (k n : Nat) : List Int := List.replicate k (-1) ++ List.replicate (n - k) 0
theorem rp_len {k n : Nat} (h : k ≤ n) : (rp k n).length = n := by unfold rp; simp; omega
theorem rp_take {k n : Nat} (h : k ≤ n) : (rp k n).take k = List.replicate k (-1) := by unfold rp; rw [List.take_append_of_le_length (by simp)]; simp
theorem splice_map {α β : Type} (f : α → β) (l : List α) (o : Nat) (m : List α) : splice (l.map f) o (m.map f) = (splice l o m).map f := by
 unfold splice
 rw [List.map_append, List.map_append, List.map_take, List.map_drop, List.length_map]
theorem rp_copy {k n : Nat} (h : k ≤ n) : splice (rp k n) k ((List.replicate k (-1)).take (n - k)) = rp (k + min k (n - k)) n := by
 rw [List.take_replicate]
 unfold splice
 rw [rp_take h, List.length_replicate]
 unfold rp
 rw [List.drop_append, List.length_replicate, List.drop_of_length_le (by simp), List.nil_append, show k + min (n - k) k - k = min (n - k) k from by omega, List.drop_replicate, ← List.append_assoc, List.replicate_append_replicate, Nat.min_comm (n - k) k, show n - k - min k (n - k) = n - (k + min k (n - k)) from by omega]
theorem rp_first {n : Nat} (h : 1 ≤ n) : splice (List.replicate n (0 : Int)) 0 ([(-1 : Int)].take n) = rp 1 n := by
 obtain ⟨m, rfl⟩ : ∃ m, n = m + 1 := ⟨n - 1, by omega⟩
 unfold splice rp
 simp
theorem repeat_s (n : Nat) (hpos : 1 ≤ n) (h : n ≤ 1600) : Spec Tryz.prog 154 [.own 0, I .i64 n] [.row 3 1 [[pI (-1)]]] (.own 1) [.row 3 1 [[pI (-1)]], .row 3 1 ((List.replicate n (-1 : Int)).map i64P)] := by
 have e1 : IntKind.u64.wrap (n : Int) = n := wrap_u64_nat n (by omega)
 have e2 : IntKind.u64.wrap 1 = 1 := rfl
 have e3 : IntKind.i64.wrap (n : Int) = n := wrap_in _ (by omega) (by omega)
 have hf := rp_first hpos
 have hf2 : splice (List.replicate n [pI 0]) 0 (([[pI (-1)]] : List (List PV)).take n) = (rp 1 n).map i64P := by rw [← hf, ← splice_map]; simp [i64P]
 have hmn : min 1 n = 1 := by omega
 refine spec_am Tryz.func154 rfl rfl mix 48 rfl [.tmp 4] Tryz.results154 (Nat.le_of_ble_eq_true rfl) ?_
 (iterate 2 ((try simp (etaStruct := .none) only [push_cast, DrawG, seval, e1, e2, e3]); (try (refine xsu ?_; try exact xtI))))
 refine cond_i (fun h1 => ?_) (fun h1 => ?_)
 ·(try replace h1 := xhh h1)
  exfalso; omega
 ·(try replace h1 := xhh h1)
  (iterate 2 ((try simp (etaStruct := .none) only [push_cast, DrawG, seval, e1, e2, e3]); (try (refine xsu ?_; try exact xtI))))
  refine caP (mul_s n h) ?_
  (iterate 2 ((try simp (etaStruct := .none) only [push_cast, DrawG, seval, e1, e2, e3]); (try (refine xsu ?_; try exact xtI))))
  refine cond_i (fun h2 => ?_) (fun h2 => ?_)
  ·(try replace h2 := xhh h2)
   exfalso; omega
  ·(try replace h2 := xhh h2)
   (iterate 2 ((try simp (etaStruct := .none) only [push_cast, DrawG, seval, e1, e2, e3]); (try (refine xsu ?_; try exact xtI))))
   refine loopI (fun k : Nat => ⟨[(8, I .i64 k), (7, .own 1)], [(0, .row 3 1 [[pI (-1)]]), (1, .row 3 1 ((rp k n).map i64P))], 2⟩) (fun k : Nat => 1 ≤ k ∧ k ≤ n) (fun k : Nat => n - k) (1) (⟨Nat.le_refl _, hpos⟩) (To.mk [0, 1] rfl rfl (by decide) ?_ ?_) ?_
   ·simp (etaStruct := .none) only [push_cast, DrawG, seval, List.length_replicate]
    simpa only [splice, List.take_zero, List.nil_append, Nat.zero_add] using hf2
   ·simp (etaStruct := .none) only [push_cast, DrawG, seval, List.length_replicate, hmn]
   rintro k ⟨hk1, hk⟩
   have hrl := rp_len hk
   have hrc := rp_copy hk
   have htk : ((rp k n).map i64P).take k = (List.replicate k (-1 : Int)).map i64P := by rw [← List.map_take, rp_take hk]
   have hs2 : splice ((rp k n).map i64P) k ((((rp k n).map i64P).take k).take (n - k)) = (rp (k + min k (n - k)) n).map i64P := by rw [htk, ← List.map_take, splice_map, hrc]
   have hl2 : (((rp k n).map i64P).take k).length = k := by rw [List.length_take, List.length_map, hrl]; omega
   unfold splice at hs2
   (iterate 2 ((try simp (etaStruct := .none) only [push_cast, DrawG, seval, e1, e2, e3]); (try (refine xsu ?_; try exact xtI))))
   refine cond_i (fun h3 => ?_) (fun h3 => ?_)
   ·(try replace h3 := xhh h3)
    skip
    (iterate 2 ((try simp (etaStruct := .none) only [push_cast, DrawG, seval, e1, e2, e3]); (try (refine xsu ?_; try exact xtI))))
    (try (refine ⟨by kernel_rfl, ?_⟩))
    (iterate 2 ((try simp (etaStruct := .none) only [push_cast, DrawG, seval, e1, e2, e3]); (try (refine xsu ?_; try exact xtI))))
    refine ⟨k + min k (n - k), ⟨by omega, by omega⟩, by omega, To.mk [0, 1] rfl rfl (by decide) ?_ ?_⟩
    ·(iterate 2 ((try simp (etaStruct := .none) only [push_cast, DrawG, seval, hrl]); (try (refine xsu ?_; try exact xtI))))
     exact hs2
    ·(iterate 2 ((try simp (etaStruct := .none) only [push_cast, DrawG, seval, hl2, hrl]); (try (refine xsu ?_; try exact xtI))))
   ·(try replace h3 := xhh h3)
    obtain rfl : k = n := by omega
    have hrn : rp k k = List.replicate k (-1) := by unfold rp; simp
    (iterate 2 ((try simp (etaStruct := .none) only [push_cast, DrawG, seval, e1, e2, e3]); (try (refine xsu ?_; try exact xtI))))
    refine retM [0, 1] rfl rfl (by decide) ⟨?_, ?_, trivial⟩ trivial ?_ <;> simp (etaStruct := .none) only [push_cast, DrawG, seval, hrn]
abbrev srPV (f : Fld) (b : Cel) (far : List Int) (q : List Nod) : List PV := [pI f.w, pI f.h, .sl 1 (f.p.map i64P), pI b.x, pI b.y, .sl 1 (far.map i64P), .sl 4 (q.map nodP)]
theorem pindex_s (f : Fld) (b : Cel) (far : List Int) (q : List Nod) (c : Cel) (hf : fldE f = 0) (hc : inF f c = true) : Spec Tryz.prog 148 [.fel 7 [srPV f b far q] 0 0, celA c] [] (I .i64 (idxN f c)) [] := by
 obtain ⟨i1, i2, i3, i4, i5⟩ := place_ix hf hc
 have hci := inF_iff.1 hc
 have e1 : IntKind.i64.wrap (IntKind.i64.wrap (c.y * f.w) + c.x) = (idxN f c : Int) := by rw [wrap_in (c.y * f.w) (by omega) (by omega), wrap_in _ (by omega) (by omega)]; unfold idxN; omega
 refine spec_am Tryz.func148 rfl rfl mix 16 rfl [.tmp 4] Tryz.results148 (Nat.le_of_ble_eq_true rfl) ?_
 (iterate 2 ((try simp (etaStruct := .none) only [push_cast, DrawG, seval, e1]); (try (refine xsu ?_; try exact xtI))))
 (try (refine ⟨by kernel_rfl, ?_⟩))
 (iterate 2 ((try simp (etaStruct := .none) only [push_cast, DrawG, seval, e1]); (try (refine xsu ?_; try exact xtI))))
 exact xrz rfl
def costC (f : Fld) (c : Cel) : Int × Bool := if inF f c then (if placeV f c = 1 then (0, false) else (kV (placeV f c), true)) else (0, false)
theorem pcost_s (f : Fld) (b : Cel) (far : List Int) (q : List Nod) (c : Cel) (hf : fldE f = 0) : Spec Tryz.prog 146 [.fel 7 [srPV f b far q] 0 0, celA c] [] (.tup [I .i64 (costC f c).1, B (costC f c).2]) [] := by
 have hfo := fldE_ok hf
 have hav : atV f c = if inF f c then (placeV f c, 0) else (0, 7) := by unfold atV; rw [if_neg (by simp [hf])]
 have hm : f.w * f.h ≤ 40 * 40 := Int.mul_le_mul hfo.1.2 hfo.2.1.2 (by omega) (by omega)
 refine spec_am Tryz.func146 rfl rfl mix 28 rfl [.tmp 4, .tmp 5] Tryz.results146 (Nat.le_of_ble_eq_true rfl) ?_
 (try (refine xst ?_; try exact xtI))
 refine caP (at_s f c (by omega)) ?_
 rw [hav]
 (try (refine xst ?_; try exact xtI))
 (try (refine ⟨by kernel_rfl, ?_⟩))
 (try (refine xst ?_; try exact xtI))
 refine cond_i (fun h1 => ?_) (fun h1 => ?_)
 ·(try replace h1 := xhh h1)
  have hin : inF f c = false := by
   cases hc : inF f c with
   | false => rfl
   | true => rw [hc] at h1; simp at h1
  have e : costC f c = (0, false) := by unfold costC; rw [if_neg (by simp [hin])]
  rw [e]
  (try (refine xst ?_; try exact xtI))
  exact xrz rfl
 ·(try replace h1 := xhh h1)
  have hin : inF f c = true := by
   cases hc : inF f c with
   | true => rfl
   | false => rw [hc] at h1; simp at h1
  rw [if_pos hin]
  (try (refine xst ?_; try exact xtI))
  refine caP (cost_s (placeV f c)) ?_
  have hpl := hfo.2.2.2 _ (getD_mem f.p _ (show (c.y * f.w + c.x).toNat < f.p.length by have := place_ix hf hin; omega))
  have hcv := costV_ok (q := placeV f c) hpl
  have e : costC f c = if placeV f c = 1 then (0, false) else (kV (placeV f c), true) := by unfold costC; rw [if_pos hin]
  have e3 : (costC f c).1 = (costV (placeV f c)).1 ∧ (costC f c).2 = decide ((costV (placeV f c)).2 = 0) := by
   rw [e]
   rcases hcv with h | h
   ·rw [if_pos h.1, h.2]; exact ⟨rfl, rfl⟩
   ·rw [if_neg h.1, h.2]; exact ⟨rfl, rfl⟩
  rw [e3.1, e3.2]
  (try (refine xst ?_; try exact xtI))
  exact xrz rfl
theorem psides_s (c : Cel) (hx : -1000000 ≤ c.x ∧ c.x ≤ 1000000) (hy : -1000000 ≤ c.y ∧ c.y ≤ 1000000) : Spec Tryz.prog 147 [celA c] [] (.agg [I .i64 c.x, I .i64 (c.y - 1), I .i64 (c.x - 1), I .i64 c.y, I .i64 (c.x + 1), I .i64 c.y, I .i64 c.x, I .i64 (c.y + 1)]) [] := by
 refine spec_am Tryz.func147 rfl rfl mix 28 rfl [.cell 2 204] Tryz.results147 (Nat.le_of_ble_eq_true rfl) ?_
 (try (refine xst ?_; try exact xtI))
 exact xrz rfl
def leftH (b c : Cel) : Int := 2 * (((b.x - c.x).natAbs + (b.y - c.y).natAbs : Nat) : Int)
end Go.Proofs.YtllmjdcblfkfaaaGreat
namespace Go.Proofs.YtllmjdcblfkfaaaGreat
set_option linter.all false
open Go.RowKit
set_option maxRecDepth 100000
def lk (f : Fld) (b : Cel) (far : List Int) (d : Int) (q : List Nod) (c : Cel) : List Nod := if (costC f c).2 = true ∧ far.getD (idxN f c) default < 0 then hpush Nod.all q ⟨c, d + (costC f c).1, d + (costC f c).1 + leftH b c⟩ else q
def lookF (f : Fld) (b : Cel) (far : List Int) (d : Int) (q : List Nod) (l : List Cel) : List Nod := l.foldl (lk f b far d) q
theorem lookF_snoc (f : Fld) (b : Cel) (far : List Int) (d : Int) (q : List Nod) (l : List Cel) (c : Cel) : lookF f b far d q (l ++ [c]) = lk f b far d (lookF f b far d q l) c := by unfold lookF; rw [List.foldl_append]; rfl
theorem lk_len (f : Fld) (b : Cel) (far : List Int) (d : Int) (q : List Nod) (c : Cel) : (lk f b far d q c).length ≤ q.length + 1 := by
 unfold lk; split
 ·rw [hpush_len]; exact Nat.le_refl _
 ·omega
theorem lookF_len (f : Fld) (b : Cel) (far : List Int) (d : Int) (l : List Cel) : ∀ q : List Nod, (lookF f b far d q l).length ≤ q.length + l.length := by
 induction l with
 | nil => intro q; exact Nat.le_refl _
 | cons c r ih => intro q; have h1 := ih (lk f b far d q c); have h2 := lk_len f b far d q c; simp only [lookF, List.foldl_cons, List.length_cons] at *; omega
def goB (f : Fld) (b : Cel) (far : List Int) (q : List Nod) : Prop := 0 < q.length ∧ (far.getD (idxN f b) default < 0 ∨ (q.getD 0 default).all ≤ far.getD (idxN f b) default)
def runF (f : Fld) (b : Cel) : Nat → List Int → List Nod → List Int × List Nod
 | 0, far, q => (far, q)
 | N + 1, far, q => if 0 < q.length ∧ (far.getD (idxN f b) default < 0 ∨ (q.getD 0 default).all ≤ far.getD (idxN f b) default) then
  (if 0 ≤ far.getD (idxN f (q.getD 0 default).c) default then runF f b N far (hpop Nod.all q)
   else runF f b N (far.set (idxN f (q.getD 0 default).c) (q.getD 0 default).far) (lookF f b (far.set (idxN f (q.getD 0 default).c) (q.getD 0 default).far) (q.getD 0 default).far (hpop Nod.all q) (sidesC (q.getD 0 default).c)))
  else (far, q)
section
variable {f : Fld} {W H : Nat}
theorem celW_in (hw : f.w = (W : Int)) (hh : f.h = (H : Int)) (hW : 0 < W) {p : Nat} (hp : p < W * H) : inF f (celW W p) = true ∧ idxN f (celW W p) = p := by
 have h1 := Nat.div_add_mod p W
 have h2 := Nat.mod_lt p hW
 have h3 : p / W < H := by rw [Nat.div_lt_iff_lt_mul hW, Nat.mul_comm]; exact hp
 unfold celW idxN
 refine ⟨inF_iff.2 ⟨⟨Int.natCast_nonneg _, by simp only; rw [hw]; exact Int.ofNat_lt.2 h2⟩, Int.natCast_nonneg _, by simp only; rw [hh]; exact Int.ofNat_lt.2 h3⟩, ?_⟩
 simp only
 rw [hw, show ((p / W : Nat) : Int) * (W : Int) = ((W * (p / W) : Nat) : Int) from by rw [Nat.mul_comm, Int.natCast_mul]]
 omega
theorem in_celW (hw : f.w = (W : Int)) (hh : f.h = (H : Int)) (hW : 0 < W) (hf : fldE f = 0) {c : Cel} (hc : inF f c = true) : c = celW W (idxN f c) ∧ idxN f c < f.p.length := by
 obtain ⟨i1, i2, i3, i4, i5⟩ := place_ix hf hc
 have hci := inF_iff.1 hc
 obtain ⟨x, hx⟩ : ∃ x : Nat, c.x = (x : Int) := Int.eq_ofNat_of_zero_le hci.1.1
 obtain ⟨y, hy⟩ : ∃ y : Nat, c.y = (y : Int) := Int.eq_ofNat_of_zero_le hci.2.1
 have e : idxN f c = W * y + x := by
  unfold idxN
  rw [hx, hy, hw, show (y : Int) * (W : Int) = ((W * y : Nat) : Int) from by rw [Nat.mul_comm, Int.natCast_mul]]
  omega
 have hxW : x < W := by omega
 refine ⟨?_, by unfold idxN; omega⟩
 rw [e]
 unfold celW
 rw [Nat.mul_add_mod, Nat.mod_eq_of_lt hxW, Nat.mul_add_div hW, Nat.div_eq_of_lt hxW, Nat.add_zero, ← hx, ← hy]
theorem hh_cons (hw : f.w = (W : Int)) (hh : f.h = (H : Int)) (hW : 0 < W) (b : Cel) : Cons W (W * H) fun p => leftH b (celW W p) := by
 intro p n hp hn ha
 have key : ∀ c c' : Cel, (c.x = c'.x ∧ (c.y = c'.y + 1 ∨ c'.y = c.y + 1)) ∨ (c.y = c'.y ∧ (c.x = c'.x + 1 ∨ c'.x = c.x + 1)) → leftH b c ≤ leftH b c' + 2 := by
  intro c c' h; unfold leftH; omega
 refine key _ _ ?_
 have h1 := Nat.div_add_mod p W
 have h2 := Nat.div_add_mod n W
 have m1 := Nat.mod_lt p hW
 have m2 := Nat.mod_lt n hW
 unfold celW
 simp only
 have up : ∀ m : Nat, (m + W) % W = m % W ∧ (m + W) / W = m / W + 1 := fun m => ⟨Nat.add_mod_right m W, Nat.add_div_right m hW⟩
 have side : ∀ m : Nat, 0 < (m + 1) % W → (m + 1) % W = m % W + 1 ∧ (m + 1) / W = m / W := fun m h => by
  have hs := succ_mod hW m
  have hl := Nat.mod_lt m hW
  have hd := Nat.div_add_mod m W
  split at hs
  ·omega
  ·rename_i hne
   refine ⟨hs, ?_⟩
   have hlt : m % W + 1 < W := by omega
   have : m + 1 = W * (m / W) + (m % W + 1) := by rw [← Nat.add_assoc, Nat.div_add_mod]
   rw [this, Nat.mul_add_div hW, Nat.div_eq_of_lt hlt, Nat.add_zero]
 rcases ha with h | ⟨h, h'⟩ | ⟨h, h'⟩ | h
 ·obtain ⟨u1, u2⟩ := up n; rw [h] at u1 u2; exact .inl ⟨by omega, .inl (by omega)⟩
 ·obtain ⟨u1, u2⟩ := side n (by rw [h]; exact h'); rw [h] at u1 u2; exact .inr ⟨by omega, .inl (by omega)⟩
 ·obtain ⟨u1, u2⟩ := side p (by rw [h]; exact h'); rw [h] at u1 u2; exact .inr ⟨by omega, .inr (by omega)⟩
 ·obtain ⟨u1, u2⟩ := up p; rw [h] at u1 u2; exact .inl ⟨by omega, .inr (by omega)⟩
theorem look_step (hw : f.w = (W : Int)) (hh : f.h = (H : Int)) (hW : 0 < W) (hf : fldE f = 0) (hL : f.p.length = W * H) (b : Cel) {a p : Nat} {far : List Int} {q : List Nod} {done : Nat → Nat → Prop} {d : Int} (h : As W f.p a (fun n => leftH b (celW W n)) far q done) (hp : p < f.p.length) (hd : far.getD p default = d) (h0 : 0 ≤ d)
 (top : ∀ m, m < f.p.length → 0 ≤ far.getD m default → far.getD m default + leftH b (celW W m) ≤ d + leftH b (celW W p)) (hb : d + 3 ≤ 3 * sumL one0 far) (c : Cel) (hc : inF f c = true → Adj W p (idxN f c)) :
 As W f.p a (fun n => leftH b (celW W n)) far (lk f b far d q c) fun x n => done x n ∨ (x = p ∧ inF f c = true ∧ n = idxN f c) := by
 have hcons := hh_cons hw hh hW b
 rw [← hL] at hcons
 cases hin : inF f c with
 | false =>
  have e : lk f b far d q c = q := by unfold lk costC; rw [if_neg (by rw [hin]; simp)]
  rw [e]
  refine ⟨h.len, h.low, h.heap, h.itm, h.src, h.why, h.top, fun u v h1 h2 h3 h4 => h.all u v h1 h2 h3 ?_⟩
  rcases h4 with h4 | h4
  ·exact h4
  ·exact absurd h4.2.1 (by decide)
 | true =>
  obtain ⟨e1, e2⟩ := in_celW hw hh hW hf hin
  have epl : placeV f c = f.p.getD (idxN f c) default := rfl
  refine h.look hcons (n := idxN f c) e2 hp (hc hin) (by rw [hd]; exact h0) (fun m h1 h2 => by rw [hd]; exact top m h1 h2) (by rw [hd]; exact hb) _ (fun x y h4 => by
   rcases h4 with h4 | h4
   ·exact .inl h4
   ·exact .inr ⟨h4.1, h4.2.2⟩) ?_
  unfold lk costC
  rw [if_pos hin, epl, hd]
  by_cases hr : f.p.getD (idxN f c) default = 1
  ·rw [if_pos hr, if_neg (by simp)]
   exact .inl ⟨.inl hr, rfl⟩
  ·rw [if_neg hr]
   by_cases hn : far.getD (idxN f c) default < 0
   ·rw [if_pos ⟨rfl, hn⟩, ← e1]
    exact .inr ⟨hr, hn, rfl⟩
   ·rw [if_neg (fun h => hn h.2)]
    exact .inl ⟨.inr (by omega), rfl⟩
theorem sides_adj (hw : f.w = (W : Int)) (hh : f.h = (H : Int)) (hW : 0 < W) {p : Nat} (hp : p < W * H) {c : Cel} (hc : c ∈ sidesC (celW W p)) (hin : inF f c = true) : Adj W p (idxN f c) := by
 obtain ⟨bm, _⟩ := besideC_ok f hw hh hW hp
 have : idxN f c ∈ besideN W H p := by rw [← bm]; exact List.mem_map_of_mem (List.mem_filter.2 ⟨hc, hin⟩)
 exact ((mem_beside hW hp).1 this).2
theorem adj_sides (hw : f.w = (W : Int)) (hh : f.h = (H : Int)) (hW : 0 < W) {p n : Nat} (hp : p < W * H) (hn : n < W * H) (ha : Adj W p n) : ∃ c ∈ sidesC (celW W p), inF f c = true ∧ n = idxN f c := by
 obtain ⟨bm, _⟩ := besideC_ok f hw hh hW hp
 have := (mem_beside hW hp).2 ⟨hn, ha⟩
 rw [← bm] at this
 obtain ⟨c, hc, e⟩ := List.mem_map.1 this
 obtain ⟨h1, h2⟩ := List.mem_filter.1 hc
 exact ⟨c, h1, h2, e.symm⟩
def doneK (f : Fld) (W p k : Nat) (x n : Nat) : Prop := x ≠ p ∨ ∃ c ∈ (sidesC (celW W p)).take k, inF f c = true ∧ n = idxN f c
theorem look_k (hw : f.w = (W : Int)) (hh : f.h = (H : Int)) (hW : 0 < W) (hf : fldE f = 0) (hL : f.p.length = W * H) (b : Cel) {a p : Nat} {far : List Int} {q : List Nod} {d : Int} (h : As W f.p a (fun n => leftH b (celW W n)) far q (fun x _ => x ≠ p)) (hp : p < f.p.length) (hd : far.getD p default = d) (h0 : 0 ≤ d)
 (top : ∀ m, m < f.p.length → 0 ≤ far.getD m default → far.getD m default + leftH b (celW W m) ≤ d + leftH b (celW W p)) (hb : d + 3 ≤ 3 * sumL one0 far) : ∀ k, k ≤ 4 → As W f.p a (fun n => leftH b (celW W n)) far (lookF f b far d q ((sidesC (celW W p)).take k)) (doneK f W p k) := by
 intro k
 induction k with
 | zero =>
  intro _
  refine ⟨h.len, h.low, h.heap, h.itm, h.src, h.why, h.top, fun u v h1 h2 h3 h4 => h.all u v h1 h2 h3 ?_⟩
  rcases h4 with h4 | ⟨c, hc, _⟩
  ·exact h4
  ·simp at hc
 | succ k ih =>
  intro hk
  have hlt : k < (sidesC (celW W p)).length := by rw [show (sidesC (celW W p)).length = 4 from rfl]; omega
  rw [take_snoc _ _ hlt, lookF_snoc]
  have := look_step hw hh hW hf hL b (ih (by omega)) hp hd h0 top hb ((sidesC (celW W p)).getD k default) (fun hin => sides_adj hw hh hW (by omega) (getD_mem _ _ hlt) hin)
  refine ⟨this.len, this.low, this.heap, this.itm, this.src, this.why, this.top, fun u v h1 h2 h3 h4 => this.all u v h1 h2 h3 ?_⟩
  rcases h4 with h4 | ⟨c, hc, h5, h6⟩
  ·exact .inl (.inl h4)
  ·rw [take_snoc _ _ hlt, List.mem_append, List.mem_singleton] at hc
   by_cases hu : u = p
   ·rcases hc with hc | hc
    ·exact .inl (.inr ⟨c, hc, h5, h6⟩)
    ·subst hc; exact .inr ⟨hu, h5, h6⟩
   ·exact .inl (.inl hu)
theorem look_all (hw : f.w = (W : Int)) (hh : f.h = (H : Int)) (hW : 0 < W) (hL : f.p.length = W * H) {a p : Nat} {hf2 : Nat → Int} {far : List Int} {q : List Nod} (hp : p < f.p.length) (h : As W f.p a hf2 far q (doneK f W p 4)) : As W f.p a hf2 far q fun _ _ => True := by
 refine ⟨h.len, h.low, h.heap, h.itm, h.src, h.why, h.top, fun u v h1 h2 h3 _ => h.all u v h1 h2 h3 ?_⟩
 by_cases hu : u = p
 ·subst hu; exact .inr (adj_sides hw hh hW (by omega) (by omega) h3)
 ·exact .inl hu
end
def muS (f : Fld) (far : List Int) (q : List Nod) : Nat := 5 * (f.p.length - sumL one0 far) + q.length
section
variable {f : Fld} {W H : Nat}
theorem close_ok (hw : f.w = (W : Int)) (hh : f.h = (H : Int)) (hW : 0 < W) (hf : fldE f = 0) (hL : f.p.length = W * H) (b : Cel) {a : Nat} {far : List Int} {q : List Nod} (h : As W f.p a (fun n => leftH b (celW W n)) far q fun _ _ => True) (hq : 0 < q.length) (h0 : far.getD (idxN f (q.getD 0 default).c) default < 0) :
 ∃ p, (q.getD 0 default).c = celW W p ∧ idxN f (q.getD 0 default).c = p ∧ p < f.p.length ∧ 0 ≤ (q.getD 0 default).far ∧ As W f.p a (fun n => leftH b (celW W n)) (far.set p (q.getD 0 default).far) (hpop Nod.all q) (fun x _ => x ≠ p) ∧ (far.set p (q.getD 0 default).far).getD p default = (q.getD 0 default).far ∧ sumL one0 (far.set p (q.getD 0 default).far) = sumL one0 far + 1 ∧
  (∀ m, m < f.p.length → 0 ≤ (far.set p (q.getD 0 default).far).getD m default → (far.set p (q.getD 0 default).far).getD m default + leftH b (celW W m) ≤ (q.getD 0 default).far + leftH b (celW W p)) ∧ (q.getD 0 default).far + 3 ≤ 3 * sumL one0 (far.set p (q.getD 0 default).far) := by
 obtain ⟨p, e1, hp, j0, jb, ja, jm, jw⟩ := h.itm _ ((hpop_mem Nod.all q hq _).2 (.inl rfl))
 have hidx : idxN f (q.getD 0 default).c = p := by rw [e1]; exact (celW_in hw hh hW (by omega)).2
 rw [hidx] at h0
 obtain ⟨_, hA⟩ := h.close hW hq e1 h0
 have hpL : p < far.length := by rw [h.len]; exact hp
 have G := fun k => set_get (q.getD 0 default).far k hpL
 have cnt : sumL one0 (far.set p (q.getD 0 default).far) = sumL one0 far + 1 := by
  have := sumL_set one0 far p (q.getD 0 default).far hpL
  simp only [one0, if_neg (show ¬ 0 ≤ far.getD p default by omega), if_pos j0] at this; simpa [one0] using this
 refine ⟨p, e1, hidx, hp, j0, hA, by rw [G, if_pos rfl], cnt, fun m hm hm0 => ?_, by rw [cnt]; omega⟩
 rw [G] at hm0 ⊢
 split
 ·rename_i e; subst e; exact Int.le_refl _
 ·rename_i e
  rw [if_neg e] at hm0
  have := jm m hm hm0
  omega
theorem run_ok (hw : f.w = (W : Int)) (hh : f.h = (H : Int)) (hW : 0 < W) (hf : fldE f = 0) (hL : f.p.length = W * H) (b : Cel) {a : Nat} : ∀ (N : Nat) (far : List Int) (q : List Nod), As W f.p a (fun n => leftH b (celW W n)) far q (fun _ _ => True) → muS f far q ≤ N →
 As W f.p a (fun n => leftH b (celW W n)) (runF f b N far q).1 (runF f b N far q).2 (fun _ _ => True) ∧ ¬ goB f b (runF f b N far q).1 (runF f b N far q).2 := by
 intro N
 induction N with
 | zero =>
  intro far q h hm
  refine ⟨h, fun hg => ?_⟩
  have := hg.1
  simp only [runF] at this
  unfold muS at hm; omega
 | succ N ih =>
  intro far q h hm
  rw [runF]
  split
  ·rename_i hg
   have hcl := sumL_le one0 1 one0_le far
   rw [h.len] at hcl
   split
   ·rename_i h0
    obtain ⟨p, e1, hp, _⟩ := h.itm _ ((hpop_mem Nod.all q hg.1 _).2 (.inl rfl))
    have hidx : idxN f (q.getD 0 default).c = p := by rw [e1]; exact (celW_in hw hh hW (by omega)).2
    rw [hidx] at h0
    exact ih _ _ (h.skip hg.1 e1 h0) (by unfold muS at *; rw [hpop_len]; omega)
   ·rename_i h0
    obtain ⟨p, e1, hidx, hp, j0, hA, hself, cnt, top, hb⟩ := close_ok hw hh hW hf hL b h hg.1 (by omega)
    have h4 := look_k hw hh hW hf hL b hA hp hself j0 top hb 4 (Nat.le_refl _)
    rw [show (sidesC (celW W p)).take 4 = sidesC (celW W p) from rfl] at h4
    have h5 := look_all hw hh hW hL hp h4
    rw [hidx, e1]
    refine ih _ _ h5 ?_
    have hll := lookF_len f b (far.set p (q.getD 0 default).far) (q.getD 0 default).far (sidesC (celW W p)) (hpop Nod.all q)
    have hcl2 := sumL_le one0 1 one0_le (far.set p (q.getD 0 default).far)
    rw [List.length_set, h.len] at hcl2
    rw [hpop_len, show (sidesC (celW W p)).length = 4 from rfl] at hll
    unfold muS at *
    rw [cnt]; omega
  ·rename_i hg
   exact ⟨h, hg⟩
end
end Go.Proofs.YtllmjdcblfkfaaaGreat
namespace Go.Proofs.YtllmjdcblfkfaaaGreat
set_option linter.all false
open Go.RowKit
set_option maxRecDepth 100000
set_option maxHeartbeats 1000000
theorem ppush_s (f : Fld) (b : Cel) (far : List Int) (l : List Nod) (c : Cel) (d : Int) (hl : l.length ≤ 1000000) (hx : -1000 ≤ c.x ∧ c.x ≤ 1000) (hy : -1000 ≤ c.y ∧ c.y ≤ 1000) (hbx : 0 ≤ b.x ∧ b.x ≤ 40) (hby : 0 ≤ b.y ∧ b.y ≤ 40) (hd : 0 ≤ d ∧ d ≤ 1000000) : Spec Tryz.prog 155 [.ptr 0 0 0, celA c, I .i64 d] [.blk 209 [I .i64 f.w, I .i64 f.h, .c (.sl 1 (f.p.map i64P)), I .i64 b.x, I .i64 b.y, .own 1, .own 2], .row 3 1 (far.map i64P), .row 225 4 (l.map nodP)] (.tup []) [.blk 209 [I .i64 f.w, I .i64 f.h, .c (.sl 1 (f.p.map i64P)), I .i64 b.x, I .i64 b.y, .own 1, .own 3], .row 3 1 (far.map i64P), .dead, .row 225 4 ((hpush Nod.all l ⟨c, d, d + leftH b c⟩).map nodP)] := by
 have e1 : IntKind.i64.wrap (d + IntKind.i64.wrap (2 * (((b.x - c.x).natAbs + (b.y - c.y).natAbs : Nat) : Int))) = d + leftH b c := by unfold leftH; rw [wrap_in (2 * _) (by omega) (by omega), wrap_in _ (by omega) (by omega)]
 refine spec_am Tryz.func155 rfl rfl mix 32 rfl [] Tryz.results155 (Nat.le_of_ble_eq_true rfl) ?_
 (iterate 2 ((try simp (etaStruct := .none) only [push_cast, DrawG, seval, e1]); (try (refine xsu ?_; try exact xtI))))
 refine caP (lapart_s c b (by simp [nearB]; omega) (by simp [nearB]; omega)) ?_
 (iterate 2 ((try simp (etaStruct := .none) only [push_cast, DrawG, seval, e1]); (try (refine xsu ?_; try exact xtI))))
 (try (refine ⟨by kernel_rfl, ?_⟩))
 (iterate 2 ((try simp (etaStruct := .none) only [push_cast, DrawG, seval, e1]); (try (refine xsu ?_; try exact xtI))))
 refine callM [0, 1, 2] (ohpush_s f b far l ⟨c, d, d + leftH b c⟩ hl) (WkL.refl _) rfl (by decide) (by simp [lookC_c, onlyC, memN]) ?_
 (iterate 2 ((try simp (etaStruct := .none) only [push_cast, DrawG, seval, e1]); (try (refine xsu ?_; try exact xtI))))
 (try (refine ⟨by kernel_rfl, ?_⟩))
 (iterate 2 ((try simp (etaStruct := .none) only [push_cast, DrawG, seval, e1]); (try (refine xsu ?_; try exact xtI))))
 refine retM [0, 1, 2, 104] rfl rfl (by decide) ⟨?_, ?_, ?_, ?_, trivial⟩ trivial ?_ <;> simp (etaStruct := .none) only [push_cast, DrawG, seval]
end Go.Proofs.YtllmjdcblfkfaaaGreat
namespace Go.Proofs.YtllmjdcblfkfaaaGreat
set_option linter.all false
open Go.RowKit
set_option maxRecDepth 100000
def nxtP (R : List Int) (f : Fld) (c n : Cel) : Bool := decide (0 ≤ R.getD (idxN f n) default) && decide (R.getD (idxN f n) default + kV (placeV f c) = R.getD (idxN f c) default)
def nxtC (R : List Int) (f : Fld) (c : Cel) : Cel := ((besideC f c).find? (nxtP R f c)).getD default
def wayL (R : List Int) (f : Fld) (a : Cel) : Nat → Cel → List Cel
 | 0, _ => []
 | N + 1, c => if c = a then [] else nxtC R f c :: wayL R f a N (nxtC R f c)
def wayV (R : List Int) (f : Fld) (a b : Cel) : List Cel := (b :: wayL R f a (R.getD (idxN f b) default).toNat b).reverse
def wayE (R : List Int) (f : Fld) (a b : Cel) : Int := if fldE f ≠ 0 then fldE f else if ¬ (inF f a = true ∧ inF f b = true) then 7 else if placeV f a = 1 ∨ placeV f b = 1 then 9 else if R.getD (idxN f b) default < 0 then 6 else 0
theorem besideC_near {f : Fld} {W H : Nat} (hw : f.w = (W : Int)) (hh : f.h = (H : Int)) (hW : 0 < W) (hf : fldE f = 0) (hL : f.p.length = W * H) {c n : Cel} (hc : inF f c = true) (hn : n ∈ besideC f c) : inF f n = true ∧ Adj W (idxN f c) (idxN f n) ∧ idxN f n < f.p.length := by
 obtain ⟨h1, h2⟩ := List.mem_filter.1 hn
 obtain ⟨e1, e2⟩ := in_celW hw hh hW hf hc
 rw [e1] at h1
 exact ⟨h2, sides_adj hw hh hW (by omega) h1 h2, (in_celW hw hh hW hf h2).2⟩
theorem nxt_ex {f : Fld} {W H : Nat} (hw : f.w = (W : Int)) (hh : f.h = (H : Int)) (hW : 0 < W) (hf : fldE f = 0) (hL : f.p.length = W * H) {a c : Cel} {R : List Int} (hR : Flood W f.p [idxN f a] R) (ha : inF f a = true) (hc : inF f c = true) (hca : c ≠ a) (h0 : 0 ≤ R.getD (idxN f c) default) :
 ∃ n ∈ besideC f c, nxtP R f c n = true := by
 obtain ⟨e1, e2⟩ := in_celW hw hh hW hf hc
 rcases hR.why _ e2 h0 with ⟨h1, h2⟩ | ⟨m, hm, hadj, hr, h3, h4⟩
 ·rw [List.mem_singleton] at h1
  have := (in_celW hw hh hW hf ha).1
  rw [← h1, ← e1] at this
  exact absurd this.symm hca
 ·have hp := hR.all m _ hm e2 hadj.symm h3 hr
  obtain ⟨n, hn, hin, rfl⟩ := adj_sides hw hh hW (by omega) (by omega) hadj
  rw [← e1] at hn
  refine ⟨n, List.mem_filter.2 ⟨hn, hin⟩, ?_⟩
  unfold nxtP
  have epl : placeV f c = f.p.getD (idxN f c) default := rfl
  rw [epl, Bool.and_eq_true, decide_eq_true_eq, decide_eq_true_eq]
  exact ⟨h3, by omega⟩
theorem nxt_ok {f : Fld} {W H : Nat} (hw : f.w = (W : Int)) (hh : f.h = (H : Int)) (hW : 0 < W) (hf : fldE f = 0) (hL : f.p.length = W * H) {a c : Cel} {R : List Int} (hR : Flood W f.p [idxN f a] R) (ha : inF f a = true) (hc : inF f c = true) (hca : c ≠ a) (h0 : 0 ≤ R.getD (idxN f c) default) :
 (besideC f c).find? (nxtP R f c) = some (nxtC R f c) ∧ nxtC R f c ∈ besideC f c ∧ inF f (nxtC R f c) = true ∧ Adj W (idxN f c) (idxN f (nxtC R f c)) ∧ 0 ≤ R.getD (idxN f (nxtC R f c)) default ∧ R.getD (idxN f (nxtC R f c)) default + kV (placeV f c) = R.getD (idxN f c) default := by
 obtain ⟨n, hn, hp⟩ := nxt_ex hw hh hW hf hL hR ha hc hca h0
 cases hfi : (besideC f c).find? (nxtP R f c) with
 | none => exact absurd hp (by simpa using List.find?_eq_none.1 hfi n hn)
 | some m =>
  have e : nxtC R f c = m := by unfold nxtC; rw [hfi]; rfl
  have hm := List.mem_of_find?_eq_some hfi
  have hq := List.find?_some hfi
  unfold nxtP at hq
  rw [Bool.and_eq_true, decide_eq_true_eq, decide_eq_true_eq] at hq
  obtain ⟨b1, b2, _⟩ := besideC_near hw hh hW hf hL hc hm
  rw [e]
  exact ⟨rfl, hm, b1, b2, hq.1, hq.2⟩
theorem prog_ok {f : Fld} {W H : Nat} (hw : f.w = (W : Int)) (hh : f.h = (H : Int)) (hW : 0 < W) (hf : fldE f = 0) (hL : f.p.length = W * H) {a b c : Cel} {R far : List Int} {q : List Nod} (hR : Flood W f.p [idxN f a] R) (ha : inF f a = true) (hpa : placeV f a ≠ 1) (hc : inF f c = true) (h0 : 0 ≤ R.getD (idxN f c) default)
 (hA : As W f.p (idxN f a) (fun n => leftH b (celW W n)) far q fun _ _ => True) (hcb : R.getD (idxN f c) default + leftH b c ≤ R.getD (idxN f b) default) (hq : ∀ x ∈ q, R.getD (idxN f b) default < x.all) (hfc : far.getD (idxN f c) default = R.getD (idxN f c) default) {n : Cel} (hn : n ∈ sidesC c) :
 ((costC f n).2 = true ∧ 0 ≤ far.getD (idxN f n) default ∧ far.getD (idxN f n) default + kV (placeV f c) = far.getD (idxN f c) default) ↔ (inF f n = true ∧ nxtP R f c n = true) := by
 have hcons := hh_cons hw hh hW b
 rw [← hL] at hcons
 have haL := (in_celW hw hh hW hf ha).2
 obtain ⟨ec, hcL⟩ := in_celW hw hh hW hf hc
 have hkv := kV_b (placeV f c)
 have epl : ∀ n, placeV f n = f.p.getD (idxN f n) default := fun _ => rfl
 unfold nxtP costC
 rw [Bool.and_eq_true, decide_eq_true_eq, decide_eq_true_eq, hfc]
 constructor
 ·rintro ⟨h1, h2, h3⟩
  have hin : inF f n = true := by
   cases hi : inF f n with
   | true => rfl
   | false => rw [hi] at h1; simp at h1
  have := hA.same hcons haL hR (in_celW hw hh hW hf hin).2 h2
  rw [this] at h2 h3
  exact ⟨hin, h2, h3⟩
 ·rintro ⟨hin, h2, h3⟩
  obtain ⟨en, hnL⟩ := in_celW hw hh hW hf hin
  have hadj : Adj W (idxN f c) (idxN f n) := by rw [ec] at hn; exact sides_adj hw hh hW (by omega) hn hin
  have hle := hcons _ _ hnL hcL hadj.symm
  simp only at hle
  rw [← en, ← ec] at hle
  have hk := hA.known hcons haL hR hnL h2 (fun x hx => by have := hq x hx; rw [← en]; omega)
  rw [hk]
  refine ⟨?_, h2, h3⟩
  rw [if_pos hin, if_neg]
  rw [epl]
  rcases hR.why _ hnL h2 with ⟨w1, _⟩ | ⟨_, _, _, hr, _⟩
  ·rw [List.mem_singleton] at w1; rw [w1]; exact hpa
  ·exact hr
theorem find_sides {f : Fld} {R : List Int} {c : Cel} {p : Cel → Bool} (hp : ∀ n ∈ sidesC c, p n = (inF f n && nxtP R f c n)) : (sidesC c).find? p = (besideC f c).find? (nxtP R f c) := by
 unfold besideC
 rw [List.find?_filter]
 have key : ∀ l : List Cel, (∀ n ∈ l, p n = (inF f n && nxtP R f c n)) → l.find? p = l.find? (fun n => inF f n && nxtP R f c n) := by
  intro l
  induction l with
  | nil => intro _; rfl
  | cons x r ih => intro h; rw [List.find?_cons, List.find?_cons, h x (by simp), ih fun n hn => h n (by simp [hn])]
 have := key _ hp
 simpa using this
end Go.Proofs.YtllmjdcblfkfaaaGreat
