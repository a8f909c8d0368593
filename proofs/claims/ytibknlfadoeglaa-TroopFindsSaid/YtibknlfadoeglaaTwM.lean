/- Worlds of troops: is one right? -/
import Derived.Test.YtibknlfadoeglaaFl
import Derived.Test.YtibknlfadoeglaaEqD
namespace Go.Proofs.Ytibknlfadoeglaa
set_option linter.all false
open Go.RowKit
set_option maxRecDepth 100000
set_option maxHeartbeats 1000000
/-- Ground that is no wall. -/
def groundV (f : Fld) (c : Cel) : Bool := inF f c && !decide (placeV f c = 1)
theorem ground_s (f : Fld) (c : Cel) (h : fldE f = 0) : Spec Try.prog 108 [fldA f, celA c] [] (B (groundV f c)) [] := by
  have hk := fldE_ok h
  refine spec_am Try.func108 rfl rfl mix 14 rfl [.tmp 4] Try.results108 (Nat.le_of_ble_eq_true rfl) ?_
  (try simp (etaStruct := .none) only [push_cast, Int.cast_ofNat_Int, Nat.reduceAdd, Nat.reduceSub, Nat.reduceMul, reduceCtorEq, reduceIte, Nat.reduceEqDiff, Nat.reduceLT, Nat.reduceLeDiff, Nat.reduceBEq, Int.reduceToNat, Int.reduceLE, Int.reduceLT]); (try simp (disch := omega) only [wrap_in, wk_self, Int.tdiv_eq_ediv_of_nonneg, Int.tmod_eq_emod_of_nonneg]); (repeat (with_reducible refine And.intro ?_ ?_; · first | omega | decide | (simp; done) | (simp; omega) | (intro hh; refine ⟨hh, ?_⟩; omega) | (simp +contextual; done)))
  refine callP (in_s f c (by omega) (by omega)) (WkL.refl _) ?_
  (try simp (etaStruct := .none) only [push_cast, Int.cast_ofNat_Int, Nat.reduceAdd, Nat.reduceSub, Nat.reduceMul, reduceCtorEq, reduceIte, Nat.reduceEqDiff, Nat.reduceLT, Nat.reduceLeDiff, Nat.reduceBEq, Int.reduceToNat, Int.reduceLE, Int.reduceLT]); (try simp (disch := omega) only [wrap_in, wk_self, Int.tdiv_eq_ediv_of_nonneg, Int.tmod_eq_emod_of_nonneg]); (repeat (with_reducible refine And.intro ?_ ?_; · first | omega | decide | (simp; done) | (simp; omega) | (intro hh; refine ⟨hh, ?_⟩; omega) | (simp +contextual; done)))
  refine gcallP (fun hcc => place_s f c h hcc) (WkL.refl _) (by intro hc; (try simp (etaStruct := .none) only [push_cast, Int.cast_ofNat_Int, Nat.reduceAdd, Nat.reduceSub, Nat.reduceMul, reduceCtorEq, reduceIte, Nat.reduceEqDiff, Nat.reduceLT, Nat.reduceLeDiff, Nat.reduceBEq, Int.reduceToNat, Int.reduceLE, Int.reduceLT]); (try simp_all)) ?_
  (try simp (etaStruct := .none) only [push_cast, Int.cast_ofNat_Int, Nat.reduceAdd, Nat.reduceSub, Nat.reduceMul, reduceCtorEq, reduceIte, Nat.reduceEqDiff, Nat.reduceLT, Nat.reduceLeDiff, Nat.reduceBEq, Int.reduceToNat, Int.reduceLE, Int.reduceLT]); (try simp (disch := omega) only [wrap_in, wk_self, Int.tdiv_eq_ediv_of_nonneg, Int.tmod_eq_emod_of_nonneg]); (repeat (with_reducible refine And.intro ?_ ?_; · first | omega | decide | (simp; done) | (simp; omega) | (intro hh; refine ⟨hh, ?_⟩; omega) | (simp +contextual; done)))
  (first | (refine ret0 rfl (by repeat' (first | exact trivial | exact rfl | refine ⟨?_, ?_⟩)) (Wk.of ?_); (try simp (etaStruct := .none) only [push_cast, Int.cast_ofNat_Int, Nat.reduceAdd, Nat.reduceSub, Nat.reduceMul, reduceCtorEq, reduceIte, Nat.reduceEqDiff, Nat.reduceLT, Nat.reduceLeDiff, Nat.reduceBEq, Int.reduceToNat, Int.reduceLE, Int.reduceLT]); first | done | (simp [groundV, *]; done) | (simp_all [groundV]; done)) | (refine ret0 rfl (by repeat' (first | exact trivial | exact rfl | refine ⟨?_, ?_⟩)) ?_; (try simp (etaStruct := .none) only [push_cast, Int.cast_ofNat_Int, Nat.reduceAdd, Nat.reduceSub, Nat.reduceMul, reduceCtorEq, reduceIte, Nat.reduceEqDiff, Nat.reduceLT, Nat.reduceLeDiff, Nat.reduceBEq, Int.reduceToNat, Int.reduceLE, Int.reduceLT]); (try simp [groundV, *]); (try (first | exact Wk.refl _ | exact Wk.nil _ | (refine Wk.tup ?_; repeat' (first | exact trivial | exact Wk.refl _ | exact Wk.nil _ | refine ⟨?_, ?_⟩ | (refine Wk.agg ?_)))))))
structure Knd where
  life : Int
  blow : Int
  load : Int
  price : Int
  deriving DecidableEq, Inhabited
def kindV (k : Int) : Knd := if k = 1 then ⟨10, 1, 1, 5⟩ else if k = 2 then ⟨20, 2, 4, 12⟩ else ⟨0, 0, 0, 0⟩
abbrev kndA (k : Knd) : AV := .agg [I .i64 k.life, I .i64 k.blow, I .i64 k.load, I .i64 k.price]
theorem kindOf_s (k : Int) (h : k = 1 ∨ k = 2) : Spec Try.prog 69 [I .i64 k] [] (kndA (kindV k)) [] := by
  rcases h with rfl | rfl
  · have e : kindV 1 = ⟨10, 1, 1, 5⟩ := rfl
    rw [e]
    refine spec_am Try.func69 rfl rfl mix 10 rfl [.cell 2 124] Try.results69 (Nat.le_of_ble_eq_true rfl) ?_
    (try simp (etaStruct := .none) only [push_cast, Int.cast_ofNat_Int, Nat.reduceAdd, Nat.reduceSub, Nat.reduceMul, reduceCtorEq, reduceIte, Nat.reduceEqDiff, Nat.reduceLT, Nat.reduceLeDiff, Nat.reduceBEq, Int.reduceToNat, Int.reduceLE, Int.reduceLT]); (try simp (disch := omega) only [wrap_in, wk_self, Int.tdiv_eq_ediv_of_nonneg, Int.tmod_eq_emod_of_nonneg]); (repeat (with_reducible refine And.intro ?_ ?_; · first | omega | decide | (simp; done) | (simp; omega) | (intro hh; refine ⟨hh, ?_⟩; omega) | (simp +contextual; done)))
    (first | (refine ret0 rfl (by repeat' (first | exact trivial | exact rfl | refine ⟨?_, ?_⟩)) (Wk.of ?_); (try simp (etaStruct := .none) only [push_cast, Int.cast_ofNat_Int, Nat.reduceAdd, Nat.reduceSub, Nat.reduceMul, reduceCtorEq, reduceIte, Nat.reduceEqDiff, Nat.reduceLT, Nat.reduceLeDiff, Nat.reduceBEq, Int.reduceToNat, Int.reduceLE, Int.reduceLT]); first | done | (simp [*]; done) | (simp_all []; done)) | (refine ret0 rfl (by repeat' (first | exact trivial | exact rfl | refine ⟨?_, ?_⟩)) ?_; (try simp (etaStruct := .none) only [push_cast, Int.cast_ofNat_Int, Nat.reduceAdd, Nat.reduceSub, Nat.reduceMul, reduceCtorEq, reduceIte, Nat.reduceEqDiff, Nat.reduceLT, Nat.reduceLeDiff, Nat.reduceBEq, Int.reduceToNat, Int.reduceLE, Int.reduceLT]); (try simp [*]); (try (first | exact Wk.refl _ | exact Wk.nil _ | (refine Wk.tup ?_; repeat' (first | exact trivial | exact Wk.refl _ | exact Wk.nil _ | refine ⟨?_, ?_⟩ | (refine Wk.agg ?_)))))))
  · have e : kindV 2 = ⟨20, 2, 4, 12⟩ := rfl
    rw [e]
    refine spec_am Try.func69 rfl rfl mix 10 rfl [.cell 2 124] Try.results69 (Nat.le_of_ble_eq_true rfl) ?_
    (try simp (etaStruct := .none) only [push_cast, Int.cast_ofNat_Int, Nat.reduceAdd, Nat.reduceSub, Nat.reduceMul, reduceCtorEq, reduceIte, Nat.reduceEqDiff, Nat.reduceLT, Nat.reduceLeDiff, Nat.reduceBEq, Int.reduceToNat, Int.reduceLE, Int.reduceLT]); (try simp (disch := omega) only [wrap_in, wk_self, Int.tdiv_eq_ediv_of_nonneg, Int.tmod_eq_emod_of_nonneg]); (repeat (with_reducible refine And.intro ?_ ?_; · first | omega | decide | (simp; done) | (simp; omega) | (intro hh; refine ⟨hh, ?_⟩; omega) | (simp +contextual; done)))
    (first | (refine ret0 rfl (by repeat' (first | exact trivial | exact rfl | refine ⟨?_, ?_⟩)) (Wk.of ?_); (try simp (etaStruct := .none) only [push_cast, Int.cast_ofNat_Int, Nat.reduceAdd, Nat.reduceSub, Nat.reduceMul, reduceCtorEq, reduceIte, Nat.reduceEqDiff, Nat.reduceLT, Nat.reduceLeDiff, Nat.reduceBEq, Int.reduceToNat, Int.reduceLE, Int.reduceLT]); first | done | (simp [*]; done) | (simp_all []; done)) | (refine ret0 rfl (by repeat' (first | exact trivial | exact rfl | refine ⟨?_, ?_⟩)) ?_; (try simp (etaStruct := .none) only [push_cast, Int.cast_ofNat_Int, Nat.reduceAdd, Nat.reduceSub, Nat.reduceMul, reduceCtorEq, reduceIte, Nat.reduceEqDiff, Nat.reduceLT, Nat.reduceLeDiff, Nat.reduceBEq, Int.reduceToNat, Int.reduceLE, Int.reduceLT]); (try simp [*]); (try (first | exact Wk.refl _ | exact Wk.nil _ | (refine Wk.tup ?_; repeat' (first | exact trivial | exact Wk.refl _ | exact Wk.nil _ | refine ⟨?_, ?_⟩ | (refine Wk.agg ?_)))))))
/-- For every number below. -/
def allN (p : Nat → Bool) : Nat → Bool
  | 0 => true
  | k + 1 => allN p k && p k
theorem allN_iff (p : Nat → Bool) : ∀ n, allN p n = true ↔ ∀ i, i < n → p i = true
  | 0 => by simp [allN]
  | n + 1 => by
    rw [allN, Bool.and_eq_true, allN_iff p n]
    constructor
    · rintro ⟨a, b⟩ i hi
      rcases Nat.lt_or_ge i n with h | h
      · exact a i h
      · obtain rfl : i = n := by omega
        exact b
    · intro h
      exact ⟨fun i hi => h i (by omega), h n (by omega)⟩
/-- P8: bases, mines, troops. -/
def baseB (w : Wld) (i : Nat) : Bool := groundV w.f (w.bases.getD i default) && within (w.stocks.getD i default) 0 1000000 && allN (fun j => !decide (w.bases.getD j default = w.bases.getD i default)) i
def mineB (w : Wld) (i : Nat) : Bool := within (w.mines.getD i default) 0 1000000 && (decide (w.mines.getD i default = 0) || decide (w.f.p.getD i default = 3))
def trp1 (w : Wld) (t : Trp) : Bool := within t.id 1 (w.next - 1) && within t.owner 0 ((w.bases.length : Int) - 1) && groundV w.f t.c && within t.life 1 (kindV t.kind).life && within t.load 0 (5 * (2 - t.kind))
def trp2 (w : Wld) (i : Nat) : Bool := allN (fun j => decide ((w.troops.getD j default).id < (w.troops.getD i default).id) && !decide ((w.troops.getD j default).c = (w.troops.getD i default).c)) i
def troopB (w : Wld) (i : Nat) : Bool := within (w.troops.getD i default).kind 1 2 && (trp1 w (w.troops.getD i default) && trp2 w i)
def worldB (w : Wld) : Bool := allN (baseB w) w.bases.length && allN (mineB w) w.mines.length && allN (troopB w) w.troops.length
def worldF (w : Wld) : Bool := decide (w.stocks.length = w.bases.length) && decide (w.mines.length = w.f.p.length) && within w.next 1 1000000 && within w.now 0 1000000
def worldE (w : Wld) : Int := if fldE w.f ≠ 0 then fldE w.f else if 8 < w.bases.length ∨ 100 < w.troops.length then 2 else if worldF w && worldB w then 0 else 4
end Go.Proofs.Ytibknlfadoeglaa
