/- SeatSays: whatever seats, order and number are handed in, New, Check, Say and Leave answer what the document says. No condition. -/
import Derived.Test.YtdkmndimmpilaaaSeatM4
import Derived.Test.YtdkmndimmpilaaaChecked
import Derived.Test.YtdkmndimmpilaaaRows
namespace Go.Proofs.Ytdkmndimmpilaaa
set_option linter.all false
open Go.RowKit Go.ChangeShapes Go.WideShapes Go.ChangeAt
set_option maxRecDepth 100000
theorem opCel (w : World) : OpA Try.prog 25 2 w celP (fun c => In64 c.x ∧ In64 c.y) :=
 (OpA.struct Try.underlying25 (by kernel_rfl) (OpAF.cons rfl rfl (OpA.i64 Try.underlying3) (OpAF.cons rfl rfl (OpA.i64 Try.underlying3) OpAF.nil))).map (fun x => ⟨x.1, x.2.1⟩) (fun _ => rfl) (fun _ h => ⟨h.1, h.2.1⟩)
end Go.Proofs.Ytdkmndimmpilaaa
namespace Go.Proofs.Ytdkmndimmpilaaa
set_option linter.all false
open Go.RowKit Go.ChangeShapes Go.WideShapes Go.ChangeAt
namespace seatSays
set_option maxRecDepth 100000
set_option maxHeartbeats 1000000
def newV (n : Int) : List Sea := if 1 ≤ n ∧ n ≤ 8 then List.replicate n.toNat ⟨[], 0, false⟩ else []
def newE (n : Int) : Int := if 1 ≤ n ∧ n ≤ 8 then 0 else 1
theorem new_s (n : Int) : Spec Try.prog 10 [I .i64 n] [] (.tup [.c (.sl 3 ((newV n).map seaP)), I .i64 (newE n)]) [] := by
 unfold newV newE
 by_cases h : 1 ≤ n ∧ n ≤ 8
 ·rw [if_pos h, if_pos h]; exact snew_s n h
 ·rw [if_neg h, if_neg h]; exact snew_bad n h
def sayA (l : List Sea) (o : Ord) : List Sea := if sayE l o = 0 then sayV l o else []
theorem sayA_ok (l : List Sea) (o : Ord) (hl : l.length ≤ 9223372036854775807) (hs : ∀ s ∈ l, seaL s) : (sayA l o).length ≤ 9223372036854775807 ∧ ∀ s ∈ sayA l o, seaL s := by
 unfold sayA
 split
 ·rename_i h
  have hE : seasE l = 0 := by
   unfold sayE at h
   split at h
   ·rename_i h'; exact absurd h h'
   ·rename_i h'; simpa using h'
  have hk := seasE_ok hE
  refine ⟨by unfold sayV; rw [List.length_set]; exact hl, fun s hss => ?_⟩
  unfold sayV at hss
  rcases List.mem_or_eq_of_mem_set hss with h1 | rfl
  ·exact hs s h1
  ·have : (l.getD o.by_.toNat default).waits.length ≤ 50 := by
    by_cases hlt : o.by_.toNat < l.length
    ·exact hk.2.2.1 _ (by rw [getD_at _ _ hlt]; exact List.getElem_mem hlt)
    ·rw [List.getD_eq_getElem?_getD, List.getElem?_eq_none (by omega)]
     show ([] : List Ord).length ≤ 50
     simp
   show ((l.getD o.by_.toNat default).waits ++ [o]).length ≤ _
   rw [List.length_append, List.length_singleton]
   omega
 ·exact ⟨by simp, fun s h => by simp at h⟩
theorem seaL_nil : ∀ s ∈ ([] : List Sea), seaL s := fun s h => by simp at h
theorem seaL_new (n : Nat) : ∀ s ∈ List.replicate n (⟨[], 0, false⟩ : Sea), seaL s := fun s h => by
 obtain rfl := List.eq_of_mem_replicate h
 show ([] : List Ord).length ≤ _
 simp
theorem seaL_leave (l : List Sea) (p : Int) (hs : ∀ s ∈ l, seaL s) : ∀ s ∈ leaveV l p, seaL s := fun s h => by
 unfold leaveV at h
 rcases List.mem_or_eq_of_mem_set h with h1 | rfl
 ·exact hs s h1
 ·show ([] : List Ord).length ≤ _
  simp
theorem same_zero (n : Nat) (hn : n ≤ 8) : Spec Try.prog 13 [.c (.sl 3 ((List.replicate n (⟨[], 0, false⟩ : Sea)).map seaP)), .c (.sl 3 (List.replicate n [.v (.slice none 0 0), .v (.int .i64 0), .v (.bool false)]))] [] (B true) [] := by
 have h := sameSeats_s (List.replicate n (⟨[], 0, false⟩ : Sea)) (List.replicate n (⟨[], 0, false⟩ : Sea)) (by simp; omega) (by simp; omega) (seaL_new n) (seaL_new n)
 rw [decide_eq_true rfl] at h
 exact Spec.hand 0 h (Nat.zero_le _) rfl (by exact ⟨Wk.refl _, by rw [List.map_replicate]; exact Wk.rows (RowsLe.rep sea_zero _), trivial⟩) rfl
theorem same_nil : Spec Try.prog 13 [.c (.sl 3 (([] : List Sea).map seaP)), .c (.v (.slice none 0 0))] [] (B true) [] := by
 have h := sameSeats_s [] [] (by simp) (by simp) seaL_nil seaL_nil
 rw [decide_eq_true rfl] at h
 exact Spec.hand 0 h (Nat.zero_le _) rfl (by exact ⟨Wk.refl _, Wk.nil _, trivial⟩) rfl
theorem same_leave (l : List Sea) (p : Int) (hl : l.length ≤ 9223372036854775807) (hs : ∀ s ∈ l, seaL s) : Spec Try.prog 13 [.c (.sl 3 ((leaveV l p).map seaP)), .c (.sl 3 ((l.map seaP).set p.toNat [.v (.slice none 0 0), .v (.int .i64 0), .v (.bool true)]))] [] (B true) [] := by
 have h := sameSeats_s (leaveV l p) (leaveV l p) (by unfold leaveV; rw [List.length_set]; exact hl) (by unfold leaveV; rw [List.length_set]; exact hl) (seaL_leave l p hs) (seaL_leave l p hs)
 rw [decide_eq_true rfl] at h
 exact Spec.hand 0 h (Nat.zero_le _) rfl (by exact ⟨Wk.refl _, by rw [leaveV_map]; exact Wk.rows (RowsLe.set sea_gone _ _), trivial⟩) rfl
theorem same_say (l : List Sea) (o : Ord) (hl : l.length ≤ 9223372036854775807) (hs : ∀ s ∈ l, seaL s) : Spec Try.prog 13 [.c (.sl 3 ((sayA l o).map seaP)), .c (.sl 3 ((sayA l o).map seaP))] [] (B true) [] := by
 obtain ⟨a, b⟩ := sayA_ok l o hl hs
 have h := sameSeats_s (sayA l o) (sayA l o) a a b b
 rwa [decide_eq_true rfl] at h
theorem newE_t {n : Int} (h : 1 ≤ n ∧ n ≤ 8) : newE n = 0 := by unfold newE; rw [if_pos h]
theorem newV_t {n : Int} (h : 1 ≤ n ∧ n ≤ 8) : newV n = List.replicate n.toNat ⟨[], 0, false⟩ := by unfold newV; rw [if_pos h]
theorem newE_f {n : Int} (h : ¬ (1 ≤ n ∧ n ≤ 8)) : newE n = 1 := by unfold newE; rw [if_neg h]
theorem newV_f {n : Int} (h : ¬ (1 ≤ n ∧ n ≤ 8)) : newV n = [] := by unfold newV; rw [if_neg h]
theorem saysA (l : List Sea) (o : Ord) (p : Int) (hl : l.length ≤ 9223372036854775807) (hs : ∀ s ∈ l, seaL s) (h : seasE l ≠ 0) : Spec Try.prog 3 [.c (.sl 3 (l.map seaP)), ordA o, I .i64 p] [] (B true) [] := by
 have S1 : Spec Try.prog 8 [.c (.sl 3 (l.map seaP)), ordA o] [] (.tup [.c (.sl 3 ((sayA l o).map seaP)), I .i64 (sayE l o)]) [] := ssay_s l o hl hs
 have S2 : Spec Try.prog 9 [.c (.sl 3 (l.map seaP)), ordA o] [] (.tup [.c (.sl 3 ((sayA l o).map seaP)), I .i64 (sayE l o)]) [] := ssaid_s l o hl hs
 refine spec_am Try.func3 rfl rfl mix 107 rfl [.tmp 6] Try.results3 (Nat.le_of_ble_eq_true rfl) ?_
 (try (refine xst ?_; try exact xtI))
 refine caP (S1) ?_
 (try (refine xst ?_; try exact xtI))
 refine caP (S2) ?_
 (try (refine xst ?_; try exact xtI))
 refine caP (new_s p) ?_
 (try (refine xst ?_; try exact xtI))
 refine caP (sleave_b1 l p hl hs h) ?_
 (try (refine xst ?_; try exact xtI))
 refine caP (between_s p 1 8) ?_
 (try (refine xst ?_; try exact xtI))
 refine cond_i (fun h1 => ?_) (fun h1 => ?_)
 ·(try replace h1 := xhh h1)
  have hn : 1 ≤ p ∧ p ≤ 8 := within_iff.1 h1
  (iterate 2 ((try simp (etaStruct := .none) only [push_cast, DrawG, Int.cast_ofNat_Int, seval, newE_t hn, newV_t hn]); (try (refine xsu ?_; try exact xtI))))
  refine ⟨⟨⟨by omega, by omega, by omega⟩, ?_⟩, fun hh => absurd hh (by simp)⟩
  refine gcallT rfl ?_ ?_
  ·first | trivial | ((try simp (etaStruct := .none) only [push_cast, DrawG, Int.cast_ofNat_Int, seval]); (try simp_all))
  refine callM [1] (Spec.hand 0 (same_zero p.toNat (by omega)) (Nat.zero_le _) rfl (by exact WkL.refl _) rfl) (WkL.refl _) rfl (by decide) (by simp [lookC_c]) ?_
  (iterate 2 ((try simp (etaStruct := .none) only [push_cast, DrawG, Int.cast_ofNat_Int, seval, newE_t hn, newV_t hn]); (try (refine xsu ?_; try exact xtI))))
  refine cond_i (fun h2 => ?_) (fun h2 => ?_)
  ·(try replace h2 := xhh h2)
   simp at h2
  ·(try replace h2 := xhh h2)
   (iterate 2 ((try simp (etaStruct := .none) only [push_cast, DrawG, Int.cast_ofNat_Int, seval, newE_t hn, newV_t hn]); (try (refine xsu ?_; try exact xtI))))
   refine caP (seasR_s l hl hs) ?_
   (iterate 2 ((try simp (etaStruct := .none) only [push_cast, DrawG, Int.cast_ofNat_Int, seval, newE_t hn, newV_t hn]); (try (refine xsu ?_; try exact xtI))))
   refine cond_i (fun h3 => ?_) (fun h3 => ?_)
   ·(try replace h3 := xhh h3)
    (iterate 2 ((try simp (etaStruct := .none) only [push_cast, DrawG, Int.cast_ofNat_Int, seval, newE_t hn, newV_t hn]); (try (refine xsu ?_; try exact xtI))))
    refine caP (scheck_s l hl hs) ?_
    (iterate 2 ((try simp (etaStruct := .none) only [push_cast, DrawG, Int.cast_ofNat_Int, seval, newE_t hn, newV_t hn]); (try (refine xsu ?_; try exact xtI))))
    refine caP (seasR_s l hl hs) ?_
    (iterate 2 ((try simp (etaStruct := .none) only [push_cast, DrawG, Int.cast_ofNat_Int, seval, newE_t hn, newV_t hn]); (try (refine xsu ?_; try exact xtI))))
    refine gcP (fun hcc => same_say l o hl hs) ?_
    (iterate 2 ((try simp (etaStruct := .none) only [push_cast, DrawG, Int.cast_ofNat_Int, seval, newE_t hn, newV_t hn]); (try (refine xsu ?_; try exact xtI))))
    refine gcP (fun hcc => same_nil) ?_
    (iterate 2 ((try simp (etaStruct := .none) only [push_cast, DrawG, Int.cast_ofNat_Int, seval, newE_t hn, newV_t hn]); (try (refine xsu ?_; try exact xtI))))
    exact xrz rfl
   ·(try replace h3 := xhh h3)
    exact absurd h3 h
 ·(try replace h1 := xhh h1)
  have hn : ¬ (1 ≤ p ∧ p ≤ 8) := within_f.1 h1
  (iterate 2 ((try simp (etaStruct := .none) only [push_cast, DrawG, Int.cast_ofNat_Int, seval, newE_f hn, newV_f hn]); (try (refine xsu ?_; try exact xtI))))
  refine cond_i (fun h4 => ?_) (fun h4 => ?_)
  ·(try replace h4 := xhh h4)
   simp at h4
  ·(try replace h4 := xhh h4)
   (iterate 2 ((try simp (etaStruct := .none) only [push_cast, DrawG, Int.cast_ofNat_Int, seval, newE_f hn, newV_f hn]); (try (refine xsu ?_; try exact xtI))))
   refine caP (seasR_s l hl hs) ?_
   (iterate 2 ((try simp (etaStruct := .none) only [push_cast, DrawG, Int.cast_ofNat_Int, seval, newE_f hn, newV_f hn]); (try (refine xsu ?_; try exact xtI))))
   refine cond_i (fun h5 => ?_) (fun h5 => ?_)
   ·(try replace h5 := xhh h5)
    (iterate 2 ((try simp (etaStruct := .none) only [push_cast, DrawG, Int.cast_ofNat_Int, seval, newE_f hn, newV_f hn]); (try (refine xsu ?_; try exact xtI))))
    refine caP (scheck_s l hl hs) ?_
    (iterate 2 ((try simp (etaStruct := .none) only [push_cast, DrawG, Int.cast_ofNat_Int, seval, newE_f hn, newV_f hn]); (try (refine xsu ?_; try exact xtI))))
    refine caP (seasR_s l hl hs) ?_
    (iterate 2 ((try simp (etaStruct := .none) only [push_cast, DrawG, Int.cast_ofNat_Int, seval, newE_f hn, newV_f hn]); (try (refine xsu ?_; try exact xtI))))
    refine gcP (fun hcc => same_say l o hl hs) ?_
    (iterate 2 ((try simp (etaStruct := .none) only [push_cast, DrawG, Int.cast_ofNat_Int, seval, newE_f hn, newV_f hn]); (try (refine xsu ?_; try exact xtI))))
    refine gcP (fun hcc => same_nil) ?_
    (iterate 2 ((try simp (etaStruct := .none) only [push_cast, DrawG, Int.cast_ofNat_Int, seval, newE_f hn, newV_f hn]); (try (refine xsu ?_; try exact xtI))))
    exact xrz rfl
   ·(try replace h5 := xhh h5)
    exact absurd h5 h
theorem saysB (l : List Sea) (o : Ord) (p : Int) (hl : l.length ≤ 9223372036854775807) (hs : ∀ s ∈ l, seaL s) (hE : seasE l = 0) (hp : p < 0 ∨ (l.length : Int) ≤ p) : Spec Try.prog 3 [.c (.sl 3 (l.map seaP)), ordA o, I .i64 p] [] (B true) [] := by
 have S1 : Spec Try.prog 8 [.c (.sl 3 (l.map seaP)), ordA o] [] (.tup [.c (.sl 3 ((sayA l o).map seaP)), I .i64 (sayE l o)]) [] := ssay_s l o hl hs
 have S2 : Spec Try.prog 9 [.c (.sl 3 (l.map seaP)), ordA o] [] (.tup [.c (.sl 3 ((sayA l o).map seaP)), I .i64 (sayE l o)]) [] := ssaid_s l o hl hs
 have SR := seasR_s l hl hs
 have SC := scheck_s l hl hs
 rw [hE] at SR SC
 refine spec_am Try.func3 rfl rfl mix 107 rfl [.tmp 6] Try.results3 (Nat.le_of_ble_eq_true rfl) ?_
 (try (refine xst ?_; try exact xtI))
 refine caP (S1) ?_
 (try (refine xst ?_; try exact xtI))
 refine caP (S2) ?_
 (try (refine xst ?_; try exact xtI))
 refine caP (new_s p) ?_
 (try (refine xst ?_; try exact xtI))
 refine caP (sleave_b2 l p hl hs hE hp) ?_
 (try (refine xst ?_; try exact xtI))
 refine caP (between_s p 1 8) ?_
 (try (refine xst ?_; try exact xtI))
 refine cond_i (fun h1 => ?_) (fun h1 => ?_)
 ·(try replace h1 := xhh h1)
  have hn : 1 ≤ p ∧ p ≤ 8 := within_iff.1 h1
  (iterate 2 ((try simp (etaStruct := .none) only [push_cast, DrawG, Int.cast_ofNat_Int, seval, newE_t hn, newV_t hn]); (try (refine xsu ?_; try exact xtI))))
  refine ⟨⟨⟨by omega, by omega, by omega⟩, ?_⟩, fun hh => absurd hh (by simp)⟩
  refine gcallT rfl ?_ ?_
  ·first | trivial | ((try simp (etaStruct := .none) only [push_cast, DrawG, Int.cast_ofNat_Int, seval]); (try simp_all))
  refine callM [1] (Spec.hand 0 (same_zero p.toNat (by omega)) (Nat.zero_le _) rfl (by exact WkL.refl _) rfl) (WkL.refl _) rfl (by decide) (by simp [lookC_c]) ?_
  (iterate 2 ((try simp (etaStruct := .none) only [push_cast, DrawG, Int.cast_ofNat_Int, seval, newE_t hn, newV_t hn]); (try (refine xsu ?_; try exact xtI))))
  refine cond_i (fun h2 => ?_) (fun h2 => ?_)
  ·(try replace h2 := xhh h2)
   simp at h2
  ·(try replace h2 := xhh h2)
   (iterate 2 ((try simp (etaStruct := .none) only [push_cast, DrawG, Int.cast_ofNat_Int, seval, newE_t hn, newV_t hn]); (try (refine xsu ?_; try exact xtI))))
   refine caP (SR) ?_
   (iterate 2 ((try simp (etaStruct := .none) only [push_cast, DrawG, Int.cast_ofNat_Int, seval, newE_t hn, newV_t hn]); (try (refine xsu ?_; try exact xtI))))
   refine cond_i (fun h3 => ?_) (fun h3 => ?_)
   ·(try replace h3 := xhh h3)
    simp at h3
   ·(try replace h3 := xhh h3)
    (iterate 2 ((try simp (etaStruct := .none) only [push_cast, DrawG, Int.cast_ofNat_Int, seval, newE_t hn, newV_t hn]); (try (refine xsu ?_; try exact xtI))))
    refine caP (between_s p 0 (l.length - 1)) ?_
    (iterate 2 ((try simp (etaStruct := .none) only [push_cast, DrawG, Int.cast_ofNat_Int, seval, newE_t hn, newV_t hn]); (try (refine xsu ?_; try exact xtI))))
    refine cond_i (fun h4 => ?_) (fun h4 => ?_)
    ·(try replace h4 := xhh h4)
     (iterate 2 ((try simp (etaStruct := .none) only [push_cast, DrawG, Int.cast_ofNat_Int, seval, newE_t hn, newV_t hn]); (try (refine xsu ?_; try exact xtI))))
     refine caP (SC) ?_
     (iterate 2 ((try simp (etaStruct := .none) only [push_cast, DrawG, Int.cast_ofNat_Int, seval, newE_t hn, newV_t hn]); (try (refine xsu ?_; try exact xtI))))
     refine caP (SR) ?_
     (iterate 2 ((try simp (etaStruct := .none) only [push_cast, DrawG, Int.cast_ofNat_Int, seval, newE_t hn, newV_t hn]); (try (refine xsu ?_; try exact xtI))))
     refine gcP (fun hcc => same_say l o hl hs) ?_
     (iterate 2 ((try simp (etaStruct := .none) only [push_cast, DrawG, Int.cast_ofNat_Int, seval, newE_t hn, newV_t hn]); (try (refine xsu ?_; try exact xtI))))
     refine gcP (fun hcc => same_nil) ?_
     (iterate 2 ((try simp (etaStruct := .none) only [push_cast, DrawG, Int.cast_ofNat_Int, seval, newE_t hn, newV_t hn]); (try (refine xsu ?_; try exact xtI))))
     exact xrz rfl
    ·(try replace h4 := xhh h4)
     rw [within_f.2 (by omega)] at h4; simp at h4
 ·(try replace h1 := xhh h1)
  have hn : ¬ (1 ≤ p ∧ p ≤ 8) := within_f.1 h1
  (iterate 2 ((try simp (etaStruct := .none) only [push_cast, DrawG, Int.cast_ofNat_Int, seval, newE_f hn, newV_f hn]); (try (refine xsu ?_; try exact xtI))))
  refine cond_i (fun h5 => ?_) (fun h5 => ?_)
  ·(try replace h5 := xhh h5)
   simp at h5
  ·(try replace h5 := xhh h5)
   (iterate 2 ((try simp (etaStruct := .none) only [push_cast, DrawG, Int.cast_ofNat_Int, seval, newE_f hn, newV_f hn]); (try (refine xsu ?_; try exact xtI))))
   refine caP (SR) ?_
   (iterate 2 ((try simp (etaStruct := .none) only [push_cast, DrawG, Int.cast_ofNat_Int, seval, newE_f hn, newV_f hn]); (try (refine xsu ?_; try exact xtI))))
   refine cond_i (fun h6 => ?_) (fun h6 => ?_)
   ·(try replace h6 := xhh h6)
    simp at h6
   ·(try replace h6 := xhh h6)
    (iterate 2 ((try simp (etaStruct := .none) only [push_cast, DrawG, Int.cast_ofNat_Int, seval, newE_f hn, newV_f hn]); (try (refine xsu ?_; try exact xtI))))
    refine caP (between_s p 0 (l.length - 1)) ?_
    (iterate 2 ((try simp (etaStruct := .none) only [push_cast, DrawG, Int.cast_ofNat_Int, seval, newE_f hn, newV_f hn]); (try (refine xsu ?_; try exact xtI))))
    refine cond_i (fun h7 => ?_) (fun h7 => ?_)
    ·(try replace h7 := xhh h7)
     (iterate 2 ((try simp (etaStruct := .none) only [push_cast, DrawG, Int.cast_ofNat_Int, seval, newE_f hn, newV_f hn]); (try (refine xsu ?_; try exact xtI))))
     refine caP (SC) ?_
     (iterate 2 ((try simp (etaStruct := .none) only [push_cast, DrawG, Int.cast_ofNat_Int, seval, newE_f hn, newV_f hn]); (try (refine xsu ?_; try exact xtI))))
     refine caP (SR) ?_
     (iterate 2 ((try simp (etaStruct := .none) only [push_cast, DrawG, Int.cast_ofNat_Int, seval, newE_f hn, newV_f hn]); (try (refine xsu ?_; try exact xtI))))
     refine gcP (fun hcc => same_say l o hl hs) ?_
     (iterate 2 ((try simp (etaStruct := .none) only [push_cast, DrawG, Int.cast_ofNat_Int, seval, newE_f hn, newV_f hn]); (try (refine xsu ?_; try exact xtI))))
     refine gcP (fun hcc => same_nil) ?_
     (iterate 2 ((try simp (etaStruct := .none) only [push_cast, DrawG, Int.cast_ofNat_Int, seval, newE_f hn, newV_f hn]); (try (refine xsu ?_; try exact xtI))))
     exact xrz rfl
    ·(try replace h7 := xhh h7)
     rw [within_f.2 (by omega)] at h7; simp at h7
theorem saysC (l : List Sea) (o : Ord) (p : Int) (hl : l.length ≤ 9223372036854775807) (hs : ∀ s ∈ l, seaL s) (hE : seasE l = 0) (hp : ¬ (p < 0 ∨ (l.length : Int) ≤ p)) (hg : (l.getD p.toNat default).gone = true) : Spec Try.prog 3 [.c (.sl 3 (l.map seaP)), ordA o, I .i64 p] [] (B true) [] := by
 have S1 : Spec Try.prog 8 [.c (.sl 3 (l.map seaP)), ordA o] [] (.tup [.c (.sl 3 ((sayA l o).map seaP)), I .i64 (sayE l o)]) [] := ssay_s l o hl hs
 have S2 : Spec Try.prog 9 [.c (.sl 3 (l.map seaP)), ordA o] [] (.tup [.c (.sl 3 ((sayA l o).map seaP)), I .i64 (sayE l o)]) [] := ssaid_s l o hl hs
 have SR := seasR_s l hl hs
 have SC := scheck_s l hl hs
 rw [hE] at SR SC
 have hlt : p.toNat < l.length := by omega
 refine spec_am Try.func3 rfl rfl mix 107 rfl [.tmp 6] Try.results3 (Nat.le_of_ble_eq_true rfl) ?_
 (try (refine xst ?_; try exact xtI))
 refine caP (S1) ?_
 (try (refine xst ?_; try exact xtI))
 refine caP (S2) ?_
 (try (refine xst ?_; try exact xtI))
 refine caP (new_s p) ?_
 (try (refine xst ?_; try exact xtI))
 refine caP (sleave_b3 l p hl hs hE hp hg) ?_
 (try (refine xst ?_; try exact xtI))
 refine caP (between_s p 1 8) ?_
 (try (refine xst ?_; try exact xtI))
 refine cond_i (fun h1 => ?_) (fun h1 => ?_)
 ·(try replace h1 := xhh h1)
  have hn : 1 ≤ p ∧ p ≤ 8 := within_iff.1 h1
  (iterate 2 ((try simp (etaStruct := .none) only [push_cast, DrawG, Int.cast_ofNat_Int, seval, newE_t hn, newV_t hn]); (try (refine xsu ?_; try exact xtI))))
  refine ⟨⟨⟨by omega, by omega, by omega⟩, ?_⟩, fun hh => absurd hh (by simp)⟩
  refine gcallT rfl ?_ ?_
  ·first | trivial | ((try simp (etaStruct := .none) only [push_cast, DrawG, Int.cast_ofNat_Int, seval]); (try simp_all))
  refine callM [1] (Spec.hand 0 (same_zero p.toNat (by omega)) (Nat.zero_le _) rfl (by exact WkL.refl _) rfl) (WkL.refl _) rfl (by decide) (by simp [lookC_c]) ?_
  (iterate 2 ((try simp (etaStruct := .none) only [push_cast, DrawG, Int.cast_ofNat_Int, seval, newE_t hn, newV_t hn]); (try (refine xsu ?_; try exact xtI))))
  refine cond_i (fun h2 => ?_) (fun h2 => ?_)
  ·(try replace h2 := xhh h2)
   simp at h2
  ·(try replace h2 := xhh h2)
   (iterate 2 ((try simp (etaStruct := .none) only [push_cast, DrawG, Int.cast_ofNat_Int, seval, newE_t hn, newV_t hn]); (try (refine xsu ?_; try exact xtI))))
   refine caP (SR) ?_
   (iterate 2 ((try simp (etaStruct := .none) only [push_cast, DrawG, Int.cast_ofNat_Int, seval, newE_t hn, newV_t hn]); (try (refine xsu ?_; try exact xtI))))
   refine cond_i (fun h3 => ?_) (fun h3 => ?_)
   ·(try replace h3 := xhh h3)
    simp at h3
   ·(try replace h3 := xhh h3)
    (iterate 2 ((try simp (etaStruct := .none) only [push_cast, DrawG, Int.cast_ofNat_Int, seval, newE_t hn, newV_t hn]); (try (refine xsu ?_; try exact xtI))))
    refine caP (between_s p 0 (l.length - 1)) ?_
    (iterate 2 ((try simp (etaStruct := .none) only [push_cast, DrawG, Int.cast_ofNat_Int, seval, newE_t hn, newV_t hn]); (try (refine xsu ?_; try exact xtI))))
    refine cond_i (fun h4 => ?_) (fun h4 => ?_)
    ·(try replace h4 := xhh h4)
     rw [within_iff.2 (by omega)] at h4; simp at h4
    ·(try replace h4 := xhh h4)
     (iterate 2 ((try simp (etaStruct := .none) only [push_cast, DrawG, Int.cast_ofNat_Int, seval, newE_t hn, newV_t hn, getD_in _ _ _ hlt, seaP]); (try (refine xsu ?_; try exact xtI))))
     refine cond_i (fun h5 => ?_) (fun h5 => ?_)
     ·(try replace h5 := xhh h5)
      (iterate 2 ((try simp (etaStruct := .none) only [push_cast, DrawG, Int.cast_ofNat_Int, seval, newE_t hn, newV_t hn, getD_in _ _ _ hlt, seaP]); (try (refine xsu ?_; try exact xtI))))
      refine caP (SC) ?_
      (iterate 2 ((try simp (etaStruct := .none) only [push_cast, DrawG, Int.cast_ofNat_Int, seval, newE_t hn, newV_t hn, getD_in _ _ _ hlt, seaP]); (try (refine xsu ?_; try exact xtI))))
      refine caP (SR) ?_
      (iterate 2 ((try simp (etaStruct := .none) only [push_cast, DrawG, Int.cast_ofNat_Int, seval, newE_t hn, newV_t hn, getD_in _ _ _ hlt, seaP]); (try (refine xsu ?_; try exact xtI))))
      refine gcP (fun hcc => same_say l o hl hs) ?_
      (iterate 2 ((try simp (etaStruct := .none) only [push_cast, DrawG, Int.cast_ofNat_Int, seval, newE_t hn, newV_t hn, getD_in _ _ _ hlt, seaP]); (try (refine xsu ?_; try exact xtI))))
      refine gcP (fun hcc => same_nil) ?_
      (iterate 2 ((try simp (etaStruct := .none) only [push_cast, DrawG, Int.cast_ofNat_Int, seval, newE_t hn, newV_t hn, getD_in _ _ _ hlt, seaP]); (try (refine xsu ?_; try exact xtI))))
      exact xrz rfl
     ·(try replace h5 := xhh h5)
      rw [hg] at h5; simp at h5
 ·(try replace h1 := xhh h1)
  have hn : ¬ (1 ≤ p ∧ p ≤ 8) := within_f.1 h1
  (iterate 2 ((try simp (etaStruct := .none) only [push_cast, DrawG, Int.cast_ofNat_Int, seval, newE_f hn, newV_f hn]); (try (refine xsu ?_; try exact xtI))))
  refine cond_i (fun h6 => ?_) (fun h6 => ?_)
  ·(try replace h6 := xhh h6)
   simp at h6
  ·(try replace h6 := xhh h6)
   (iterate 2 ((try simp (etaStruct := .none) only [push_cast, DrawG, Int.cast_ofNat_Int, seval, newE_f hn, newV_f hn]); (try (refine xsu ?_; try exact xtI))))
   refine caP (SR) ?_
   (iterate 2 ((try simp (etaStruct := .none) only [push_cast, DrawG, Int.cast_ofNat_Int, seval, newE_f hn, newV_f hn]); (try (refine xsu ?_; try exact xtI))))
   refine cond_i (fun h7 => ?_) (fun h7 => ?_)
   ·(try replace h7 := xhh h7)
    simp at h7
   ·(try replace h7 := xhh h7)
    (iterate 2 ((try simp (etaStruct := .none) only [push_cast, DrawG, Int.cast_ofNat_Int, seval, newE_f hn, newV_f hn]); (try (refine xsu ?_; try exact xtI))))
    refine caP (between_s p 0 (l.length - 1)) ?_
    (iterate 2 ((try simp (etaStruct := .none) only [push_cast, DrawG, Int.cast_ofNat_Int, seval, newE_f hn, newV_f hn]); (try (refine xsu ?_; try exact xtI))))
    refine cond_i (fun h8 => ?_) (fun h8 => ?_)
    ·(try replace h8 := xhh h8)
     rw [within_iff.2 (by omega)] at h8; simp at h8
    ·(try replace h8 := xhh h8)
     (iterate 2 ((try simp (etaStruct := .none) only [push_cast, DrawG, Int.cast_ofNat_Int, seval, newE_f hn, newV_f hn, getD_in _ _ _ hlt, seaP]); (try (refine xsu ?_; try exact xtI))))
     refine cond_i (fun h9 => ?_) (fun h9 => ?_)
     ·(try replace h9 := xhh h9)
      (iterate 2 ((try simp (etaStruct := .none) only [push_cast, DrawG, Int.cast_ofNat_Int, seval, newE_f hn, newV_f hn, getD_in _ _ _ hlt, seaP]); (try (refine xsu ?_; try exact xtI))))
      refine caP (SC) ?_
      (iterate 2 ((try simp (etaStruct := .none) only [push_cast, DrawG, Int.cast_ofNat_Int, seval, newE_f hn, newV_f hn, getD_in _ _ _ hlt, seaP]); (try (refine xsu ?_; try exact xtI))))
      refine caP (SR) ?_
      (iterate 2 ((try simp (etaStruct := .none) only [push_cast, DrawG, Int.cast_ofNat_Int, seval, newE_f hn, newV_f hn, getD_in _ _ _ hlt, seaP]); (try (refine xsu ?_; try exact xtI))))
      refine gcP (fun hcc => same_say l o hl hs) ?_
      (iterate 2 ((try simp (etaStruct := .none) only [push_cast, DrawG, Int.cast_ofNat_Int, seval, newE_f hn, newV_f hn, getD_in _ _ _ hlt, seaP]); (try (refine xsu ?_; try exact xtI))))
      refine gcP (fun hcc => same_nil) ?_
      (iterate 2 ((try simp (etaStruct := .none) only [push_cast, DrawG, Int.cast_ofNat_Int, seval, newE_f hn, newV_f hn, getD_in _ _ _ hlt, seaP]); (try (refine xsu ?_; try exact xtI))))
      exact xrz rfl
     ·(try replace h9 := xhh h9)
      rw [hg] at h9; simp at h9
theorem saysD (l : List Sea) (o : Ord) (p : Int) (hl : l.length ≤ 9223372036854775807) (hs : ∀ s ∈ l, seaL s) (hE : seasE l = 0) (hp : ¬ (p < 0 ∨ (l.length : Int) ≤ p)) (hg : (l.getD p.toNat default).gone = false) : Spec Try.prog 3 [.c (.sl 3 (l.map seaP)), ordA o, I .i64 p] [] (B true) [] := by
 have S1 : Spec Try.prog 8 [.c (.sl 3 (l.map seaP)), ordA o] [] (.tup [.c (.sl 3 ((sayA l o).map seaP)), I .i64 (sayE l o)]) [] := ssay_s l o hl hs
 have S2 : Spec Try.prog 9 [.c (.sl 3 (l.map seaP)), ordA o] [] (.tup [.c (.sl 3 ((sayA l o).map seaP)), I .i64 (sayE l o)]) [] := ssaid_s l o hl hs
 have SR := seasR_s l hl hs
 have SC := scheck_s l hl hs
 rw [hE] at SR SC
 have hlt : p.toNat < l.length := by omega
 have hl8 := (seasE_ok hE).2.1
 refine spec_am Try.func3 rfl rfl mix 107 rfl [.tmp 6] Try.results3 (Nat.le_of_ble_eq_true rfl) ?_
 (try (refine xst ?_; try exact xtI))
 refine caP (S1) ?_
 (try (refine xst ?_; try exact xtI))
 refine caP (S2) ?_
 (try (refine xst ?_; try exact xtI))
 refine caP (new_s p) ?_
 (try (refine xst ?_; try exact xtI))
 refine caP (sleave_ok l p hl hs hE hp hg) ?_
 (try (refine xst ?_; try exact xtI))
 refine caP (between_s p 1 8) ?_
 (try (refine xst ?_; try exact xtI))
 refine cond_i (fun h1 => ?_) (fun h1 => ?_)
 ·(try replace h1 := xhh h1)
  have hn : 1 ≤ p ∧ p ≤ 8 := within_iff.1 h1
  (iterate 2 ((try simp (etaStruct := .none) only [push_cast, DrawG, Int.cast_ofNat_Int, seval, newE_t hn, newV_t hn]); (try (refine xsu ?_; try exact xtI))))
  refine ⟨⟨⟨by omega, by omega, by omega⟩, ?_⟩, fun hh => absurd hh (by simp)⟩
  refine gcallT rfl ?_ ?_
  ·first | trivial | ((try simp (etaStruct := .none) only [push_cast, DrawG, Int.cast_ofNat_Int, seval]); (try simp_all))
  refine callM [1] (Spec.hand 0 (same_zero p.toNat (by omega)) (Nat.zero_le _) rfl (by exact WkL.refl _) rfl) (WkL.refl _) rfl (by decide) (by simp [lookC_c]) ?_
  (iterate 2 ((try simp (etaStruct := .none) only [push_cast, DrawG, Int.cast_ofNat_Int, seval, newE_t hn, newV_t hn]); (try (refine xsu ?_; try exact xtI))))
  refine cond_i (fun h2 => ?_) (fun h2 => ?_)
  ·(try replace h2 := xhh h2)
   simp at h2
  ·(try replace h2 := xhh h2)
   (iterate 2 ((try simp (etaStruct := .none) only [push_cast, DrawG, Int.cast_ofNat_Int, seval, newE_t hn, newV_t hn]); (try (refine xsu ?_; try exact xtI))))
   refine caP (SR) ?_
   (iterate 2 ((try simp (etaStruct := .none) only [push_cast, DrawG, Int.cast_ofNat_Int, seval, newE_t hn, newV_t hn]); (try (refine xsu ?_; try exact xtI))))
   refine cond_i (fun h3 => ?_) (fun h3 => ?_)
   ·(try replace h3 := xhh h3)
    simp at h3
   ·(try replace h3 := xhh h3)
    (iterate 2 ((try simp (etaStruct := .none) only [push_cast, DrawG, Int.cast_ofNat_Int, seval, newE_t hn, newV_t hn]); (try (refine xsu ?_; try exact xtI))))
    refine caP (between_s p 0 (l.length - 1)) ?_
    (iterate 2 ((try simp (etaStruct := .none) only [push_cast, DrawG, Int.cast_ofNat_Int, seval, newE_t hn, newV_t hn]); (try (refine xsu ?_; try exact xtI))))
    refine cond_i (fun h4 => ?_) (fun h4 => ?_)
    ·(try replace h4 := xhh h4)
     rw [within_iff.2 (by omega)] at h4; simp at h4
    ·(try replace h4 := xhh h4)
     (iterate 2 ((try simp (etaStruct := .none) only [push_cast, DrawG, Int.cast_ofNat_Int, seval, newE_t hn, newV_t hn, getD_in _ _ _ hlt, seaP]); (try (refine xsu ?_; try exact xtI))))
     refine cond_i (fun h5 => ?_) (fun h5 => ?_)
     ·(try replace h5 := xhh h5)
      rw [hg] at h5; simp at h5
     ·(try replace h5 := xhh h5)
      (iterate 2 ((try simp (etaStruct := .none) only [push_cast, DrawG, Int.cast_ofNat_Int, seval, newE_t hn, newV_t hn, getD_in _ _ _ hlt, seaP]); (try (refine xsu ?_; try exact xtI))))
      refine caM [] (sea_clone l (by omega)) ?_
      (iterate 2 ((try simp (etaStruct := .none) only [push_cast, DrawG, Int.cast_ofNat_Int, seval, newE_t hn, newV_t hn, getD_in _ _ _ hlt, seaP]); (try (refine xsu ?_; try exact xtI))))
      refine caP (SC) ?_
      (iterate 2 ((try simp (etaStruct := .none) only [push_cast, DrawG, Int.cast_ofNat_Int, seval, newE_t hn, newV_t hn, getD_in _ _ _ hlt, seaP]); (try (refine xsu ?_; try exact xtI))))
      refine caP (SR) ?_
      (iterate 2 ((try simp (etaStruct := .none) only [push_cast, DrawG, Int.cast_ofNat_Int, seval, newE_t hn, newV_t hn, getD_in _ _ _ hlt, seaP]); (try (refine xsu ?_; try exact xtI))))
      refine gcP (fun hcc => same_say l o hl hs) ?_
      (iterate 2 ((try simp (etaStruct := .none) only [push_cast, DrawG, Int.cast_ofNat_Int, seval, newE_t hn, newV_t hn, getD_in _ _ _ hlt, seaP]); (try (refine xsu ?_; try exact xtI))))
      refine gcallB (fun hcc => same_leave l p hl hs) (WkL.refl _) rfl (by intro hc; (try simp (etaStruct := .none) only [push_cast, DrawG, Int.cast_ofNat_Int, seval]); (try simp_all)) ?_
      (iterate 2 ((try simp (etaStruct := .none) only [push_cast, DrawG, Int.cast_ofNat_Int, seval, newE_t hn, newV_t hn, getD_in _ _ _ hlt, seaP]); (try (refine xsu ?_; try exact xtI))))
      exact xrz rfl
 ·(try replace h1 := xhh h1)
  have hn : ¬ (1 ≤ p ∧ p ≤ 8) := within_f.1 h1
  (iterate 2 ((try simp (etaStruct := .none) only [push_cast, DrawG, Int.cast_ofNat_Int, seval, newE_f hn, newV_f hn]); (try (refine xsu ?_; try exact xtI))))
  refine cond_i (fun h6 => ?_) (fun h6 => ?_)
  ·(try replace h6 := xhh h6)
   simp at h6
  ·(try replace h6 := xhh h6)
   (iterate 2 ((try simp (etaStruct := .none) only [push_cast, DrawG, Int.cast_ofNat_Int, seval, newE_f hn, newV_f hn]); (try (refine xsu ?_; try exact xtI))))
   refine caP (SR) ?_
   (iterate 2 ((try simp (etaStruct := .none) only [push_cast, DrawG, Int.cast_ofNat_Int, seval, newE_f hn, newV_f hn]); (try (refine xsu ?_; try exact xtI))))
   refine cond_i (fun h7 => ?_) (fun h7 => ?_)
   ·(try replace h7 := xhh h7)
    simp at h7
   ·(try replace h7 := xhh h7)
    (iterate 2 ((try simp (etaStruct := .none) only [push_cast, DrawG, Int.cast_ofNat_Int, seval, newE_f hn, newV_f hn]); (try (refine xsu ?_; try exact xtI))))
    refine caP (between_s p 0 (l.length - 1)) ?_
    (iterate 2 ((try simp (etaStruct := .none) only [push_cast, DrawG, Int.cast_ofNat_Int, seval, newE_f hn, newV_f hn]); (try (refine xsu ?_; try exact xtI))))
    refine cond_i (fun h8 => ?_) (fun h8 => ?_)
    ·(try replace h8 := xhh h8)
     rw [within_iff.2 (by omega)] at h8; simp at h8
    ·(try replace h8 := xhh h8)
     (iterate 2 ((try simp (etaStruct := .none) only [push_cast, DrawG, Int.cast_ofNat_Int, seval, newE_f hn, newV_f hn, getD_in _ _ _ hlt, seaP]); (try (refine xsu ?_; try exact xtI))))
     refine cond_i (fun h9 => ?_) (fun h9 => ?_)
     ·(try replace h9 := xhh h9)
      rw [hg] at h9; simp at h9
     ·(try replace h9 := xhh h9)
      (iterate 2 ((try simp (etaStruct := .none) only [push_cast, DrawG, Int.cast_ofNat_Int, seval, newE_f hn, newV_f hn, getD_in _ _ _ hlt, seaP]); (try (refine xsu ?_; try exact xtI))))
      refine caM [] (sea_clone l (by omega)) ?_
      (iterate 2 ((try simp (etaStruct := .none) only [push_cast, DrawG, Int.cast_ofNat_Int, seval, newE_f hn, newV_f hn, getD_in _ _ _ hlt, seaP]); (try (refine xsu ?_; try exact xtI))))
      refine caP (SC) ?_
      (iterate 2 ((try simp (etaStruct := .none) only [push_cast, DrawG, Int.cast_ofNat_Int, seval, newE_f hn, newV_f hn, getD_in _ _ _ hlt, seaP]); (try (refine xsu ?_; try exact xtI))))
      refine caP (SR) ?_
      (iterate 2 ((try simp (etaStruct := .none) only [push_cast, DrawG, Int.cast_ofNat_Int, seval, newE_f hn, newV_f hn, getD_in _ _ _ hlt, seaP]); (try (refine xsu ?_; try exact xtI))))
      refine gcP (fun hcc => same_say l o hl hs) ?_
      (iterate 2 ((try simp (etaStruct := .none) only [push_cast, DrawG, Int.cast_ofNat_Int, seval, newE_f hn, newV_f hn, getD_in _ _ _ hlt, seaP]); (try (refine xsu ?_; try exact xtI))))
      refine gcallB (fun hcc => same_leave l p hl hs) (WkL.refl _) rfl (by intro hc; (try simp (etaStruct := .none) only [push_cast, DrawG, Int.cast_ofNat_Int, seval]); (try simp_all)) ?_
      (iterate 2 ((try simp (etaStruct := .none) only [push_cast, DrawG, Int.cast_ofNat_Int, seval, newE_f hn, newV_f hn, getD_in _ _ _ hlt, seaP]); (try (refine xsu ?_; try exact xtI))))
      exact xrz rfl
theorem says (l : List Sea) (o : Ord) (p : Int) (hl : l.length ≤ 9223372036854775807) (hs : ∀ s ∈ l, seaL s) : Spec Try.prog 3 [.c (.sl 3 (l.map seaP)), ordA o, I .i64 p] [] (B true) [] := by
 rcases leaveE_cases l p with ⟨-, h1, h2, h3⟩ | ⟨h1, -⟩ | ⟨h1, h2, -⟩ | ⟨h1, h2, h3, -⟩
 ·exact saysD l o p hl hs h1 h2 h3
 ·exact saysA l o p hl hs h1
 ·exact saysB l o p hl hs h1 h2
 ·exact saysC l o p hl hs h1 h2 h3
theorem opOrd (w : World) : OpA Try.prog 27 6 w ordP (fun _ => True) :=
 (OpA.struct Try.underlying27 (by kernel_rfl) (OpAF.cons rfl rfl (OpA.i64 Try.underlying3) (OpAF.cons rfl rfl (OpA.i64 Try.underlying3) (OpAF.cons rfl rfl (OpA.i64 Try.underlying3) (OpAF.cons rfl rfl (opCel w) (OpAF.cons rfl rfl (OpA.i64 Try.underlying3) OpAF.nil)))))).map (fun x => ⟨x.1, x.2.1, x.2.2.1, x.2.2.2.1, x.2.2.2.2.1⟩) (fun _ => rfl) (fun _ _ => trivial)
theorem opOrds (w : World) : OpA Try.prog 36 1 w (fun xs : List Ord => [.sl 6 (xs.map ordP)]) (fun xs => (∀ x ∈ xs, True) ∧ xs.length * 48 ≤ 140737488351232 ∧ xs.length ≤ 9223372036854775807) :=
 OpA.slice Try.underlying36 (by kernel_rfl) (by decide) (by kernel_rfl) (opOrd w)
theorem opSea (w : World) : OpA Try.prog 38 3 w seaP seaL :=
 (OpA.struct Try.underlying38 (by kernel_rfl) (OpAF.cons rfl rfl (opOrds w) (OpAF.cons rfl rfl (OpA.i64 Try.underlying3) (OpAF.cons rfl rfl (OpA.bool Try.underlying4) OpAF.nil)))).map (fun x => ⟨x.1, x.2.1, x.2.2.1⟩) (fun _ => rfl) (fun x h => by have := h.1.2.1; unfold seaL; simp only; omega)
theorem opSeas (w : World) : OpA Try.prog 23 1 w (fun xs : List Sea => [.sl 3 (xs.map seaP)]) (fun xs => (∀ x ∈ xs, seaL x) ∧ xs.length * 40 ≤ 140737488351232 ∧ xs.length ≤ 9223372036854775807) :=
 OpA.slice Try.underlying23 (by kernel_rfl) (by decide) (by kernel_rfl) (opSea w)
theorem law (l : List Sea) (o : Ord) (p : Int) (h0 : (∀ x ∈ l, seaL x) ∧ l.length * 40 ≤ 140737488351232 ∧ l.length ≤ 9223372036854775807) (_ : True) (_ : In64 p) : Spec Try.prog 3 [.c (.sl 3 (l.map seaP)), ordA o, I .i64 p] [] (B true) [] := says l o p h0.2.2 h0.1
theorem own : ownKnob Try.prog.godebug = none := by kernel_rfl
theorem laidOut : laidOutB Try.prog = true := by kernel_rfl
set_option maxRecDepth 100000 in
theorem lifted (os : Os) (started : os.Started) (H : Type) (enc : TypeId × Value → H) :
 ReturnsInHanded {} Try.checked os 3 .any (Rows.seatSaysSpec.pre6 enc Try.prog Try.f3 Rows.seatSaysRow.domain false) (Rows.seatSaysSpec.post enc Try.prog Try.f3 false true false false) := by
 refine returnsInHanded_of_change_sized (C := Try.checked) own started (by kernel_rfl) Try.func3
  (ChangeSpec.witness6 (enc := enc) (C := Try.checked) false ⟨#[], #[.slice none 0 0, .agg #[.int .i64 0, .int .i64 0, .int .i64 0, .int .i64 0, .int .i64 0, .int .i64 0], .int .i64 0], []⟩ 8 (by kernel_rfl) (by kernel_rfl) (by kernel_rfl) (by kernel_rfl)) ?_
 intro W base args ds gs before hval0 hW hcnd hsz0 _
 have hval : ∀ (j : Nat) t v, Try.f3.params[j]? = some t → args[j]? = some v → Value.okWide Try.prog W .any base t v := hval0
 have hW' := hW
 obtain ⟨p, q, hA0, hV, rfl, hfz, hnd⟩ := hW
 have hA : DataW.TrodAll enc Try.prog W 0 (fun _ => true) true Try.f3.params.toList args.toList ds p := hA0
 rw [Try.params3] at hA hval hsz0
 obtain ⟨v0, vs0, d0, ds0, p0, q0, hargs, rfl, rfl, h0, r0⟩ := trodAll_cons hA
 obtain ⟨v1, vs1, d1, ds1, p1, q1, rfl, rfl, rfl, h1, r1⟩ := trodAll_cons r0
 obtain ⟨v2, vs2, d2, ds2, p2, q2, rfl, rfl, rfl, h2, r2⟩ := trodAll_cons r1
 obtain ⟨rfl, rfl, rfl⟩ := trodAll_nil r2
 obtain rfl : args = #[v0, v1, v2] := by cases args; simp_all
 obtain ⟨rfl, rfl⟩ := trodVars_none hV
 have lt0 : ∀ x ∈ p0, x.block < W.heap.size := by obtain ⟨m, hm⟩ := h0; exact DataW.trod_lt m _ _ _ hm
 obtain ⟨x0, ok0, l0, q0r⟩ := OpA.arg (opSeas W) h0 hsz0 0 rfl rfl
 have R0 := rel_one (one_slice Try.underlying23 (hval 0 23 v0 rfl rfl)) q0r
 have lt1 : ∀ x ∈ p1, x.block < W.heap.size := by obtain ⟨m, hm⟩ := h1; exact DataW.trod_lt m _ _ _ hm
 obtain ⟨x1, ok1, l1, q1r⟩ := OpA.arg (opOrd W) h1 hsz0 1 rfl rfl
 have R1 := rel_agg (arg_struct (hval 1 27 v1 rfl rfl) Try.underlying27 rfl) l1 q1r
 have lt2 : ∀ x ∈ p2, x.block < W.heap.size := by obtain ⟨m, hm⟩ := h2; exact DataW.trod_lt m _ _ _ hm
 obtain ⟨x2, ok2, l2, q2r⟩ := OpA.arg (OpA.i64 Try.underlying3) h2 hsz0 2 rfl rfl
 have R2 := rel_one (one_int Try.underlying3 (hval 2 3 v2 rfl rfl)) q2r
 clear hA0 hval0
 refine (spec_law (law x0 x1 x2 ok0 ok1 ok2) (relL_cons R0 (relL_cons R1 (relL_cons R2 relL_nil)))).mono fun e W' ⟨he, bel⟩ => ?_
 subst he
 exact ⟨_, rfl, _, _, _, [], _, [], hW', trodAll_mk1 (shut_bool Try.underlying4 _), (trodAll_cons_mk (Below.trod laidOut (by kernel_rfl) (of_decide_eq_true (by kernel_rfl)) h0 bel lt0) (trodAll_cons_mk (Below.trod laidOut (by kernel_rfl) (of_decide_eq_true (by kernel_rfl)) h1 bel lt1) (trodAll_cons_mk (Below.trod laidOut (by kernel_rfl) (of_decide_eq_true (by kernel_rfl)) h2 bel lt2) trodAll_mk0))), rfl, bel.frame _, fun h => by cases h⟩
theorem over : Rows.seatSaysRow.holds Try.pinned (OpenSpec.ofChange Rows.seatSaysSpec) :=
 OpenClaim.holds_of_wide 3 Try.f3 rfl rfl rfl rfl rfl rfl rfl ⟨rfl, rfl, rfl, rfl, rfl⟩ rfl rfl rfl rfl rfl (by kernel_rfl) Try.func3 (by kernel_rfl)
  (of_decide_eq_true (by kernel_rfl)) (by unfold Func.isWrapper; first | (rw [if_pos (by decide +kernel)]; kernel_rfl) | (rw [if_neg (by decide +kernel)]; exact ⟨rfl, rfl⟩))
  (fun os started H enc _ => lifted os started H enc)
theorem proved : Rows.SeatSaysSaid := over
#print axioms proved
end seatSays
end Go.Proofs.Ytdkmndimmpilaaa
