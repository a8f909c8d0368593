/- Lemmas for the proof of mistSays.proved. -/
import Derived.Test.YtehcnnodkhcgfaaMistSaysM6
namespace Go.Proofs.Ytehcnnodkhcgfaa
set_option linter.all false
open Go.RowKit
set_option maxRecDepth 100000
set_option maxHeartbeats 2000000
theorem lineV_len (a b : Cel) : (lineV a b).length = max (b.x - a.x).natAbs (b.y - a.y).natAbs + 1 := by simp [lineV, lpts_len]
theorem lpt_step (a : Cel) (sx sy : Int) (X Y k L m : Nat) (hL : L = max X Y) (hm : m = min X Y) (h0 : 0 < L) :
    lpt a sx sy X Y (k + 1) = ⟨if Y ≤ X ∨ 2 * L ≤ lr L m k + 2 * m then (lpt a sx sy X Y k).x + sx else (lpt a sx sy X Y k).x, if X < Y ∨ 2 * L ≤ lr L m k + 2 * m then (lpt a sx sy X Y k).y + sy else (lpt a sx sy X Y k).y⟩ ∧
    (lr L m (k + 1) : Int) = if 2 * L ≤ lr L m k + 2 * m then (lr L m k : Int) + 2 * m - 2 * L else lr L m k + 2 * m := by
  by_cases h : Y ≤ X
  · obtain rfl : L = X := by omega
    obtain rfl : m = Y := by omega
    have st := lq_step L m k h0 h
    rw [lpt_stepX a sx sy L m k h h0, if_pos (show m ≤ L ∨ 2 * L ≤ lr L m k + 2 * m from Or.inl h)]
    by_cases hc : 2 * L ≤ lr L m k + 2 * m
    · rw [if_pos hc, if_pos (show L < m ∨ 2 * L ≤ lr L m k + 2 * m from Or.inr hc), if_pos hc]; exact ⟨rfl, by have := (st.1 hc).2; omega⟩
    · rw [if_neg hc, if_neg (show ¬ (L < m ∨ 2 * L ≤ lr L m k + 2 * m) by omega), if_neg hc]; exact ⟨rfl, by have := (st.2 (by omega)).2; omega⟩
  · obtain rfl : L = Y := by omega
    obtain rfl : m = X := by omega
    have st := lq_step L m k h0 (by omega)
    rw [lpt_stepY a sx sy m L k (by omega), if_pos (show m < L ∨ 2 * L ≤ lr L m k + 2 * m from Or.inl (by omega))]
    by_cases hc : 2 * L ≤ lr L m k + 2 * m
    · rw [if_pos hc, if_pos (show L ≤ m ∨ 2 * L ≤ lr L m k + 2 * m from Or.inr hc), if_pos hc]; exact ⟨rfl, by have := (st.1 hc).2; omega⟩
    · rw [if_neg hc, if_neg (show ¬ (L ≤ m ∨ 2 * L ≤ lr L m k + 2 * m) by omega), if_neg hc]; exact ⟨rfl, by have := (st.2 (by omega)).2; omega⟩
theorem lpts_zero (a : Cel) (sx sy : Int) (X Y : Nat) : lpts a sx sy X Y 0 = [a] := by simp [lpts, lpt_zero]
theorem cells_s (a b : Cel) (ha : nearB a = true) (hb : nearB b = true) : Spec Try.prog 281 [celA a, celA b] [] (.tup [.c (.sl 2 ((lineV a b).map celP)), I .i64 0]) [] := by
  have hx := nearB_true ha
  have hy := nearB_true hb
  obtain ⟨sx, hsx⟩ : ∃ s, s = (b.x - a.x).sign := ⟨_, rfl⟩
  obtain ⟨sy, hsy⟩ : ∃ s, s = (b.y - a.y).sign := ⟨_, rfl⟩
  obtain ⟨X, hX⟩ : ∃ s, s = (b.x - a.x).natAbs := ⟨_, rfl⟩
  obtain ⟨Y, hY⟩ : ∃ s, s = (b.y - a.y).natAbs := ⟨_, rfl⟩
  have gx := sg (b.x - a.x)
  have gy := sg (b.y - a.y)
  rw [← hsx] at gx
  rw [← hsy] at gy
  have S1 := sign_s (b.x - a.x) (by omega) (by omega)
  have S2 := sign_s (b.y - a.y) (by omega) (by omega)
  have hX2 : X ≤ 2000 := by omega
  have hY2 : Y ≤ 2000 := by omega
  unfold lineV
  rw [← hsx, ← hX] at S1 ⊢
  rw [← hsy, ← hY] at S2 ⊢
  obtain ⟨L, hL⟩ : ∃ L, L = max X Y := ⟨_, rfl⟩
  obtain ⟨m, hm⟩ : ∃ m, m = min X Y := ⟨_, rfl⟩
  rw [← hL]
  have LR := fun k h0 => lr_lt L m k h0
  have NR := fun k hk => lpt_near a sx sy X Y k gx gy hX2 hY2 hk ha
  clear hsx hsy hX hY
  refine spec_am Try.func281 rfl rfl mix 93 rfl [.tmp 4, .tmp 5] Try.results281 (Nat.le_of_ble_eq_true rfl) ?_
  (iterate 2 ((try simp (etaStruct := .none) only [push_cast, DrawG, Int.cast_ofNat_Int, Nat.reduceAdd, Nat.reduceSub, Nat.reduceMul, reduceCtorEq, reduceIte, Nat.reduceEqDiff, Nat.reduceLT, Nat.reduceLeDiff, Nat.reduceBEq, Int.reduceToNat, Int.reduceLE, Int.reduceLT, lpts_len]); (try simp (disch := omega) only [wrap_in, wk_self, Int.tdiv_eq_ediv_of_nonneg, Int.tmod_eq_emod_of_nonneg]); (repeat (with_reducible refine And.intro ?_ ?_; · first | omega | decide | (simp; done) | (simp; omega) | (intro hh; refine ⟨hh, ?_⟩; omega) | (simp +contextual; done)))))
  refine callP (near_s a (by omega) (by omega)) (WkL.refl _) ?_
  (iterate 2 ((try simp (etaStruct := .none) only [push_cast, DrawG, Int.cast_ofNat_Int, Nat.reduceAdd, Nat.reduceSub, Nat.reduceMul, reduceCtorEq, reduceIte, Nat.reduceEqDiff, Nat.reduceLT, Nat.reduceLeDiff, Nat.reduceBEq, Int.reduceToNat, Int.reduceLE, Int.reduceLT, lpts_len]); (try simp (disch := omega) only [wrap_in, wk_self, Int.tdiv_eq_ediv_of_nonneg, Int.tmod_eq_emod_of_nonneg]); (repeat (with_reducible refine And.intro ?_ ?_; · first | omega | decide | (simp; done) | (simp; omega) | (intro hh; refine ⟨hh, ?_⟩; omega) | (simp +contextual; done)))))
  refine gcallP (fun hcc => near_s b (by omega) (by omega)) (WkL.refl _) (by intro hc; (try simp (etaStruct := .none) only [push_cast, DrawG, Int.cast_ofNat_Int, Nat.reduceAdd, Nat.reduceSub, Nat.reduceMul, reduceCtorEq, reduceIte, Nat.reduceEqDiff, Nat.reduceLT, Nat.reduceLeDiff, Nat.reduceBEq, Int.reduceToNat, Int.reduceLE, Int.reduceLT]); (try simp_all)) ?_
  (iterate 2 ((try simp (etaStruct := .none) only [push_cast, DrawG, Int.cast_ofNat_Int, Nat.reduceAdd, Nat.reduceSub, Nat.reduceMul, reduceCtorEq, reduceIte, Nat.reduceEqDiff, Nat.reduceLT, Nat.reduceLeDiff, Nat.reduceBEq, Int.reduceToNat, Int.reduceLE, Int.reduceLT, lpts_len]); (try simp (disch := omega) only [wrap_in, wk_self, Int.tdiv_eq_ediv_of_nonneg, Int.tmod_eq_emod_of_nonneg]); (repeat (with_reducible refine And.intro ?_ ?_; · first | omega | decide | (simp; done) | (simp; omega) | (intro hh; refine ⟨hh, ?_⟩; omega) | (simp +contextual; done)))))
  refine cond_i (fun h1 => ?_) (fun h1 => ?_)
  · (try simp only [decide_eq_true_eq, decide_eq_false_iff_not, Bool.not_eq_true', Bool.not_eq_false', Bool.or_eq_true, Bool.and_eq_true, Bool.or_eq_false_iff, Bool.and_eq_false_iff, Int.not_lt, Int.not_le, Bool.not_true, Bool.not_false, not_and, not_or] at h1)
    simp [ha, hb] at h1
  · (try simp only [decide_eq_true_eq, decide_eq_false_iff_not, Bool.not_eq_true', Bool.not_eq_false', Bool.or_eq_true, Bool.and_eq_true, Bool.or_eq_false_iff, Bool.and_eq_false_iff, Int.not_lt, Int.not_le, Bool.not_true, Bool.not_false, not_and, not_or] at h1)
    (iterate 2 ((try simp (etaStruct := .none) only [push_cast, DrawG, Int.cast_ofNat_Int, Nat.reduceAdd, Nat.reduceSub, Nat.reduceMul, reduceCtorEq, reduceIte, Nat.reduceEqDiff, Nat.reduceLT, Nat.reduceLeDiff, Nat.reduceBEq, Int.reduceToNat, Int.reduceLE, Int.reduceLT, lpts_len]); (try simp (disch := omega) only [wrap_in, wk_self, Int.tdiv_eq_ediv_of_nonneg, Int.tmod_eq_emod_of_nonneg]); (repeat (with_reducible refine And.intro ?_ ?_; · first | omega | decide | (simp; done) | (simp; omega) | (intro hh; refine ⟨hh, ?_⟩; omega) | (simp +contextual; done)))))
    refine callP (S1) (WkL.refl _) ?_
    (iterate 2 ((try simp (etaStruct := .none) only [push_cast, DrawG, Int.cast_ofNat_Int, Nat.reduceAdd, Nat.reduceSub, Nat.reduceMul, reduceCtorEq, reduceIte, Nat.reduceEqDiff, Nat.reduceLT, Nat.reduceLeDiff, Nat.reduceBEq, Int.reduceToNat, Int.reduceLE, Int.reduceLT, lpts_len]); (try simp (disch := omega) only [wrap_in, wk_self, Int.tdiv_eq_ediv_of_nonneg, Int.tmod_eq_emod_of_nonneg]); (repeat (with_reducible refine And.intro ?_ ?_; · first | omega | decide | (simp; done) | (simp; omega) | (intro hh; refine ⟨hh, ?_⟩; omega) | (simp +contextual; done)))))
    refine callP (S2) (WkL.refl _) ?_
    (iterate 2 ((try simp (etaStruct := .none) only [push_cast, DrawG, Int.cast_ofNat_Int, Nat.reduceAdd, Nat.reduceSub, Nat.reduceMul, reduceCtorEq, reduceIte, Nat.reduceEqDiff, Nat.reduceLT, Nat.reduceLeDiff, Nat.reduceBEq, Int.reduceToNat, Int.reduceLE, Int.reduceLT, lpts_len]); (try simp (disch := omega) only [wrap_in, wk_self, Int.tdiv_eq_ediv_of_nonneg, Int.tmod_eq_emod_of_nonneg]); (repeat (with_reducible refine And.intro ?_ ?_; · first | omega | decide | (simp; done) | (simp; omega) | (intro hh; refine ⟨hh, ?_⟩; omega) | (simp +contextual; done)))))
    refine cond_j (fun _u : Unit => ⟨[(10, I .i64 L), (11, I .i64 m), (9, I .i64 Y), (8, I .i64 sy), (7, I .i64 X), (6, I .i64 sx), (2, .ptr 0 0 0)], [(0, .blk 25 [I .i64 a.x, I .i64 a.y])], 1⟩) (fun _u : Unit => Tr) (fun h2 => ?_) (fun h2 => ?_) ?_
    · (try simp only [decide_eq_true_eq, decide_eq_false_iff_not, Bool.not_eq_true', Bool.not_eq_false', Bool.or_eq_true, Bool.and_eq_true, Bool.or_eq_false_iff, Bool.and_eq_false_iff, Int.not_lt, Int.not_le, Bool.not_true, Bool.not_false, not_and, not_or] at h2)
      obtain rfl : L = Y := by omega
      obtain rfl : m = X := by omega
      (iterate 2 ((try simp (etaStruct := .none) only [push_cast, DrawG, Int.cast_ofNat_Int, Nat.reduceAdd, Nat.reduceSub, Nat.reduceMul, reduceCtorEq, reduceIte, Nat.reduceEqDiff, Nat.reduceLT, Nat.reduceLeDiff, Nat.reduceBEq, Int.reduceToNat, Int.reduceLE, Int.reduceLT, lpts_len]); (try simp (disch := omega) only [wrap_in, wk_self, Int.tdiv_eq_ediv_of_nonneg, Int.tmod_eq_emod_of_nonneg]); (repeat (with_reducible refine And.intro ?_ ?_; · first | omega | decide | (simp; done) | (simp; omega) | (intro hh; refine ⟨hh, ?_⟩; omega) | (simp +contextual; done)))))
      refine ⟨(), trI, To.mk [0] rfl rfl (by decide) ?_ ?_⟩
      · (iterate 2 ((try simp (etaStruct := .none) only [push_cast, DrawG, Int.cast_ofNat_Int, Nat.reduceAdd, Nat.reduceSub, Nat.reduceMul, reduceCtorEq, reduceIte, Nat.reduceEqDiff, Nat.reduceLT, Nat.reduceLeDiff, Nat.reduceBEq, Int.reduceToNat, Int.reduceLE, Int.reduceLT, lpts_len]); (try simp (disch := omega) only [wrap_in, wk_self, Int.tdiv_eq_ediv_of_nonneg, Int.tmod_eq_emod_of_nonneg]); (repeat (with_reducible refine And.intro ?_ ?_; · first | omega | decide | (simp; done) | (simp; omega) | (intro hh; refine ⟨hh, ?_⟩; omega) | (simp +contextual; done)))))
      · (iterate 2 ((try simp (etaStruct := .none) only [push_cast, DrawG, Int.cast_ofNat_Int, Nat.reduceAdd, Nat.reduceSub, Nat.reduceMul, reduceCtorEq, reduceIte, Nat.reduceEqDiff, Nat.reduceLT, Nat.reduceLeDiff, Nat.reduceBEq, Int.reduceToNat, Int.reduceLE, Int.reduceLT, lpts_len]); (try simp (disch := omega) only [wrap_in, wk_self, Int.tdiv_eq_ediv_of_nonneg, Int.tmod_eq_emod_of_nonneg]); (repeat (with_reducible refine And.intro ?_ ?_; · first | omega | decide | (simp; done) | (simp; omega) | (intro hh; refine ⟨hh, ?_⟩; omega) | (simp +contextual; done)))))
    · (try simp only [decide_eq_true_eq, decide_eq_false_iff_not, Bool.not_eq_true', Bool.not_eq_false', Bool.or_eq_true, Bool.and_eq_true, Bool.or_eq_false_iff, Bool.and_eq_false_iff, Int.not_lt, Int.not_le, Bool.not_true, Bool.not_false, not_and, not_or] at h2)
      obtain rfl : L = X := by omega
      obtain rfl : m = Y := by omega
      (iterate 2 ((try simp (etaStruct := .none) only [push_cast, DrawG, Int.cast_ofNat_Int, Nat.reduceAdd, Nat.reduceSub, Nat.reduceMul, reduceCtorEq, reduceIte, Nat.reduceEqDiff, Nat.reduceLT, Nat.reduceLeDiff, Nat.reduceBEq, Int.reduceToNat, Int.reduceLE, Int.reduceLT, lpts_len]); (try simp (disch := omega) only [wrap_in, wk_self, Int.tdiv_eq_ediv_of_nonneg, Int.tmod_eq_emod_of_nonneg]); (repeat (with_reducible refine And.intro ?_ ?_; · first | omega | decide | (simp; done) | (simp; omega) | (intro hh; refine ⟨hh, ?_⟩; omega) | (simp +contextual; done)))))
      refine ⟨(), trI, To.mk [0] rfl rfl (by decide) ?_ ?_⟩
      · (iterate 2 ((try simp (etaStruct := .none) only [push_cast, DrawG, Int.cast_ofNat_Int, Nat.reduceAdd, Nat.reduceSub, Nat.reduceMul, reduceCtorEq, reduceIte, Nat.reduceEqDiff, Nat.reduceLT, Nat.reduceLeDiff, Nat.reduceBEq, Int.reduceToNat, Int.reduceLE, Int.reduceLT, lpts_len]); (try simp (disch := omega) only [wrap_in, wk_self, Int.tdiv_eq_ediv_of_nonneg, Int.tmod_eq_emod_of_nonneg]); (repeat (with_reducible refine And.intro ?_ ?_; · first | omega | decide | (simp; done) | (simp; omega) | (intro hh; refine ⟨hh, ?_⟩; omega) | (simp +contextual; done)))))
      · (iterate 2 ((try simp (etaStruct := .none) only [push_cast, DrawG, Int.cast_ofNat_Int, Nat.reduceAdd, Nat.reduceSub, Nat.reduceMul, reduceCtorEq, reduceIte, Nat.reduceEqDiff, Nat.reduceLT, Nat.reduceLeDiff, Nat.reduceBEq, Int.reduceToNat, Int.reduceLE, Int.reduceLT, lpts_len]); (try simp (disch := omega) only [wrap_in, wk_self, Int.tdiv_eq_ediv_of_nonneg, Int.tmod_eq_emod_of_nonneg]); (repeat (with_reducible refine And.intro ?_ ?_; · first | omega | decide | (simp; done) | (simp; omega) | (intro hh; refine ⟨hh, ?_⟩; omega) | (simp +contextual; done)))))
    · rintro _ _
      (iterate 2 ((try simp (etaStruct := .none) only [push_cast, DrawG, Int.cast_ofNat_Int, Nat.reduceAdd, Nat.reduceSub, Nat.reduceMul, reduceCtorEq, reduceIte, Nat.reduceEqDiff, Nat.reduceLT, Nat.reduceLeDiff, Nat.reduceBEq, Int.reduceToNat, Int.reduceLE, Int.reduceLT, lpts_len]); (try simp (disch := omega) only [wrap_in, wk_self, Int.tdiv_eq_ediv_of_nonneg, Int.tmod_eq_emod_of_nonneg]); (repeat (with_reducible refine And.intro ?_ ?_; · first | omega | decide | (simp; done) | (simp; omega) | (intro hh; refine ⟨hh, ?_⟩; omega) | (simp +contextual; done)))))
      refine loopI (fun k : Nat => ⟨[(51, I .i64 k), (50, I .i64 L), (13, I .i64 ((lr L m k : Int) - L)), (12, .own 1), (11, I .i64 m), (10, I .i64 L), (9, I .i64 Y), (8, I .i64 sy), (7, I .i64 X), (6, I .i64 sx), (2, .ptr 0 0 0)], [(0, .blk 25 [I .i64 (lpt a sx sy X Y k).x, I .i64 (lpt a sx sy X Y k).y]), (1, .row 25 2 ((lpts a sx sy X Y k).map celP))], 2⟩) (fun k : Nat => k ≤ L) (fun k : Nat => L - k) (0) (Nat.zero_le _) (To.mk [0, 1] rfl rfl (by decide) ?_ ?_) ?_
      · simp (etaStruct := .none) only [push_cast, DrawG, Int.cast_ofNat_Int, Nat.reduceAdd, Nat.reduceSub, Nat.reduceMul, reduceCtorEq, reduceIte, Nat.reduceEqDiff, Nat.reduceLT, Nat.reduceLeDiff, Nat.reduceBEq, Int.reduceToNat, Int.reduceLE, Int.reduceLT, lpt_zero, lpts_zero, celP]
      · simp (etaStruct := .none) only [push_cast, DrawG, Int.cast_ofNat_Int, Nat.reduceAdd, Nat.reduceSub, Nat.reduceMul, reduceCtorEq, reduceIte, Nat.reduceEqDiff, Nat.reduceLT, Nat.reduceLeDiff, Nat.reduceBEq, Int.reduceToNat, Int.reduceLE, Int.reduceLT, lpt_zero, lr_zero, Int.sub_self]
      rintro k hk
      (iterate 2 ((try simp (etaStruct := .none) only [push_cast, DrawG, Int.cast_ofNat_Int, Nat.reduceAdd, Nat.reduceSub, Nat.reduceMul, reduceCtorEq, reduceIte, Nat.reduceEqDiff, Nat.reduceLT, Nat.reduceLeDiff, Nat.reduceBEq, Int.reduceToNat, Int.reduceLE, Int.reduceLT, lpts_len]); (try simp (disch := omega) only [wrap_in, wk_self, Int.tdiv_eq_ediv_of_nonneg, Int.tmod_eq_emod_of_nonneg]); (repeat (with_reducible refine And.intro ?_ ?_; · first | omega | decide | (simp; done) | (simp; omega) | (intro hh; refine ⟨hh, ?_⟩; omega) | (simp +contextual; done)))))
      refine cond_i (fun h3 => ?_) (fun h3 => ?_)
      · (try simp only [decide_eq_true_eq, decide_eq_false_iff_not, Bool.not_eq_true', Bool.not_eq_false', Bool.or_eq_true, Bool.and_eq_true, Bool.or_eq_false_iff, Bool.and_eq_false_iff, Int.not_lt, Int.not_le, Bool.not_true, Bool.not_false, not_and, not_or] at h3)
        have hlt : k < L := by omega
        obtain ⟨ST, SR⟩ := lpt_step a sx sy X Y k L m hL hm (by omega)
        have hlr := LR k (by omega)
        have hnr := NR k (by omega)
        have hnr2 := NR (k + 1) (by omega)
        (iterate 2 ((try simp (etaStruct := .none) only [push_cast, DrawG, Int.cast_ofNat_Int, Nat.reduceAdd, Nat.reduceSub, Nat.reduceMul, reduceCtorEq, reduceIte, Nat.reduceEqDiff, Nat.reduceLT, Nat.reduceLeDiff, Nat.reduceBEq, Int.reduceToNat, Int.reduceLE, Int.reduceLT, lpts_len]); (try simp (disch := omega) only [wrap_in, wk_self, Int.tdiv_eq_ediv_of_nonneg, Int.tmod_eq_emod_of_nonneg]); (repeat (with_reducible refine And.intro ?_ ?_; · first | omega | decide | (simp; done) | (simp; omega) | (intro hh; refine ⟨hh, ?_⟩; omega) | (simp +contextual; done)))))
        refine cond_j (fun o : Bool => ⟨[(51, I .i64 k), (50, I .i64 L), (14, B o), (13, I .i64 ((lr L m (k + 1) : Int) - L)), (12, .own 1), (11, I .i64 m), (10, I .i64 L), (9, I .i64 Y), (8, I .i64 sy), (7, I .i64 X), (6, I .i64 sx), (2, .ptr 0 0 0)], [(0, .blk 25 [I .i64 (lpt a sx sy X Y k).x, I .i64 (lpt a sx sy X Y k).y]), (1, .row 25 2 ((lpts a sx sy X Y k).map celP))], 2⟩) (fun o : Bool => (o = true ↔ 2 * L ≤ lr L m k + 2 * m)) (fun h4 => ?_) (fun h4 => ?_) ?_
        · (try simp only [decide_eq_true_eq, decide_eq_false_iff_not, Bool.not_eq_true', Bool.not_eq_false', Bool.or_eq_true, Bool.and_eq_true, Bool.or_eq_false_iff, Bool.and_eq_false_iff, Int.not_lt, Int.not_le, Bool.not_true, Bool.not_false, not_and, not_or] at h4)
          have e1 : (lr L m k : Int) - L + 2 * m - 2 * L = (lr L m (k + 1) : Int) - L := by rw [SR, if_pos (by omega)]; omega
          have e2 : decide ((L : Int) ≤ (lr L m k : Int) - L + 2 * m) = true := by simp; omega
          (iterate 2 ((try simp (etaStruct := .none) only [push_cast, DrawG, Int.cast_ofNat_Int, Nat.reduceAdd, Nat.reduceSub, Nat.reduceMul, reduceCtorEq, reduceIte, Nat.reduceEqDiff, Nat.reduceLT, Nat.reduceLeDiff, Nat.reduceBEq, Int.reduceToNat, Int.reduceLE, Int.reduceLT, lpts_len, e1, e2]); (try simp (disch := omega) only [wrap_in, wk_self, Int.tdiv_eq_ediv_of_nonneg, Int.tmod_eq_emod_of_nonneg]); (repeat (with_reducible refine And.intro ?_ ?_; · first | omega | decide | (simp; done) | (simp; omega) | (intro hh; refine ⟨hh, ?_⟩; omega) | (simp +contextual; done)))))
          refine ⟨true, by simp; omega, To.mk [0, 1] rfl rfl (by decide) ?_ ?_⟩
          · (iterate 2 ((try simp (etaStruct := .none) only [push_cast, DrawG, Int.cast_ofNat_Int, Nat.reduceAdd, Nat.reduceSub, Nat.reduceMul, reduceCtorEq, reduceIte, Nat.reduceEqDiff, Nat.reduceLT, Nat.reduceLeDiff, Nat.reduceBEq, Int.reduceToNat, Int.reduceLE, Int.reduceLT, lpts_len, e1, e2]); (try simp (disch := omega) only [wrap_in, wk_self, Int.tdiv_eq_ediv_of_nonneg, Int.tmod_eq_emod_of_nonneg]); (repeat (with_reducible refine And.intro ?_ ?_; · first | omega | decide | (simp; done) | (simp; omega) | (intro hh; refine ⟨hh, ?_⟩; omega) | (simp +contextual; done)))))
          · (iterate 2 ((try simp (etaStruct := .none) only [push_cast, DrawG, Int.cast_ofNat_Int, Nat.reduceAdd, Nat.reduceSub, Nat.reduceMul, reduceCtorEq, reduceIte, Nat.reduceEqDiff, Nat.reduceLT, Nat.reduceLeDiff, Nat.reduceBEq, Int.reduceToNat, Int.reduceLE, Int.reduceLT, lpts_len, e1, e2]); (try simp (disch := omega) only [wrap_in, wk_self, Int.tdiv_eq_ediv_of_nonneg, Int.tmod_eq_emod_of_nonneg]); (repeat (with_reducible refine And.intro ?_ ?_; · first | omega | decide | (simp; done) | (simp; omega) | (intro hh; refine ⟨hh, ?_⟩; omega) | (simp +contextual; done)))))
        · (try simp only [decide_eq_true_eq, decide_eq_false_iff_not, Bool.not_eq_true', Bool.not_eq_false', Bool.or_eq_true, Bool.and_eq_true, Bool.or_eq_false_iff, Bool.and_eq_false_iff, Int.not_lt, Int.not_le, Bool.not_true, Bool.not_false, not_and, not_or] at h4)
          have e1 : (lr L m k : Int) - L + 2 * m = (lr L m (k + 1) : Int) - L := by rw [SR, if_neg (by omega)]; omega
          have e2 : decide ((L : Int) ≤ (lr L m (k + 1) : Int) - L) = false := by rw [← e1]; simp; omega
          (iterate 2 ((try simp (etaStruct := .none) only [push_cast, DrawG, Int.cast_ofNat_Int, Nat.reduceAdd, Nat.reduceSub, Nat.reduceMul, reduceCtorEq, reduceIte, Nat.reduceEqDiff, Nat.reduceLT, Nat.reduceLeDiff, Nat.reduceBEq, Int.reduceToNat, Int.reduceLE, Int.reduceLT, lpts_len, e1, e2]); (try simp (disch := omega) only [wrap_in, wk_self, Int.tdiv_eq_ediv_of_nonneg, Int.tmod_eq_emod_of_nonneg]); (repeat (with_reducible refine And.intro ?_ ?_; · first | omega | decide | (simp; done) | (simp; omega) | (intro hh; refine ⟨hh, ?_⟩; omega) | (simp +contextual; done)))))
          refine ⟨false, by simp; omega, To.mk [0, 1] rfl rfl (by decide) ?_ ?_⟩
          · (iterate 2 ((try simp (etaStruct := .none) only [push_cast, DrawG, Int.cast_ofNat_Int, Nat.reduceAdd, Nat.reduceSub, Nat.reduceMul, reduceCtorEq, reduceIte, Nat.reduceEqDiff, Nat.reduceLT, Nat.reduceLeDiff, Nat.reduceBEq, Int.reduceToNat, Int.reduceLE, Int.reduceLT, lpts_len, e1, e2]); (try simp (disch := omega) only [wrap_in, wk_self, Int.tdiv_eq_ediv_of_nonneg, Int.tmod_eq_emod_of_nonneg]); (repeat (with_reducible refine And.intro ?_ ?_; · first | omega | decide | (simp; done) | (simp; omega) | (intro hh; refine ⟨hh, ?_⟩; omega) | (simp +contextual; done)))))
          · (iterate 2 ((try simp (etaStruct := .none) only [push_cast, DrawG, Int.cast_ofNat_Int, Nat.reduceAdd, Nat.reduceSub, Nat.reduceMul, reduceCtorEq, reduceIte, Nat.reduceEqDiff, Nat.reduceLT, Nat.reduceLeDiff, Nat.reduceBEq, Int.reduceToNat, Int.reduceLE, Int.reduceLT, lpts_len, e1, e2]); (try simp (disch := omega) only [wrap_in, wk_self, Int.tdiv_eq_ediv_of_nonneg, Int.tmod_eq_emod_of_nonneg]); (repeat (with_reducible refine And.intro ?_ ?_; · first | omega | decide | (simp; done) | (simp; omega) | (intro hh; refine ⟨hh, ?_⟩; omega) | (simp +contextual; done)))))
        · rintro o ho
          (iterate 2 ((try simp (etaStruct := .none) only [push_cast, DrawG, Int.cast_ofNat_Int, Nat.reduceAdd, Nat.reduceSub, Nat.reduceMul, reduceCtorEq, reduceIte, Nat.reduceEqDiff, Nat.reduceLT, Nat.reduceLeDiff, Nat.reduceBEq, Int.reduceToNat, Int.reduceLE, Int.reduceLT, lpts_len]); (try simp (disch := omega) only [wrap_in, wk_self, Int.tdiv_eq_ediv_of_nonneg, Int.tmod_eq_emod_of_nonneg]); (repeat (with_reducible refine And.intro ?_ ?_; · first | omega | decide | (simp; done) | (simp; omega) | (intro hh; refine ⟨hh, ?_⟩; omega) | (simp +contextual; done)))))
          refine cond_j (fun _u : Unit => ⟨[(51, I .i64 k), (50, I .i64 L), (14, B o), (13, I .i64 ((lr L m (k + 1) : Int) - L)), (12, .own 1), (11, I .i64 m), (10, I .i64 L), (9, I .i64 Y), (8, I .i64 sy), (7, I .i64 X), (6, I .i64 sx), (2, .ptr 0 0 0)], [(0, .blk 25 [I .i64 (lpt a sx sy X Y (k + 1)).x, I .i64 (lpt a sx sy X Y k).y]), (1, .row 25 2 ((lpts a sx sy X Y k).map celP))], 2⟩) (fun _u : Unit => Tr) (fun h5 => ?_) (fun h5 => ?_) ?_
          · (try simp only [decide_eq_true_eq, decide_eq_false_iff_not, Bool.not_eq_true', Bool.not_eq_false', Bool.or_eq_true, Bool.and_eq_true, Bool.or_eq_false_iff, Bool.and_eq_false_iff, Int.not_lt, Int.not_le, Bool.not_true, Bool.not_false, not_and, not_or] at h5)
            rw [ho] at h5
            have e1 : (lpt a sx sy X Y k).x + sx = (lpt a sx sy X Y (k + 1)).x := by rw [ST]; simp only; rw [if_pos (by omega)]
            (iterate 2 ((try simp (etaStruct := .none) only [push_cast, DrawG, Int.cast_ofNat_Int, Nat.reduceAdd, Nat.reduceSub, Nat.reduceMul, reduceCtorEq, reduceIte, Nat.reduceEqDiff, Nat.reduceLT, Nat.reduceLeDiff, Nat.reduceBEq, Int.reduceToNat, Int.reduceLE, Int.reduceLT, lpts_len, e1]); (try simp (disch := omega) only [wrap_in, wk_self, Int.tdiv_eq_ediv_of_nonneg, Int.tmod_eq_emod_of_nonneg]); (repeat (with_reducible refine And.intro ?_ ?_; · first | omega | decide | (simp; done) | (simp; omega) | (intro hh; refine ⟨hh, ?_⟩; omega) | (simp +contextual; done)))))
            refine ⟨(), trI, To.mk [0, 1] rfl rfl (by decide) ?_ ?_⟩
            · (iterate 2 ((try simp (etaStruct := .none) only [push_cast, DrawG, Int.cast_ofNat_Int, Nat.reduceAdd, Nat.reduceSub, Nat.reduceMul, reduceCtorEq, reduceIte, Nat.reduceEqDiff, Nat.reduceLT, Nat.reduceLeDiff, Nat.reduceBEq, Int.reduceToNat, Int.reduceLE, Int.reduceLT, lpts_len, e1]); (try simp (disch := omega) only [wrap_in, wk_self, Int.tdiv_eq_ediv_of_nonneg, Int.tmod_eq_emod_of_nonneg]); (repeat (with_reducible refine And.intro ?_ ?_; · first | omega | decide | (simp; done) | (simp; omega) | (intro hh; refine ⟨hh, ?_⟩; omega) | (simp +contextual; done)))))
            · (iterate 2 ((try simp (etaStruct := .none) only [push_cast, DrawG, Int.cast_ofNat_Int, Nat.reduceAdd, Nat.reduceSub, Nat.reduceMul, reduceCtorEq, reduceIte, Nat.reduceEqDiff, Nat.reduceLT, Nat.reduceLeDiff, Nat.reduceBEq, Int.reduceToNat, Int.reduceLE, Int.reduceLT, lpts_len, e1]); (try simp (disch := omega) only [wrap_in, wk_self, Int.tdiv_eq_ediv_of_nonneg, Int.tmod_eq_emod_of_nonneg]); (repeat (with_reducible refine And.intro ?_ ?_; · first | omega | decide | (simp; done) | (simp; omega) | (intro hh; refine ⟨hh, ?_⟩; omega) | (simp +contextual; done)))))
          · (try simp only [decide_eq_true_eq, decide_eq_false_iff_not, Bool.not_eq_true', Bool.not_eq_false', Bool.or_eq_true, Bool.and_eq_true, Bool.or_eq_false_iff, Bool.and_eq_false_iff, Int.not_lt, Int.not_le, Bool.not_true, Bool.not_false, not_and, not_or] at h5)
            rw [Bool.eq_false_iff, ne_eq, ho] at h5
            have e1 : (lpt a sx sy X Y k).x = (lpt a sx sy X Y (k + 1)).x := by rw [ST]; simp only; rw [if_neg (by omega)]
            (iterate 2 ((try simp (etaStruct := .none) only [push_cast, DrawG, Int.cast_ofNat_Int, Nat.reduceAdd, Nat.reduceSub, Nat.reduceMul, reduceCtorEq, reduceIte, Nat.reduceEqDiff, Nat.reduceLT, Nat.reduceLeDiff, Nat.reduceBEq, Int.reduceToNat, Int.reduceLE, Int.reduceLT, lpts_len]); (try simp (disch := omega) only [wrap_in, wk_self, Int.tdiv_eq_ediv_of_nonneg, Int.tmod_eq_emod_of_nonneg]); (repeat (with_reducible refine And.intro ?_ ?_; · first | omega | decide | (simp; done) | (simp; omega) | (intro hh; refine ⟨hh, ?_⟩; omega) | (simp +contextual; done)))))
            refine ⟨(), trI, To.mk [0, 1] rfl rfl (by decide) ?_ ?_⟩
            · simp (etaStruct := .none) only [push_cast, DrawG, Int.cast_ofNat_Int, Nat.reduceAdd, Nat.reduceSub, Nat.reduceMul, reduceCtorEq, reduceIte, Nat.reduceEqDiff, Nat.reduceLT, Nat.reduceLeDiff, Nat.reduceBEq, Int.reduceToNat, Int.reduceLE, Int.reduceLT]
              rw [← e1]
              simp (etaStruct := .none) only [push_cast, DrawG, Int.cast_ofNat_Int, Nat.reduceAdd, Nat.reduceSub, Nat.reduceMul, reduceCtorEq, reduceIte, Nat.reduceEqDiff, Nat.reduceLT, Nat.reduceLeDiff, Nat.reduceBEq, Int.reduceToNat, Int.reduceLE, Int.reduceLT]
            · (iterate 2 ((try simp (etaStruct := .none) only [push_cast, DrawG, Int.cast_ofNat_Int, Nat.reduceAdd, Nat.reduceSub, Nat.reduceMul, reduceCtorEq, reduceIte, Nat.reduceEqDiff, Nat.reduceLT, Nat.reduceLeDiff, Nat.reduceBEq, Int.reduceToNat, Int.reduceLE, Int.reduceLT, lpts_len]); (try simp (disch := omega) only [wrap_in, wk_self, Int.tdiv_eq_ediv_of_nonneg, Int.tmod_eq_emod_of_nonneg]); (repeat (with_reducible refine And.intro ?_ ?_; · first | omega | decide | (simp; done) | (simp; omega) | (intro hh; refine ⟨hh, ?_⟩; omega) | (simp +contextual; done)))))
          · rintro _ _
            (iterate 2 ((try simp (etaStruct := .none) only [push_cast, DrawG, Int.cast_ofNat_Int, Nat.reduceAdd, Nat.reduceSub, Nat.reduceMul, reduceCtorEq, reduceIte, Nat.reduceEqDiff, Nat.reduceLT, Nat.reduceLeDiff, Nat.reduceBEq, Int.reduceToNat, Int.reduceLE, Int.reduceLT, lpts_len]); (try simp (disch := omega) only [wrap_in, wk_self, Int.tdiv_eq_ediv_of_nonneg, Int.tmod_eq_emod_of_nonneg]); (repeat (with_reducible refine And.intro ?_ ?_; · first | omega | decide | (simp; done) | (simp; omega) | (intro hh; refine ⟨hh, ?_⟩; omega) | (simp +contextual; done)))))
            refine cond_i (fun h6 => ?_) (fun h6 => ?_)
            · (try simp only [decide_eq_true_eq, decide_eq_false_iff_not, Bool.not_eq_true', Bool.not_eq_false', Bool.or_eq_true, Bool.and_eq_true, Bool.or_eq_false_iff, Bool.and_eq_false_iff, Int.not_lt, Int.not_le, Bool.not_true, Bool.not_false, not_and, not_or] at h6)
              rw [ho] at h6
              have e1 : (lpt a sx sy X Y k).y + sy = (lpt a sx sy X Y (k + 1)).y := by rw [ST]; simp only; rw [if_pos (by omega)]
              (iterate 2 ((try simp (etaStruct := .none) only [push_cast, DrawG, Int.cast_ofNat_Int, Nat.reduceAdd, Nat.reduceSub, Nat.reduceMul, reduceCtorEq, reduceIte, Nat.reduceEqDiff, Nat.reduceLT, Nat.reduceLeDiff, Nat.reduceBEq, Int.reduceToNat, Int.reduceLE, Int.reduceLT, lpts_len, e1]); (try simp (disch := omega) only [wrap_in, wk_self, Int.tdiv_eq_ediv_of_nonneg, Int.tmod_eq_emod_of_nonneg]); (repeat (with_reducible refine And.intro ?_ ?_; · first | omega | decide | (simp; done) | (simp; omega) | (intro hh; refine ⟨hh, ?_⟩; omega) | (simp +contextual; done)))))
              refine ⟨k + 1, by omega, by omega, To.mk [0, 3] rfl rfl (by decide) ?_ ?_⟩
              · (iterate 2 ((try simp (etaStruct := .none) only [push_cast, DrawG, Int.cast_ofNat_Int, Nat.reduceAdd, Nat.reduceSub, Nat.reduceMul, reduceCtorEq, reduceIte, Nat.reduceEqDiff, Nat.reduceLT, Nat.reduceLeDiff, Nat.reduceBEq, Int.reduceToNat, Int.reduceLE, Int.reduceLT, lpts_snoc, List.map_append, celP]); (try simp (disch := omega) only [wrap_in, wk_self, Int.tdiv_eq_ediv_of_nonneg, Int.tmod_eq_emod_of_nonneg]); (repeat (with_reducible refine And.intro ?_ ?_; · first | omega | decide | (simp; done) | (simp; omega) | (intro hh; refine ⟨hh, ?_⟩; omega) | (simp +contextual; done)))))
              · (iterate 2 ((try simp (etaStruct := .none) only [push_cast, DrawG, Int.cast_ofNat_Int, Nat.reduceAdd, Nat.reduceSub, Nat.reduceMul, reduceCtorEq, reduceIte, Nat.reduceEqDiff, Nat.reduceLT, Nat.reduceLeDiff, Nat.reduceBEq, Int.reduceToNat, Int.reduceLE, Int.reduceLT, lpts_len, e1]); (try simp (disch := omega) only [wrap_in, wk_self, Int.tdiv_eq_ediv_of_nonneg, Int.tmod_eq_emod_of_nonneg]); (repeat (with_reducible refine And.intro ?_ ?_; · first | omega | decide | (simp; done) | (simp; omega) | (intro hh; refine ⟨hh, ?_⟩; omega) | (simp +contextual; done)))))
            · (try simp only [decide_eq_true_eq, decide_eq_false_iff_not, Bool.not_eq_true', Bool.not_eq_false', Bool.or_eq_true, Bool.and_eq_true, Bool.or_eq_false_iff, Bool.and_eq_false_iff, Int.not_lt, Int.not_le, Bool.not_true, Bool.not_false, not_and, not_or] at h6)
              rw [Bool.eq_false_iff, ne_eq, ho] at h6
              have e1 : (lpt a sx sy X Y k).y = (lpt a sx sy X Y (k + 1)).y := by rw [ST]; simp only; rw [if_neg (by omega)]
              (iterate 2 ((try simp (etaStruct := .none) only [push_cast, DrawG, Int.cast_ofNat_Int, Nat.reduceAdd, Nat.reduceSub, Nat.reduceMul, reduceCtorEq, reduceIte, Nat.reduceEqDiff, Nat.reduceLT, Nat.reduceLeDiff, Nat.reduceBEq, Int.reduceToNat, Int.reduceLE, Int.reduceLT, lpts_len]); (try simp (disch := omega) only [wrap_in, wk_self, Int.tdiv_eq_ediv_of_nonneg, Int.tmod_eq_emod_of_nonneg]); (repeat (with_reducible refine And.intro ?_ ?_; · first | omega | decide | (simp; done) | (simp; omega) | (intro hh; refine ⟨hh, ?_⟩; omega) | (simp +contextual; done)))))
              refine ⟨k + 1, by omega, by omega, To.mk [0, 3] rfl rfl (by decide) ?_ ?_⟩
              · (iterate 2 ((try simp (etaStruct := .none) only [push_cast, DrawG, Int.cast_ofNat_Int, Nat.reduceAdd, Nat.reduceSub, Nat.reduceMul, reduceCtorEq, reduceIte, Nat.reduceEqDiff, Nat.reduceLT, Nat.reduceLeDiff, Nat.reduceBEq, Int.reduceToNat, Int.reduceLE, Int.reduceLT, lpts_snoc, List.map_append, celP]); (try simp (disch := omega) only [wrap_in, wk_self, Int.tdiv_eq_ediv_of_nonneg, Int.tmod_eq_emod_of_nonneg]); (repeat (with_reducible refine And.intro ?_ ?_; · first | omega | decide | (simp; done) | (simp; omega) | (intro hh; refine ⟨hh, ?_⟩; omega) | (simp +contextual; done)))))
                rw [← e1]
                exact ⟨Wk.refl _, rfl⟩
              · (iterate 2 ((try simp (etaStruct := .none) only [push_cast, DrawG, Int.cast_ofNat_Int, Nat.reduceAdd, Nat.reduceSub, Nat.reduceMul, reduceCtorEq, reduceIte, Nat.reduceEqDiff, Nat.reduceLT, Nat.reduceLeDiff, Nat.reduceBEq, Int.reduceToNat, Int.reduceLE, Int.reduceLT, lpts_len]); (try simp (disch := omega) only [wrap_in, wk_self, Int.tdiv_eq_ediv_of_nonneg, Int.tmod_eq_emod_of_nonneg]); (repeat (with_reducible refine And.intro ?_ ?_; · first | omega | decide | (simp; done) | (simp; omega) | (intro hh; refine ⟨hh, ?_⟩; omega) | (simp +contextual; done)))))
      · (try simp only [decide_eq_true_eq, decide_eq_false_iff_not, Bool.not_eq_true', Bool.not_eq_false', Bool.or_eq_true, Bool.and_eq_true, Bool.or_eq_false_iff, Bool.and_eq_false_iff, Int.not_lt, Int.not_le, Bool.not_true, Bool.not_false, not_and, not_or] at h3)
        obtain rfl : k = L := by omega
        (iterate 2 ((try simp (etaStruct := .none) only [push_cast, DrawG, Int.cast_ofNat_Int, Nat.reduceAdd, Nat.reduceSub, Nat.reduceMul, reduceCtorEq, reduceIte, Nat.reduceEqDiff, Nat.reduceLT, Nat.reduceLeDiff, Nat.reduceBEq, Int.reduceToNat, Int.reduceLE, Int.reduceLT, lpts_len]); (try simp (disch := omega) only [wrap_in, wk_self, Int.tdiv_eq_ediv_of_nonneg, Int.tmod_eq_emod_of_nonneg]); (repeat (with_reducible refine And.intro ?_ ?_; · first | omega | decide | (simp; done) | (simp; omega) | (intro hh; refine ⟨hh, ?_⟩; omega) | (simp +contextual; done)))))
        (first | (refine ret0 rfl (by repeat' (first | exact trivial | exact rfl | refine ⟨?_, ?_⟩)) (Wk.of ?_); (try simp (etaStruct := .none) only [push_cast, DrawG, Int.cast_ofNat_Int, Nat.reduceAdd, Nat.reduceSub, Nat.reduceMul, reduceCtorEq, reduceIte, Nat.reduceEqDiff, Nat.reduceLT, Nat.reduceLeDiff, Nat.reduceBEq, Int.reduceToNat, Int.reduceLE, Int.reduceLT]); first | done | (simp [*]; done) | (simp_all []; done)) | (refine ret0 rfl (by repeat' (first | exact trivial | exact rfl | refine ⟨?_, ?_⟩)) ?_; (try simp (etaStruct := .none) only [push_cast, DrawG, Int.cast_ofNat_Int, Nat.reduceAdd, Nat.reduceSub, Nat.reduceMul, reduceCtorEq, reduceIte, Nat.reduceEqDiff, Nat.reduceLT, Nat.reduceLeDiff, Nat.reduceBEq, Int.reduceToNat, Int.reduceLE, Int.reduceLT]); (try simp [*]); (try (first | exact Wk.refl _ | exact Wk.nil _ | (refine Wk.tup ?_; repeat' (first | exact trivial | exact Wk.refl _ | exact Wk.nil _ | refine ⟨?_, ?_⟩ | (refine Wk.agg ?_)))))))
theorem lineOf_s (a b : Cel) (ha : nearB a = true) (hb : nearB b = true) (hm : max (b.x - a.x).natAbs (b.y - a.y).natAbs ≤ 120) : Spec Try.prog 242 [celA a, celA b] [] (.c (.sl 2 ((lineV a b).map celP))) [] := by
  have hx := nearB_true ha
  have hy := nearB_true hb
  obtain ⟨sx, hsx⟩ : ∃ s, s = (b.x - a.x).sign := ⟨_, rfl⟩
  obtain ⟨sy, hsy⟩ : ∃ s, s = (b.y - a.y).sign := ⟨_, rfl⟩
  obtain ⟨X, hX⟩ : ∃ s, s = (b.x - a.x).natAbs := ⟨_, rfl⟩
  obtain ⟨Y, hY⟩ : ∃ s, s = (b.y - a.y).natAbs := ⟨_, rfl⟩
  have F1 := far_s a.x b.x (by omega) (by omega)
  have F2 := far_s a.y b.y (by omega) (by omega)
  rw [show (a.x - b.x).natAbs = X by omega] at F1
  rw [show (a.y - b.y).natAbs = Y by omega] at F2
  unfold lineV
  rw [← hsx, ← hsy, ← hX, ← hY]
  rw [← hX, ← hY] at hm
  have EM : (if (Y : Int) > X then (Y : Int) else X) = (max X Y : Nat) := by split <;> omega
  have gx := sg (b.x - a.x)
  have gy := sg (b.y - a.y)
  rw [← hsx] at gx
  rw [← hsy] at gy
  refine spec_am Try.func242 rfl rfl mix 80 rfl [.tmp 4] Try.results242 (Nat.le_of_ble_eq_true rfl) ?_
  (iterate 2 ((try simp (etaStruct := .none) only [push_cast, DrawG, Int.cast_ofNat_Int, Nat.reduceAdd, Nat.reduceSub, Nat.reduceMul, reduceCtorEq, reduceIte, Nat.reduceEqDiff, Nat.reduceLT, Nat.reduceLeDiff, Nat.reduceBEq, Int.reduceToNat, Int.reduceLE, Int.reduceLT, EM, lpts_len]); (try simp (disch := omega) only [wrap_in, wk_self, Int.tdiv_eq_ediv_of_nonneg, Int.tmod_eq_emod_of_nonneg]); (repeat (with_reducible refine And.intro ?_ ?_; · first | omega | decide | (simp; done) | (simp; omega) | (intro hh; refine ⟨hh, ?_⟩; omega) | (simp +contextual; done)))))
  refine callP (F1) (WkL.refl _) ?_
  (iterate 2 ((try simp (etaStruct := .none) only [push_cast, DrawG, Int.cast_ofNat_Int, Nat.reduceAdd, Nat.reduceSub, Nat.reduceMul, reduceCtorEq, reduceIte, Nat.reduceEqDiff, Nat.reduceLT, Nat.reduceLeDiff, Nat.reduceBEq, Int.reduceToNat, Int.reduceLE, Int.reduceLT, EM, lpts_len]); (try simp (disch := omega) only [wrap_in, wk_self, Int.tdiv_eq_ediv_of_nonneg, Int.tmod_eq_emod_of_nonneg]); (repeat (with_reducible refine And.intro ?_ ?_; · first | omega | decide | (simp; done) | (simp; omega) | (intro hh; refine ⟨hh, ?_⟩; omega) | (simp +contextual; done)))))
  refine callP (F2) (WkL.refl _) ?_
  (iterate 2 ((try simp (etaStruct := .none) only [push_cast, DrawG, Int.cast_ofNat_Int, Nat.reduceAdd, Nat.reduceSub, Nat.reduceMul, reduceCtorEq, reduceIte, Nat.reduceEqDiff, Nat.reduceLT, Nat.reduceLeDiff, Nat.reduceBEq, Int.reduceToNat, Int.reduceLE, Int.reduceLT, EM, lpts_len]); (try simp (disch := omega) only [wrap_in, wk_self, Int.tdiv_eq_ediv_of_nonneg, Int.tmod_eq_emod_of_nonneg]); (repeat (with_reducible refine And.intro ?_ ?_; · first | omega | decide | (simp; done) | (simp; omega) | (intro hh; refine ⟨hh, ?_⟩; omega) | (simp +contextual; done)))))
  (try (refine ⟨by kernel_rfl, ?_⟩))
  (iterate 2 ((try simp (etaStruct := .none) only [push_cast, DrawG, Int.cast_ofNat_Int, Nat.reduceAdd, Nat.reduceSub, Nat.reduceMul, reduceCtorEq, reduceIte, Nat.reduceEqDiff, Nat.reduceLT, Nat.reduceLeDiff, Nat.reduceBEq, Int.reduceToNat, Int.reduceLE, Int.reduceLT, EM, lpts_len]); (try simp (disch := omega) only [wrap_in, wk_self, Int.tdiv_eq_ediv_of_nonneg, Int.tmod_eq_emod_of_nonneg]); (repeat (with_reducible refine And.intro ?_ ?_; · first | omega | decide | (simp; done) | (simp; omega) | (intro hh; refine ⟨hh, ?_⟩; omega) | (simp +contextual; done)))))
  refine loopI (fun k : Nat => ⟨[(8, I .i64 ((k : Int) + 1)), (7, .own 2), (6, I .i64 Y), (5, I .i64 X), (3, .ptr 1 0 0), (2, .ptr 0 0 0)], [(0, .blk 25 [I .i64 a.x, I .i64 a.y]), (1, .blk 25 [I .i64 b.x, I .i64 b.y]), (2, .row 25 2 ((lpts a sx sy X Y k).map celP))], 3⟩) (fun k : Nat => k ≤ max X Y) (fun k : Nat => max X Y - k) (0) (Nat.zero_le _) (To.mk [0, 1, 50] rfl rfl (by decide) ?_ ?_) ?_
  · simp (etaStruct := .none) only [push_cast, DrawG, Int.cast_ofNat_Int, Nat.reduceAdd, Nat.reduceSub, Nat.reduceMul, reduceCtorEq, reduceIte, Nat.reduceEqDiff, Nat.reduceLT, Nat.reduceLeDiff, Nat.reduceBEq, Int.reduceToNat, Int.reduceLE, Int.reduceLT, lpts_zero, celP]
  · simp (etaStruct := .none) only [push_cast, DrawG, Int.cast_ofNat_Int, Nat.reduceAdd, Nat.reduceSub, Nat.reduceMul, reduceCtorEq, reduceIte, Nat.reduceEqDiff, Nat.reduceLT, Nat.reduceLeDiff, Nat.reduceBEq, Int.reduceToNat, Int.reduceLE, Int.reduceLT, Int.zero_add]
  rintro k hk
  (iterate 2 ((try simp (etaStruct := .none) only [push_cast, DrawG, Int.cast_ofNat_Int, Nat.reduceAdd, Nat.reduceSub, Nat.reduceMul, reduceCtorEq, reduceIte, Nat.reduceEqDiff, Nat.reduceLT, Nat.reduceLeDiff, Nat.reduceBEq, Int.reduceToNat, Int.reduceLE, Int.reduceLT, EM, lpts_len]); (try simp (disch := omega) only [wrap_in, wk_self, Int.tdiv_eq_ediv_of_nonneg, Int.tmod_eq_emod_of_nonneg]); (repeat (with_reducible refine And.intro ?_ ?_; · first | omega | decide | (simp; done) | (simp; omega) | (intro hh; refine ⟨hh, ?_⟩; omega) | (simp +contextual; done)))))
  refine cond_i (fun h1 => ?_) (fun h1 => ?_)
  · (try simp only [decide_eq_true_eq, decide_eq_false_iff_not, Bool.not_eq_true', Bool.not_eq_false', Bool.or_eq_true, Bool.and_eq_true, Bool.or_eq_false_iff, Bool.and_eq_false_iff, Int.not_lt, Int.not_le, Bool.not_true, Bool.not_false, not_and, not_or] at h1)
    have hlt : k < max X Y := by omega
    have m1 := mul_bound (k + 1) (b.x - a.x) 120 2000 (by omega) (by omega)
    have m2 := mul_bound (k + 1) (b.y - a.y) 120 2000 (by omega) (by omega)
    simp only [Int.natCast_add, Int.cast_ofNat_Int, Int.natCast_one] at m1 m2
    (iterate 2 ((try simp (etaStruct := .none) only [push_cast, DrawG, Int.cast_ofNat_Int, Nat.reduceAdd, Nat.reduceSub, Nat.reduceMul, reduceCtorEq, reduceIte, Nat.reduceEqDiff, Nat.reduceLT, Nat.reduceLeDiff, Nat.reduceBEq, Int.reduceToNat, Int.reduceLE, Int.reduceLT, EM, lpts_len]); (try simp (disch := omega) only [wrap_in, wk_self, Int.tdiv_eq_ediv_of_nonneg, Int.tmod_eq_emod_of_nonneg]); (repeat (with_reducible refine And.intro ?_ ?_; · first | omega | decide | (simp; done) | (simp; omega) | (intro hh; refine ⟨hh, ?_⟩; omega) | (simp +contextual; done)))))
    refine cond_i (fun h2 => ?_) (fun h2 => ?_)
    · (try simp only [decide_eq_true_eq, decide_eq_false_iff_not, Bool.not_eq_true', Bool.not_eq_false', Bool.or_eq_true, Bool.and_eq_true, Bool.or_eq_false_iff, Bool.and_eq_false_iff, Int.not_lt, Int.not_le, Bool.not_true, Bool.not_false, not_and, not_or] at h2)
      have t1 := tdiv_step (k + 1) X (b.x - a.x) sx hsx.symm hX.symm (by omega)
      obtain ⟨s', a1, a2, a3⟩ := aside_sign X Y (k + 1) a.y b.y sy hsy.symm hY.symm
      have q1 := lq_le X Y (k + 1) (by omega) (by omega)
      have AS := aside_s X Y (k + 1) a.y b.y s' (by omega) (by omega) (by omega) (by omega) a1 a2 (by omega) (by omega)
      rw [a3] at AS
      have LE : lpt a sx sy X Y (k + 1) = ⟨a.x + sx * (k + 1 : Nat), a.y + sy * lq X Y (k + 1)⟩ := by unfold lpt; rw [if_pos (by omega)]
      have q3 : -120 ≤ sx * ((k : Int) + 1) ∧ sx * ((k : Int) + 1) ≤ 120 := by rcases gx with h | h | h <;> rw [h] <;> omega
      simp only [Int.natCast_add, Int.cast_ofNat_Int, Int.natCast_one] at t1 LE AS
      (iterate 2 ((try simp (etaStruct := .none) only [push_cast, DrawG, Int.cast_ofNat_Int, Nat.reduceAdd, Nat.reduceSub, Nat.reduceMul, reduceCtorEq, reduceIte, Nat.reduceEqDiff, Nat.reduceLT, Nat.reduceLeDiff, Nat.reduceBEq, Int.reduceToNat, Int.reduceLE, Int.reduceLT, EM, lpts_len, t1]); (try simp (disch := omega) only [wrap_in, wk_self, Int.tdiv_eq_ediv_of_nonneg, Int.tmod_eq_emod_of_nonneg]); (repeat (with_reducible refine And.intro ?_ ?_; · first | omega | decide | (simp; done) | (simp; omega) | (intro hh; refine ⟨hh, ?_⟩; omega) | (simp +contextual; done)))))
      (try (refine ⟨by kernel_rfl, ?_⟩))
      (iterate 2 ((try simp (etaStruct := .none) only [push_cast, DrawG, Int.cast_ofNat_Int, Nat.reduceAdd, Nat.reduceSub, Nat.reduceMul, reduceCtorEq, reduceIte, Nat.reduceEqDiff, Nat.reduceLT, Nat.reduceLeDiff, Nat.reduceBEq, Int.reduceToNat, Int.reduceLE, Int.reduceLT, EM, lpts_len, t1]); (try simp (disch := omega) only [wrap_in, wk_self, Int.tdiv_eq_ediv_of_nonneg, Int.tmod_eq_emod_of_nonneg]); (repeat (with_reducible refine And.intro ?_ ?_; · first | omega | decide | (simp; done) | (simp; omega) | (intro hh; refine ⟨hh, ?_⟩; omega) | (simp +contextual; done)))))
      refine callP (AS) (WkL.refl _) ?_
      (iterate 2 ((try simp (etaStruct := .none) only [push_cast, DrawG, Int.cast_ofNat_Int, Nat.reduceAdd, Nat.reduceSub, Nat.reduceMul, reduceCtorEq, reduceIte, Nat.reduceEqDiff, Nat.reduceLT, Nat.reduceLeDiff, Nat.reduceBEq, Int.reduceToNat, Int.reduceLE, Int.reduceLT, EM, lpts_len, t1]); (try simp (disch := omega) only [wrap_in, wk_self, Int.tdiv_eq_ediv_of_nonneg, Int.tmod_eq_emod_of_nonneg]); (repeat (with_reducible refine And.intro ?_ ?_; · first | omega | decide | (simp; done) | (simp; omega) | (intro hh; refine ⟨hh, ?_⟩; omega) | (simp +contextual; done)))))
      refine ⟨k + 1, by omega, by omega, To.mk [0, 1, 61] rfl rfl (by decide) ?_ ?_⟩
      · (iterate 2 ((try simp (etaStruct := .none) only [push_cast, DrawG, Int.cast_ofNat_Int, Nat.reduceAdd, Nat.reduceSub, Nat.reduceMul, reduceCtorEq, reduceIte, Nat.reduceEqDiff, Nat.reduceLT, Nat.reduceLeDiff, Nat.reduceBEq, Int.reduceToNat, Int.reduceLE, Int.reduceLT, lpts_snoc, List.map_append, celP, LE]); (try simp (disch := omega) only [wrap_in, wk_self, Int.tdiv_eq_ediv_of_nonneg, Int.tmod_eq_emod_of_nonneg]); (repeat (with_reducible refine And.intro ?_ ?_; · first | omega | decide | (simp; done) | (simp; omega) | (intro hh; refine ⟨hh, ?_⟩; omega) | (simp +contextual; done)))))
      · (iterate 2 ((try simp (etaStruct := .none) only [push_cast, DrawG, Int.cast_ofNat_Int, Nat.reduceAdd, Nat.reduceSub, Nat.reduceMul, reduceCtorEq, reduceIte, Nat.reduceEqDiff, Nat.reduceLT, Nat.reduceLeDiff, Nat.reduceBEq, Int.reduceToNat, Int.reduceLE, Int.reduceLT, EM, lpts_len, t1]); (try simp (disch := omega) only [wrap_in, wk_self, Int.tdiv_eq_ediv_of_nonneg, Int.tmod_eq_emod_of_nonneg]); (repeat (with_reducible refine And.intro ?_ ?_; · first | omega | decide | (simp; done) | (simp; omega) | (intro hh; refine ⟨hh, ?_⟩; omega) | (simp +contextual; done)))))
    · (try simp only [decide_eq_true_eq, decide_eq_false_iff_not, Bool.not_eq_true', Bool.not_eq_false', Bool.or_eq_true, Bool.and_eq_true, Bool.or_eq_false_iff, Bool.and_eq_false_iff, Int.not_lt, Int.not_le, Bool.not_true, Bool.not_false, not_and, not_or] at h2)
      have t1 := tdiv_step (k + 1) Y (b.y - a.y) sy hsy.symm hY.symm (by omega)
      obtain ⟨s', a1, a2, a3⟩ := aside_sign Y X (k + 1) a.x b.x sx hsx.symm hX.symm
      have q1 := lq_le Y X (k + 1) (by omega) (by omega)
      have AS := aside_s Y X (k + 1) a.x b.x s' (by omega) (by omega) (by omega) (by omega) a1 a2 (by omega) (by omega)
      rw [a3] at AS
      have LE : lpt a sx sy X Y (k + 1) = ⟨a.x + sx * lq Y X (k + 1), a.y + sy * (k + 1 : Nat)⟩ := by unfold lpt; rw [if_neg (by omega)]
      have q3 : -120 ≤ sy * ((k : Int) + 1) ∧ sy * ((k : Int) + 1) ≤ 120 := by rcases gy with h | h | h <;> rw [h] <;> omega
      simp only [Int.natCast_add, Int.cast_ofNat_Int, Int.natCast_one] at t1 LE AS
      (iterate 2 ((try simp (etaStruct := .none) only [push_cast, DrawG, Int.cast_ofNat_Int, Nat.reduceAdd, Nat.reduceSub, Nat.reduceMul, reduceCtorEq, reduceIte, Nat.reduceEqDiff, Nat.reduceLT, Nat.reduceLeDiff, Nat.reduceBEq, Int.reduceToNat, Int.reduceLE, Int.reduceLT, EM, lpts_len, t1]); (try simp (disch := omega) only [wrap_in, wk_self, Int.tdiv_eq_ediv_of_nonneg, Int.tmod_eq_emod_of_nonneg]); (repeat (with_reducible refine And.intro ?_ ?_; · first | omega | decide | (simp; done) | (simp; omega) | (intro hh; refine ⟨hh, ?_⟩; omega) | (simp +contextual; done)))))
      (try (refine ⟨by kernel_rfl, ?_⟩))
      (iterate 2 ((try simp (etaStruct := .none) only [push_cast, DrawG, Int.cast_ofNat_Int, Nat.reduceAdd, Nat.reduceSub, Nat.reduceMul, reduceCtorEq, reduceIte, Nat.reduceEqDiff, Nat.reduceLT, Nat.reduceLeDiff, Nat.reduceBEq, Int.reduceToNat, Int.reduceLE, Int.reduceLT, EM, lpts_len, t1]); (try simp (disch := omega) only [wrap_in, wk_self, Int.tdiv_eq_ediv_of_nonneg, Int.tmod_eq_emod_of_nonneg]); (repeat (with_reducible refine And.intro ?_ ?_; · first | omega | decide | (simp; done) | (simp; omega) | (intro hh; refine ⟨hh, ?_⟩; omega) | (simp +contextual; done)))))
      refine callP (AS) (WkL.refl _) ?_
      (iterate 2 ((try simp (etaStruct := .none) only [push_cast, DrawG, Int.cast_ofNat_Int, Nat.reduceAdd, Nat.reduceSub, Nat.reduceMul, reduceCtorEq, reduceIte, Nat.reduceEqDiff, Nat.reduceLT, Nat.reduceLeDiff, Nat.reduceBEq, Int.reduceToNat, Int.reduceLE, Int.reduceLT, EM, lpts_len, t1]); (try simp (disch := omega) only [wrap_in, wk_self, Int.tdiv_eq_ediv_of_nonneg, Int.tmod_eq_emod_of_nonneg]); (repeat (with_reducible refine And.intro ?_ ?_; · first | omega | decide | (simp; done) | (simp; omega) | (intro hh; refine ⟨hh, ?_⟩; omega) | (simp +contextual; done)))))
      refine ⟨k + 1, by omega, by omega, To.mk [0, 1, 61] rfl rfl (by decide) ?_ ?_⟩
      · (iterate 2 ((try simp (etaStruct := .none) only [push_cast, DrawG, Int.cast_ofNat_Int, Nat.reduceAdd, Nat.reduceSub, Nat.reduceMul, reduceCtorEq, reduceIte, Nat.reduceEqDiff, Nat.reduceLT, Nat.reduceLeDiff, Nat.reduceBEq, Int.reduceToNat, Int.reduceLE, Int.reduceLT, lpts_snoc, List.map_append, celP, LE]); (try simp (disch := omega) only [wrap_in, wk_self, Int.tdiv_eq_ediv_of_nonneg, Int.tmod_eq_emod_of_nonneg]); (repeat (with_reducible refine And.intro ?_ ?_; · first | omega | decide | (simp; done) | (simp; omega) | (intro hh; refine ⟨hh, ?_⟩; omega) | (simp +contextual; done)))))
      · (iterate 2 ((try simp (etaStruct := .none) only [push_cast, DrawG, Int.cast_ofNat_Int, Nat.reduceAdd, Nat.reduceSub, Nat.reduceMul, reduceCtorEq, reduceIte, Nat.reduceEqDiff, Nat.reduceLT, Nat.reduceLeDiff, Nat.reduceBEq, Int.reduceToNat, Int.reduceLE, Int.reduceLT, EM, lpts_len, t1]); (try simp (disch := omega) only [wrap_in, wk_self, Int.tdiv_eq_ediv_of_nonneg, Int.tmod_eq_emod_of_nonneg]); (repeat (with_reducible refine And.intro ?_ ?_; · first | omega | decide | (simp; done) | (simp; omega) | (intro hh; refine ⟨hh, ?_⟩; omega) | (simp +contextual; done)))))
  · (try simp only [decide_eq_true_eq, decide_eq_false_iff_not, Bool.not_eq_true', Bool.not_eq_false', Bool.or_eq_true, Bool.and_eq_true, Bool.or_eq_false_iff, Bool.and_eq_false_iff, Int.not_lt, Int.not_le, Bool.not_true, Bool.not_false, not_and, not_or] at h1)
    obtain rfl : k = max X Y := by omega
    (iterate 2 ((try simp (etaStruct := .none) only [push_cast, DrawG, Int.cast_ofNat_Int, Nat.reduceAdd, Nat.reduceSub, Nat.reduceMul, reduceCtorEq, reduceIte, Nat.reduceEqDiff, Nat.reduceLT, Nat.reduceLeDiff, Nat.reduceBEq, Int.reduceToNat, Int.reduceLE, Int.reduceLT, EM, lpts_len]); (try simp (disch := omega) only [wrap_in, wk_self, Int.tdiv_eq_ediv_of_nonneg, Int.tmod_eq_emod_of_nonneg]); (repeat (with_reducible refine And.intro ?_ ?_; · first | omega | decide | (simp; done) | (simp; omega) | (intro hh; refine ⟨hh, ?_⟩; omega) | (simp +contextual; done)))))
    (first | (refine ret0 rfl (by repeat' (first | exact trivial | exact rfl | refine ⟨?_, ?_⟩)) (Wk.of ?_); (try simp (etaStruct := .none) only [push_cast, DrawG, Int.cast_ofNat_Int, Nat.reduceAdd, Nat.reduceSub, Nat.reduceMul, reduceCtorEq, reduceIte, Nat.reduceEqDiff, Nat.reduceLT, Nat.reduceLeDiff, Nat.reduceBEq, Int.reduceToNat, Int.reduceLE, Int.reduceLT]); first | done | (simp [*]; done) | (simp_all []; done)) | (refine ret0 rfl (by repeat' (first | exact trivial | exact rfl | refine ⟨?_, ?_⟩)) ?_; (try simp (etaStruct := .none) only [push_cast, DrawG, Int.cast_ofNat_Int, Nat.reduceAdd, Nat.reduceSub, Nat.reduceMul, reduceCtorEq, reduceIte, Nat.reduceEqDiff, Nat.reduceLT, Nat.reduceLeDiff, Nat.reduceBEq, Int.reduceToNat, Int.reduceLE, Int.reduceLT]); (try simp [*]); (try (first | exact Wk.refl _ | exact Wk.nil _ | (refine Wk.tup ?_; repeat' (first | exact trivial | exact Wk.refl _ | exact Wk.nil _ | refine ⟨?_, ?_⟩ | (refine Wk.agg ?_)))))))
end Go.Proofs.Ytehcnnodkhcgfaa
namespace Go.Proofs.Ytehcnnodkhcgfaa
set_option linter.all false
open Go.RowKit
theorem lq_top (n m : Nat) (hn : 0 < n) (_ : m ≤ n) : lq n m n = m := by
  unfold lq
  rw [show 2 * n * m + n = n + 2 * n * m by omega, Nat.add_mul_div_left _ _ (by omega), Nat.div_eq_of_lt (by omega)]; omega
theorem sgn_mul (d : Int) (n : Nat) (h : n = d.natAbs) : d.sign * n = d := by rw [h]; exact Int.sign_mul_natAbs d
theorem way_in (d : Int) (q : Nat) (hq : q ≤ d.natAbs) (f : Int) : min f (f + d) ≤ f + d.sign * q ∧ f + d.sign * q ≤ max f (f + d) := by
  rcases Int.lt_trichotomy d 0 with h | h | h
  · rw [Int.sign_eq_neg_one_of_neg h]; omega
  · subst h; simp
  · rw [Int.sign_eq_one_of_pos h]; omega
theorem lpt_box (a b : Cel) (k : Nat) (hk : k ≤ max (b.x - a.x).natAbs (b.y - a.y).natAbs) :
    (min a.x b.x ≤ (lpt a (b.x - a.x).sign (b.y - a.y).sign (b.x - a.x).natAbs (b.y - a.y).natAbs k).x ∧ (lpt a (b.x - a.x).sign (b.y - a.y).sign (b.x - a.x).natAbs (b.y - a.y).natAbs k).x ≤ max a.x b.x) ∧
    (min a.y b.y ≤ (lpt a (b.x - a.x).sign (b.y - a.y).sign (b.x - a.x).natAbs (b.y - a.y).natAbs k).y ∧ (lpt a (b.x - a.x).sign (b.y - a.y).sign (b.x - a.x).natAbs (b.y - a.y).natAbs k).y ≤ max a.y b.y) := by
  have ex : a.x + (b.x - a.x) = b.x := by omega
  have ey : a.y + (b.y - a.y) = b.y := by omega
  unfold lpt
  split
  · rename_i h
    have hq : lq (b.x - a.x).natAbs (b.y - a.y).natAbs k ≤ (b.y - a.y).natAbs := by
      rcases Nat.eq_zero_or_pos (b.x - a.x).natAbs with h0 | h0
      · have : k = 0 := by omega
        subst this; rw [lq_zero]; omega
      · exact lq_le _ _ _ h0 (by omega)
    have w1 := way_in (b.x - a.x) k (by omega) a.x
    have w2 := way_in (b.y - a.y) _ hq a.y
    rw [ex] at w1; rw [ey] at w2
    exact ⟨w1, w2⟩
  · rename_i h
    have hq : lq (b.y - a.y).natAbs (b.x - a.x).natAbs k ≤ (b.x - a.x).natAbs := lq_le _ _ _ (by omega) (by omega)
    have w1 := way_in (b.y - a.y) k (by omega) a.y
    have w2 := way_in (b.x - a.x) _ hq a.x
    rw [ey] at w1; rw [ex] at w2
    exact ⟨w2, w1⟩
theorem lpt_last (a b : Cel) : lpt a (b.x - a.x).sign (b.y - a.y).sign (b.x - a.x).natAbs (b.y - a.y).natAbs (max (b.x - a.x).natAbs (b.y - a.y).natAbs) = b := by
  obtain ⟨bx, by_⟩ := b
  unfold lpt
  split
  · rename_i h
    simp only at h ⊢
    rw [Nat.max_eq_left h, sgn_mul _ _ rfl]
    rcases Nat.eq_zero_or_pos (bx - a.x).natAbs with h0 | h0
    · rw [h0, lq_zero]; congr 1; omega; simp; omega
    · rw [lq_top _ _ h0 h, sgn_mul _ _ rfl]; congr 1 <;> omega
  · rename_i h
    simp only at h ⊢
    rw [Nat.max_eq_right (by omega), sgn_mul _ _ rfl, lq_top _ _ (by omega) (by omega), sgn_mul _ _ rfl]; congr 1 <;> omega
theorem sgn_ne {d : Int} {k : Nat} (h1 : 0 < k) (h2 : k < d.natAbs) : d.sign * k ≠ 0 ∧ d.sign * k ≠ d := by
  rcases Int.lt_trichotomy d 0 with h | h | h
  · rw [Int.sign_eq_neg_one_of_neg h]; omega
  · subst h; simp at h2
  · rw [Int.sign_eq_one_of_pos h]; omega
theorem lpt_mid (a b : Cel) (k : Nat) (h0 : 0 < k) (hk : k < max (b.x - a.x).natAbs (b.y - a.y).natAbs) :
    lpt a (b.x - a.x).sign (b.y - a.y).sign (b.x - a.x).natAbs (b.y - a.y).natAbs k ≠ a ∧ lpt a (b.x - a.x).sign (b.y - a.y).sign (b.x - a.x).natAbs (b.y - a.y).natAbs k ≠ b := by
  have key : ∀ p : Cel, (p.x ≠ a.x ∧ p.x ≠ b.x ∨ p.y ≠ a.y ∧ p.y ≠ b.y) → p ≠ a ∧ p ≠ b := by
    intro p h
    constructor
    · intro e; subst e; omega
    · intro e; subst e; omega
  apply key
  unfold lpt
  split
  · have := sgn_ne (d := b.x - a.x) h0 (by omega)
    simp only; omega
  · have := sgn_ne (d := b.y - a.y) h0 (by omega)
    simp only; omega
theorem lineV_at (a b : Cel) (k : Nat) (hk : k ≤ max (b.x - a.x).natAbs (b.y - a.y).natAbs) : (lineV a b).getD k default = lpt a (b.x - a.x).sign (b.y - a.y).sign (b.x - a.x).natAbs (b.y - a.y).natAbs k := by
  rw [getD_at _ _ (by rw [lineV_len]; omega)]
  simp [lineV, lpts]
theorem inF_near {f : Fld} {c : Cel} (h : fldE f = 0) (hc : inF f c = true) : nearB c = true := by
  obtain ⟨h1, h2, _, _⟩ := fldE_ok h
  obtain ⟨h3, h4⟩ := inF_iff.1 hc
  unfold nearB; simp; omega
theorem line_in {f : Fld} {a b : Cel} (ha : inF f a = true) (hb : inF f b = true) (k : Nat) (hk : k ≤ max (b.x - a.x).natAbs (b.y - a.y).natAbs) : inF f ((lineV a b).getD k default) = true := by
  rw [lineV_at a b k hk]
  have := lpt_box a b k hk
  rw [inF_iff] at ha hb ⊢
  omega
theorem line_far {f : Fld} {a b : Cel} (h : fldE f = 0) (ha : inF f a = true) (hb : inF f b = true) : (b.x - a.x).natAbs ≤ 39 ∧ (b.y - a.y).natAbs ≤ 39 := by
  obtain ⟨h1, h2, _, _⟩ := fldE_ok h
  rw [inF_iff] at ha hb
  omega
def clearP (p : Int) : Bool := decide (p % 3 = 0)
def openV (f : Fld) (a b : Cel) : Bool := (List.range (max (b.x - a.x).natAbs (b.y - a.y).natAbs - 1)).all fun k => clearP (placeV f ((lineV a b).getD (k + 1) default))
theorem openV_t {f : Fld} {a b : Cel} (h : ∀ k, 0 < k → k < max (b.x - a.x).natAbs (b.y - a.y).natAbs → clearP (placeV f ((lineV a b).getD k default)) = true) : openV f a b = true := by
  unfold openV
  rw [List.all_eq_true]
  intro k hk
  exact h (k + 1) (by omega) (by simp at hk; omega)
theorem openV_f {f : Fld} {a b : Cel} {k : Nat} (h0 : 0 < k) (h1 : k < max (b.x - a.x).natAbs (b.y - a.y).natAbs) (h : clearP (placeV f ((lineV a b).getD k default)) = false) : openV f a b = false := by
  unfold openV
  rw [List.all_eq_false]
  refine ⟨k - 1, by simp; omega, ?_⟩
  rw [show k - 1 + 1 = k by omega, h]; simp
def looksV (f : Fld) (a b : Cel) : Bool := openV f a b || openV f b a
theorem place_03 {f : Fld} (h : fldE f = 0) {c : Cel} (hc : inF f c = true) : 0 ≤ placeV f c ∧ placeV f c < 4 := by
  obtain ⟨_, _, _, h4⟩ := fldE_ok h
  obtain ⟨_, _, i3, i4, _⟩ := place_ix h hc
  have hl : (c.y * f.w + c.x).toNat < f.p.length := by omega
  unfold placeV
  rw [getD_at _ _ hl]
  exact h4 _ (List.getElem_mem hl)
end Go.Proofs.Ytehcnnodkhcgfaa
namespace Go.Proofs.Ytehcnnodkhcgfaa
set_option linter.all false
open Go.RowKit
set_option maxRecDepth 100000
set_option maxHeartbeats 2000000
theorem bare_s (f : Fld) (a b : Cel) (hf : fldE f = 0) (ha : inF f a = true) (hb : inF f b = true) : Spec Try.prog 241 [fldA f, celA a, celA b] [] (B (openV f a b)) [] := by
  have CS := cells_s a b (inF_near hf ha) (inF_near hf hb)
  have LL := lineV_len a b
  have LF := line_far hf ha hb
  have LI := fun k hk => line_in ha hb k hk
  have LT := @openV_t f a b
  have LN := @openV_f f a b
  have PL : f.p.length ≤ 1600 := (place_ix hf ha).2.2.2.2
  generalize lineV a b = l at CS LL LI LT LN
  obtain ⟨L, hL⟩ : ∃ L, L = max (b.x - a.x).natAbs (b.y - a.y).natAbs := ⟨_, rfl⟩
  rw [← hL] at LL LI LT LN
  have hLL : L ≤ 39 := by omega
  clear hL
  refine spec_am Try.func241 rfl rfl mix 45 rfl [.tmp 6] Try.results241 (Nat.le_of_ble_eq_true rfl) ?_
  (iterate 2 ((try simp (etaStruct := .none) only [push_cast, DrawG, Int.cast_ofNat_Int, Nat.reduceAdd, Nat.reduceSub, Nat.reduceMul, reduceCtorEq, reduceIte, Nat.reduceEqDiff, Nat.reduceLT, Nat.reduceLeDiff, Nat.reduceBEq, Int.reduceToNat, Int.reduceLE, Int.reduceLT, LL, Int.add_sub_cancel]); (try simp (disch := omega) only [wrap_in, wk_self, Int.tdiv_eq_ediv_of_nonneg, Int.tmod_eq_emod_of_nonneg]); (repeat (with_reducible refine And.intro ?_ ?_; · first | omega | decide | (simp; done) | (simp; omega) | (intro hh; refine ⟨hh, ?_⟩; omega) | (simp +contextual; done)))))
  refine callP (CS) (WkL.refl _) ?_
  (iterate 2 ((try simp (etaStruct := .none) only [push_cast, DrawG, Int.cast_ofNat_Int, Nat.reduceAdd, Nat.reduceSub, Nat.reduceMul, reduceCtorEq, reduceIte, Nat.reduceEqDiff, Nat.reduceLT, Nat.reduceLeDiff, Nat.reduceBEq, Int.reduceToNat, Int.reduceLE, Int.reduceLT, LL, Int.add_sub_cancel]); (try simp (disch := omega) only [wrap_in, wk_self, Int.tdiv_eq_ediv_of_nonneg, Int.tmod_eq_emod_of_nonneg]); (repeat (with_reducible refine And.intro ?_ ?_; · first | omega | decide | (simp; done) | (simp; omega) | (intro hh; refine ⟨hh, ?_⟩; omega) | (simp +contextual; done)))))
  refine cond_i (fun h1 => ?_) (fun h1 => ?_)
  · (try simp only [decide_eq_true_eq, decide_eq_false_iff_not, Bool.not_eq_true', Bool.not_eq_false', Bool.or_eq_true, Bool.and_eq_true, Bool.or_eq_false_iff, Bool.and_eq_false_iff, Int.not_lt, Int.not_le, Bool.not_true, Bool.not_false, not_and, not_or] at h1)
    have hl2 : L ≤ 1 := by omega
    have e := LT (fun k h0 h1 => by omega)
    (iterate 2 ((try simp (etaStruct := .none) only [push_cast, DrawG, Int.cast_ofNat_Int, Nat.reduceAdd, Nat.reduceSub, Nat.reduceMul, reduceCtorEq, reduceIte, Nat.reduceEqDiff, Nat.reduceLT, Nat.reduceLeDiff, Nat.reduceBEq, Int.reduceToNat, Int.reduceLE, Int.reduceLT, LL, Int.add_sub_cancel]); (try simp (disch := omega) only [wrap_in, wk_self, Int.tdiv_eq_ediv_of_nonneg, Int.tmod_eq_emod_of_nonneg]); (repeat (with_reducible refine And.intro ?_ ?_; · first | omega | decide | (simp; done) | (simp; omega) | (intro hh; refine ⟨hh, ?_⟩; omega) | (simp +contextual; done)))))
    (first | (refine ret0 rfl (by repeat' (first | exact trivial | exact rfl | refine ⟨?_, ?_⟩)) (Wk.of ?_); (try simp (etaStruct := .none) only [push_cast, DrawG, Int.cast_ofNat_Int, Nat.reduceAdd, Nat.reduceSub, Nat.reduceMul, reduceCtorEq, reduceIte, Nat.reduceEqDiff, Nat.reduceLT, Nat.reduceLeDiff, Nat.reduceBEq, Int.reduceToNat, Int.reduceLE, Int.reduceLT]); first | done | (simp [e, *]; done) | (simp_all [e]; done)) | (refine ret0 rfl (by repeat' (first | exact trivial | exact rfl | refine ⟨?_, ?_⟩)) ?_; (try simp (etaStruct := .none) only [push_cast, DrawG, Int.cast_ofNat_Int, Nat.reduceAdd, Nat.reduceSub, Nat.reduceMul, reduceCtorEq, reduceIte, Nat.reduceEqDiff, Nat.reduceLT, Nat.reduceLeDiff, Nat.reduceBEq, Int.reduceToNat, Int.reduceLE, Int.reduceLT]); (try simp [e, *]); (try (first | exact Wk.refl _ | exact Wk.nil _ | (refine Wk.tup ?_; repeat' (first | exact trivial | exact Wk.refl _ | exact Wk.nil _ | refine ⟨?_, ?_⟩ | (refine Wk.agg ?_)))))))
  · (try simp only [decide_eq_true_eq, decide_eq_false_iff_not, Bool.not_eq_true', Bool.not_eq_false', Bool.or_eq_true, Bool.and_eq_true, Bool.or_eq_false_iff, Bool.and_eq_false_iff, Int.not_lt, Int.not_le, Bool.not_true, Bool.not_false, not_and, not_or] at h1)
    have e3 : ((l.map celP).take L).drop 1 = ((l.take L).drop 1).map celP := by rw [List.map_drop, List.map_take]
    have e4 : ((l.take L).drop 1).length = L - 1 := by simp; omega
    have e5 : ∀ k, k < L - 1 → ((l.take L).drop 1).getD k default = l.getD (k + 1) default := by intro k hk; simp [List.getD_eq_getElem?_getD, List.getElem?_drop, List.getElem?_take, show k + 1 < L by omega, Nat.add_comm]
    (iterate 2 ((try simp (etaStruct := .none) only [push_cast, DrawG, Int.cast_ofNat_Int, Nat.reduceAdd, Nat.reduceSub, Nat.reduceMul, reduceCtorEq, reduceIte, Nat.reduceEqDiff, Nat.reduceLT, Nat.reduceLeDiff, Nat.reduceBEq, Int.reduceToNat, Int.reduceLE, Int.reduceLT, LL, Int.add_sub_cancel, e3, e4]); (try simp (disch := omega) only [wrap_in, wk_self, Int.tdiv_eq_ediv_of_nonneg, Int.tmod_eq_emod_of_nonneg]); (repeat (with_reducible refine And.intro ?_ ?_; · first | omega | decide | (simp; done) | (simp; omega) | (intro hh; refine ⟨hh, ?_⟩; omega) | (simp +contextual; done)))))
    refine loopI (fun k : Nat => ⟨[(28, I .i64 k), (27, I .i64 (L - 1 : Nat)), (26, .c (.sl 2 (((l.take L).drop 1).map celP))), (3, .ptr 0 0 0)], [(0, .blk 65 [I .i64 f.w, I .i64 f.h, .c (.sl 1 (f.p.map i64P))])], 1⟩) (fun k : Nat => k ≤ L - 1 ∧ ∀ j, 0 < j → j ≤ k → clearP (placeV f (l.getD j default)) = true) (fun k : Nat => L - 1 - k) (0) (⟨Nat.zero_le _, fun j h h' => by omega⟩) (To.mk [0] rfl rfl (by decide) ?_ ?_) ?_
    · simp (etaStruct := .none) only [push_cast, DrawG, Int.cast_ofNat_Int, Nat.reduceAdd, Nat.reduceSub, Nat.reduceMul, reduceCtorEq, reduceIte, Nat.reduceEqDiff, Nat.reduceLT, Nat.reduceLeDiff, Nat.reduceBEq, Int.reduceToNat, Int.reduceLE, Int.reduceLT]
    · simp (etaStruct := .none) only [push_cast, DrawG, Int.cast_ofNat_Int, Nat.reduceAdd, Nat.reduceSub, Nat.reduceMul, reduceCtorEq, reduceIte, Nat.reduceEqDiff, Nat.reduceLT, Nat.reduceLeDiff, Nat.reduceBEq, Int.reduceToNat, Int.reduceLE, Int.reduceLT]
    rintro k ⟨hk, hn⟩
    (iterate 2 ((try simp (etaStruct := .none) only [push_cast, DrawG, Int.cast_ofNat_Int, Nat.reduceAdd, Nat.reduceSub, Nat.reduceMul, reduceCtorEq, reduceIte, Nat.reduceEqDiff, Nat.reduceLT, Nat.reduceLeDiff, Nat.reduceBEq, Int.reduceToNat, Int.reduceLE, Int.reduceLT, LL, Int.add_sub_cancel, e3, e4]); (try simp (disch := omega) only [wrap_in, wk_self, Int.tdiv_eq_ediv_of_nonneg, Int.tmod_eq_emod_of_nonneg]); (repeat (with_reducible refine And.intro ?_ ?_; · first | omega | decide | (simp; done) | (simp; omega) | (intro hh; refine ⟨hh, ?_⟩; omega) | (simp +contextual; done)))))
    refine cond_i (fun h2 => ?_) (fun h2 => ?_)
    · (try simp only [decide_eq_true_eq, decide_eq_false_iff_not, Bool.not_eq_true', Bool.not_eq_false', Bool.or_eq_true, Bool.and_eq_true, Bool.or_eq_false_iff, Bool.and_eq_false_iff, Int.not_lt, Int.not_le, Bool.not_true, Bool.not_false, not_and, not_or] at h2)
      have hlt : k < L - 1 := by omega
      have hlt2 : k < ((l.take L).drop 1).length := by omega
      have e6 := e5 k hlt
      have hin := LI (k + 1) (by omega)
      have AT := at_s f (l.getD (k + 1) default) (by omega)
      have AV : atV f (l.getD (k + 1) default) = (placeV f (l.getD (k + 1) default), 0) := by unfold atV; rw [if_neg (by simp [hf]), if_pos hin]
      rw [AV] at AT
      have p03 := place_03 hf hin
      (iterate 2 ((try simp (etaStruct := .none) only [push_cast, DrawG, Int.cast_ofNat_Int, Nat.reduceAdd, Nat.reduceSub, Nat.reduceMul, reduceCtorEq, reduceIte, Nat.reduceEqDiff, Nat.reduceLT, Nat.reduceLeDiff, Nat.reduceBEq, Int.reduceToNat, Int.reduceLE, Int.reduceLT, LL, Int.add_sub_cancel, e3, e4, getD_in _ _ _ hlt2, celP, e6]); (try simp (disch := omega) only [wrap_in, wk_self, Int.tdiv_eq_ediv_of_nonneg, Int.tmod_eq_emod_of_nonneg]); (repeat (with_reducible refine And.intro ?_ ?_; · first | omega | decide | (simp; done) | (simp; omega) | (intro hh; refine ⟨hh, ?_⟩; omega) | (simp +contextual; done)))))
      refine callP (AT) (WkL.refl _) ?_
      (iterate 2 ((try simp (etaStruct := .none) only [push_cast, DrawG, Int.cast_ofNat_Int, Nat.reduceAdd, Nat.reduceSub, Nat.reduceMul, reduceCtorEq, reduceIte, Nat.reduceEqDiff, Nat.reduceLT, Nat.reduceLeDiff, Nat.reduceBEq, Int.reduceToNat, Int.reduceLE, Int.reduceLT, LL, Int.add_sub_cancel, e3, e4, getD_in _ _ _ hlt2, celP, e6]); (try simp (disch := omega) only [wrap_in, wk_self, Int.tdiv_eq_ediv_of_nonneg, Int.tmod_eq_emod_of_nonneg]); (repeat (with_reducible refine And.intro ?_ ?_; · first | omega | decide | (simp; done) | (simp; omega) | (intro hh; refine ⟨hh, ?_⟩; omega) | (simp +contextual; done)))))
      refine cond_i (fun h3 => ?_) (fun h3 => ?_)
      · (try simp only [decide_eq_true_eq, decide_eq_false_iff_not, Bool.not_eq_true', Bool.not_eq_false', Bool.or_eq_true, Bool.and_eq_true, Bool.or_eq_false_iff, Bool.and_eq_false_iff, Int.not_lt, Int.not_le, Bool.not_true, Bool.not_false, not_and, not_or] at h3)
        have hc : clearP (placeV f (l.getD (k + 1) default)) = false := decide_eq_false (by omega)
        have e := LN (by omega) (by omega) hc
        (iterate 2 ((try simp (etaStruct := .none) only [push_cast, DrawG, Int.cast_ofNat_Int, Nat.reduceAdd, Nat.reduceSub, Nat.reduceMul, reduceCtorEq, reduceIte, Nat.reduceEqDiff, Nat.reduceLT, Nat.reduceLeDiff, Nat.reduceBEq, Int.reduceToNat, Int.reduceLE, Int.reduceLT, LL, Int.add_sub_cancel, e3, e4, getD_in _ _ _ hlt2, celP, e6]); (try simp (disch := omega) only [wrap_in, wk_self, Int.tdiv_eq_ediv_of_nonneg, Int.tmod_eq_emod_of_nonneg]); (repeat (with_reducible refine And.intro ?_ ?_; · first | omega | decide | (simp; done) | (simp; omega) | (intro hh; refine ⟨hh, ?_⟩; omega) | (simp +contextual; done)))))
        (first | (refine ret0 rfl (by repeat' (first | exact trivial | exact rfl | refine ⟨?_, ?_⟩)) (Wk.of ?_); (try simp (etaStruct := .none) only [push_cast, DrawG, Int.cast_ofNat_Int, Nat.reduceAdd, Nat.reduceSub, Nat.reduceMul, reduceCtorEq, reduceIte, Nat.reduceEqDiff, Nat.reduceLT, Nat.reduceLeDiff, Nat.reduceBEq, Int.reduceToNat, Int.reduceLE, Int.reduceLT]); first | done | (simp [e, *]; done) | (simp_all [e]; done)) | (refine ret0 rfl (by repeat' (first | exact trivial | exact rfl | refine ⟨?_, ?_⟩)) ?_; (try simp (etaStruct := .none) only [push_cast, DrawG, Int.cast_ofNat_Int, Nat.reduceAdd, Nat.reduceSub, Nat.reduceMul, reduceCtorEq, reduceIte, Nat.reduceEqDiff, Nat.reduceLT, Nat.reduceLeDiff, Nat.reduceBEq, Int.reduceToNat, Int.reduceLE, Int.reduceLT]); (try simp [e, *]); (try (first | exact Wk.refl _ | exact Wk.nil _ | (refine Wk.tup ?_; repeat' (first | exact trivial | exact Wk.refl _ | exact Wk.nil _ | refine ⟨?_, ?_⟩ | (refine Wk.agg ?_)))))))
      · (try simp only [decide_eq_true_eq, decide_eq_false_iff_not, Bool.not_eq_true', Bool.not_eq_false', Bool.or_eq_true, Bool.and_eq_true, Bool.or_eq_false_iff, Bool.and_eq_false_iff, Int.not_lt, Int.not_le, Bool.not_true, Bool.not_false, not_and, not_or] at h3)
        have hc : clearP (placeV f (l.getD (k + 1) default)) = true := decide_eq_true (by omega)
        (iterate 2 ((try simp (etaStruct := .none) only [push_cast, DrawG, Int.cast_ofNat_Int, Nat.reduceAdd, Nat.reduceSub, Nat.reduceMul, reduceCtorEq, reduceIte, Nat.reduceEqDiff, Nat.reduceLT, Nat.reduceLeDiff, Nat.reduceBEq, Int.reduceToNat, Int.reduceLE, Int.reduceLT, LL, Int.add_sub_cancel, e3, e4, getD_in _ _ _ hlt2, celP, e6]); (try simp (disch := omega) only [wrap_in, wk_self, Int.tdiv_eq_ediv_of_nonneg, Int.tmod_eq_emod_of_nonneg]); (repeat (with_reducible refine And.intro ?_ ?_; · first | omega | decide | (simp; done) | (simp; omega) | (intro hh; refine ⟨hh, ?_⟩; omega) | (simp +contextual; done)))))
        refine ⟨k + 1, ⟨by omega, fun j h0 h1 => by rcases Nat.lt_or_ge k j with h | h; rw [show j = k + 1 by omega]; exact hc; exact hn j h0 h⟩, by omega, To.mk [0] rfl rfl (by decide) ?_ ?_⟩
        · (iterate 2 ((try simp (etaStruct := .none) only [push_cast, DrawG, Int.cast_ofNat_Int, Nat.reduceAdd, Nat.reduceSub, Nat.reduceMul, reduceCtorEq, reduceIte, Nat.reduceEqDiff, Nat.reduceLT, Nat.reduceLeDiff, Nat.reduceBEq, Int.reduceToNat, Int.reduceLE, Int.reduceLT, LL, Int.add_sub_cancel, e3, e4, getD_in _ _ _ hlt2, celP, e6]); (try simp (disch := omega) only [wrap_in, wk_self, Int.tdiv_eq_ediv_of_nonneg, Int.tmod_eq_emod_of_nonneg]); (repeat (with_reducible refine And.intro ?_ ?_; · first | omega | decide | (simp; done) | (simp; omega) | (intro hh; refine ⟨hh, ?_⟩; omega) | (simp +contextual; done)))))
        · (iterate 2 ((try simp (etaStruct := .none) only [push_cast, DrawG, Int.cast_ofNat_Int, Nat.reduceAdd, Nat.reduceSub, Nat.reduceMul, reduceCtorEq, reduceIte, Nat.reduceEqDiff, Nat.reduceLT, Nat.reduceLeDiff, Nat.reduceBEq, Int.reduceToNat, Int.reduceLE, Int.reduceLT, LL, Int.add_sub_cancel, e3, e4, getD_in _ _ _ hlt2, celP, e6]); (try simp (disch := omega) only [wrap_in, wk_self, Int.tdiv_eq_ediv_of_nonneg, Int.tmod_eq_emod_of_nonneg]); (repeat (with_reducible refine And.intro ?_ ?_; · first | omega | decide | (simp; done) | (simp; omega) | (intro hh; refine ⟨hh, ?_⟩; omega) | (simp +contextual; done)))))
    · (try simp only [decide_eq_true_eq, decide_eq_false_iff_not, Bool.not_eq_true', Bool.not_eq_false', Bool.or_eq_true, Bool.and_eq_true, Bool.or_eq_false_iff, Bool.and_eq_false_iff, Int.not_lt, Int.not_le, Bool.not_true, Bool.not_false, not_and, not_or] at h2)
      have e := LT (fun j h0 h1 => hn j h0 (by omega))
      (iterate 2 ((try simp (etaStruct := .none) only [push_cast, DrawG, Int.cast_ofNat_Int, Nat.reduceAdd, Nat.reduceSub, Nat.reduceMul, reduceCtorEq, reduceIte, Nat.reduceEqDiff, Nat.reduceLT, Nat.reduceLeDiff, Nat.reduceBEq, Int.reduceToNat, Int.reduceLE, Int.reduceLT, LL, Int.add_sub_cancel, e3, e4]); (try simp (disch := omega) only [wrap_in, wk_self, Int.tdiv_eq_ediv_of_nonneg, Int.tmod_eq_emod_of_nonneg]); (repeat (with_reducible refine And.intro ?_ ?_; · first | omega | decide | (simp; done) | (simp; omega) | (intro hh; refine ⟨hh, ?_⟩; omega) | (simp +contextual; done)))))
      (first | (refine ret0 rfl (by repeat' (first | exact trivial | exact rfl | refine ⟨?_, ?_⟩)) (Wk.of ?_); (try simp (etaStruct := .none) only [push_cast, DrawG, Int.cast_ofNat_Int, Nat.reduceAdd, Nat.reduceSub, Nat.reduceMul, reduceCtorEq, reduceIte, Nat.reduceEqDiff, Nat.reduceLT, Nat.reduceLeDiff, Nat.reduceBEq, Int.reduceToNat, Int.reduceLE, Int.reduceLT]); first | done | (simp [e, *]; done) | (simp_all [e]; done)) | (refine ret0 rfl (by repeat' (first | exact trivial | exact rfl | refine ⟨?_, ?_⟩)) ?_; (try simp (etaStruct := .none) only [push_cast, DrawG, Int.cast_ofNat_Int, Nat.reduceAdd, Nat.reduceSub, Nat.reduceMul, reduceCtorEq, reduceIte, Nat.reduceEqDiff, Nat.reduceLT, Nat.reduceLeDiff, Nat.reduceBEq, Int.reduceToNat, Int.reduceLE, Int.reduceLT]); (try simp [e, *]); (try (first | exact Wk.refl _ | exact Wk.nil _ | (refine Wk.tup ?_; repeat' (first | exact trivial | exact Wk.refl _ | exact Wk.nil _ | refine ⟨?_, ?_⟩ | (refine Wk.agg ?_)))))))
theorem openLine_s (f : Fld) (a b : Cel) (hf : fldE f = 0) (ha : inF f a = true) (hb : inF f b = true) : Spec Try.prog 207 [fldA f, celA a, celA b] [] (B (openV f a b)) [] := by
  have LF := line_far hf ha hb
  have CS := lineOf_s a b (inF_near hf ha) (inF_near hf hb) (by omega)
  have LL := lineV_len a b
  have LI := fun k hk => line_in ha hb k hk
  have LT := @openV_t f a b
  have LN := @openV_f f a b
  have LA := lineV_at a b
  have MID := lpt_mid a b
  have L0 := lpt_zero a (b.x - a.x).sign (b.y - a.y).sign (b.x - a.x).natAbs (b.y - a.y).natAbs
  have LZ := lpt_last a b
  have PL : f.p.length ≤ 1600 := (place_ix hf ha).2.2.2.2
  generalize lineV a b = l at CS LL LI LT LN LA
  generalize lpt a (b.x - a.x).sign (b.y - a.y).sign (b.x - a.x).natAbs (b.y - a.y).natAbs = g at LA MID L0 LZ
  obtain ⟨L, hL⟩ : ∃ L, L = max (b.x - a.x).natAbs (b.y - a.y).natAbs := ⟨_, rfl⟩
  rw [← hL] at LL LI LT LN LA MID LZ
  have hLL : L ≤ 39 := by omega
  clear hL
  refine spec_am Try.func207 rfl rfl mix 35 rfl [.tmp 6] Try.results207 (Nat.le_of_ble_eq_true rfl) ?_
  (iterate 2 ((try simp (etaStruct := .none) only [push_cast, DrawG, Int.cast_ofNat_Int, Nat.reduceAdd, Nat.reduceSub, Nat.reduceMul, reduceCtorEq, reduceIte, Nat.reduceEqDiff, Nat.reduceLT, Nat.reduceLeDiff, Nat.reduceBEq, Int.reduceToNat, Int.reduceLE, Int.reduceLT, LL]); (try simp (disch := omega) only [wrap_in, wk_self, Int.tdiv_eq_ediv_of_nonneg, Int.tmod_eq_emod_of_nonneg]); (repeat (with_reducible refine And.intro ?_ ?_; · first | omega | decide | (simp; done) | (simp; omega) | (intro hh; refine ⟨hh, ?_⟩; omega) | (simp +contextual; done)))))
  refine callP (CS) (WkL.refl _) ?_
  (iterate 2 ((try simp (etaStruct := .none) only [push_cast, DrawG, Int.cast_ofNat_Int, Nat.reduceAdd, Nat.reduceSub, Nat.reduceMul, reduceCtorEq, reduceIte, Nat.reduceEqDiff, Nat.reduceLT, Nat.reduceLeDiff, Nat.reduceBEq, Int.reduceToNat, Int.reduceLE, Int.reduceLT, LL]); (try simp (disch := omega) only [wrap_in, wk_self, Int.tdiv_eq_ediv_of_nonneg, Int.tmod_eq_emod_of_nonneg]); (repeat (with_reducible refine And.intro ?_ ?_; · first | omega | decide | (simp; done) | (simp; omega) | (intro hh; refine ⟨hh, ?_⟩; omega) | (simp +contextual; done)))))
  refine loopI (fun k : Nat => ⟨[(14, I .i64 k), (13, I .i64 (L + 1 : Nat)), (12, .c (.sl 2 (l.map celP))), (5, .ptr 2 0 0), (4, .ptr 1 0 0), (3, .ptr 0 0 0)], [(0, .blk 65 [I .i64 f.w, I .i64 f.h, .c (.sl 1 (f.p.map i64P))]), (1, .blk 25 [I .i64 a.x, I .i64 a.y]), (2, .blk 25 [I .i64 b.x, I .i64 b.y])], 3⟩) (fun k : Nat => k ≤ L + 1 ∧ ∀ j, 0 < j → j < k → j < L → clearP (placeV f (l.getD j default)) = true) (fun k : Nat => L + 1 - k) (0) (⟨Nat.zero_le _, fun j h h' => by omega⟩) (To.mk [0, 1, 2] rfl rfl (by decide) ?_ ?_) ?_
  · simp (etaStruct := .none) only [push_cast, DrawG, Int.cast_ofNat_Int, Nat.reduceAdd, Nat.reduceSub, Nat.reduceMul, reduceCtorEq, reduceIte, Nat.reduceEqDiff, Nat.reduceLT, Nat.reduceLeDiff, Nat.reduceBEq, Int.reduceToNat, Int.reduceLE, Int.reduceLT]
  · simp (etaStruct := .none) only [push_cast, DrawG, Int.cast_ofNat_Int, Nat.reduceAdd, Nat.reduceSub, Nat.reduceMul, reduceCtorEq, reduceIte, Nat.reduceEqDiff, Nat.reduceLT, Nat.reduceLeDiff, Nat.reduceBEq, Int.reduceToNat, Int.reduceLE, Int.reduceLT]
  rintro k ⟨hk, hn⟩
  (iterate 2 ((try simp (etaStruct := .none) only [push_cast, DrawG, Int.cast_ofNat_Int, Nat.reduceAdd, Nat.reduceSub, Nat.reduceMul, reduceCtorEq, reduceIte, Nat.reduceEqDiff, Nat.reduceLT, Nat.reduceLeDiff, Nat.reduceBEq, Int.reduceToNat, Int.reduceLE, Int.reduceLT, LL]); (try simp (disch := omega) only [wrap_in, wk_self, Int.tdiv_eq_ediv_of_nonneg, Int.tmod_eq_emod_of_nonneg]); (repeat (with_reducible refine And.intro ?_ ?_; · first | omega | decide | (simp; done) | (simp; omega) | (intro hh; refine ⟨hh, ?_⟩; omega) | (simp +contextual; done)))))
  refine cond_i (fun h1 => ?_) (fun h1 => ?_)
  · (try simp only [decide_eq_true_eq, decide_eq_false_iff_not, Bool.not_eq_true', Bool.not_eq_false', Bool.or_eq_true, Bool.and_eq_true, Bool.or_eq_false_iff, Bool.and_eq_false_iff, Int.not_lt, Int.not_le, Bool.not_true, Bool.not_false, not_and, not_or] at h1)
    have hlt : k < l.length := by omega
    have hin := LI k (by omega)
    have p03 := place_03 hf hin
    have eL := LA k (by omega)
    have PS := place_s f (l.getD k default) hf hin
    have ca := cel_dec (l.getD k default) a
    have cb := cel_dec (l.getD k default) b
    (iterate 2 ((try simp (etaStruct := .none) only [push_cast, DrawG, Int.cast_ofNat_Int, Nat.reduceAdd, Nat.reduceSub, Nat.reduceMul, reduceCtorEq, reduceIte, Nat.reduceEqDiff, Nat.reduceLT, Nat.reduceLeDiff, Nat.reduceBEq, Int.reduceToNat, Int.reduceLE, Int.reduceLT, LL, getD_in _ _ _ hlt, celP, ca, cb]); (try simp (disch := omega) only [wrap_in, wk_self, Int.tdiv_eq_ediv_of_nonneg, Int.tmod_eq_emod_of_nonneg]); (repeat (with_reducible refine And.intro ?_ ?_; · first | omega | decide | (simp; done) | (simp; omega) | (intro hh; refine ⟨hh, ?_⟩; omega) | (simp +contextual; done)))))
    refine callP (PS) (WkL.refl _) ?_
    (iterate 2 ((try simp (etaStruct := .none) only [push_cast, DrawG, Int.cast_ofNat_Int, Nat.reduceAdd, Nat.reduceSub, Nat.reduceMul, reduceCtorEq, reduceIte, Nat.reduceEqDiff, Nat.reduceLT, Nat.reduceLeDiff, Nat.reduceBEq, Int.reduceToNat, Int.reduceLE, Int.reduceLT, LL, getD_in _ _ _ hlt, celP, ca, cb]); (try simp (disch := omega) only [wrap_in, wk_self, Int.tdiv_eq_ediv_of_nonneg, Int.tmod_eq_emod_of_nonneg]); (repeat (with_reducible refine And.intro ?_ ?_; · first | omega | decide | (simp; done) | (simp; omega) | (intro hh; refine ⟨hh, ?_⟩; omega) | (simp +contextual; done)))))
    refine cond_i (fun h2 => ?_) (fun h2 => ?_)
    · (try simp only [decide_eq_true_eq, decide_eq_false_iff_not, Bool.not_eq_true', Bool.not_eq_false', Bool.or_eq_true, Bool.and_eq_true, Bool.or_eq_false_iff, Bool.and_eq_false_iff, Int.not_lt, Int.not_le, Bool.not_true, Bool.not_false, not_and, not_or] at h2)
      have hk0 : 0 < k := by
        rcases Nat.eq_zero_or_pos k with e | e
        · subst e; rw [eL, L0] at h2; exact absurd rfl h2.1.1
        · exact e
      have hkL : k < L := by
        rcases Nat.lt_or_ge k L with e | e
        · exact e
        · obtain rfl : k = L := by omega
          rw [eL, LZ] at h2; exact absurd rfl h2.1.2
      have e := LN hk0 hkL (decide_eq_false h2.2)
      (iterate 2 ((try simp (etaStruct := .none) only [push_cast, DrawG, Int.cast_ofNat_Int, Nat.reduceAdd, Nat.reduceSub, Nat.reduceMul, reduceCtorEq, reduceIte, Nat.reduceEqDiff, Nat.reduceLT, Nat.reduceLeDiff, Nat.reduceBEq, Int.reduceToNat, Int.reduceLE, Int.reduceLT, LL, getD_in _ _ _ hlt, celP, ca, cb]); (try simp (disch := omega) only [wrap_in, wk_self, Int.tdiv_eq_ediv_of_nonneg, Int.tmod_eq_emod_of_nonneg]); (repeat (with_reducible refine And.intro ?_ ?_; · first | omega | decide | (simp; done) | (simp; omega) | (intro hh; refine ⟨hh, ?_⟩; omega) | (simp +contextual; done)))))
      (first | (refine ret0 rfl (by repeat' (first | exact trivial | exact rfl | refine ⟨?_, ?_⟩)) (Wk.of ?_); (try simp (etaStruct := .none) only [push_cast, DrawG, Int.cast_ofNat_Int, Nat.reduceAdd, Nat.reduceSub, Nat.reduceMul, reduceCtorEq, reduceIte, Nat.reduceEqDiff, Nat.reduceLT, Nat.reduceLeDiff, Nat.reduceBEq, Int.reduceToNat, Int.reduceLE, Int.reduceLT]); first | done | (simp [e, *]; done) | (simp_all [e]; done)) | (refine ret0 rfl (by repeat' (first | exact trivial | exact rfl | refine ⟨?_, ?_⟩)) ?_; (try simp (etaStruct := .none) only [push_cast, DrawG, Int.cast_ofNat_Int, Nat.reduceAdd, Nat.reduceSub, Nat.reduceMul, reduceCtorEq, reduceIte, Nat.reduceEqDiff, Nat.reduceLT, Nat.reduceLeDiff, Nat.reduceBEq, Int.reduceToNat, Int.reduceLE, Int.reduceLT]); (try simp [e, *]); (try (first | exact Wk.refl _ | exact Wk.nil _ | (refine Wk.tup ?_; repeat' (first | exact trivial | exact Wk.refl _ | exact Wk.nil _ | refine ⟨?_, ?_⟩ | (refine Wk.agg ?_)))))))
    · (try simp only [decide_eq_true_eq, decide_eq_false_iff_not, Bool.not_eq_true', Bool.not_eq_false', Bool.or_eq_true, Bool.and_eq_true, Bool.or_eq_false_iff, Bool.and_eq_false_iff, Int.not_lt, Int.not_le, Bool.not_true, Bool.not_false, not_and, not_or] at h2)
      have hc : 0 < k → k < L → clearP (placeV f (l.getD k default)) = true := by
        intro k0 k1
        have mm := MID k k0 (by omega)
        rw [← eL] at mm
        rcases h2 with (h | h) | h
        · exact absurd h mm.1
        · exact absurd h mm.2
        · exact decide_eq_true h
      (iterate 2 ((try simp (etaStruct := .none) only [push_cast, DrawG, Int.cast_ofNat_Int, Nat.reduceAdd, Nat.reduceSub, Nat.reduceMul, reduceCtorEq, reduceIte, Nat.reduceEqDiff, Nat.reduceLT, Nat.reduceLeDiff, Nat.reduceBEq, Int.reduceToNat, Int.reduceLE, Int.reduceLT, LL, getD_in _ _ _ hlt, celP, ca, cb]); (try simp (disch := omega) only [wrap_in, wk_self, Int.tdiv_eq_ediv_of_nonneg, Int.tmod_eq_emod_of_nonneg]); (repeat (with_reducible refine And.intro ?_ ?_; · first | omega | decide | (simp; done) | (simp; omega) | (intro hh; refine ⟨hh, ?_⟩; omega) | (simp +contextual; done)))))
      refine ⟨k + 1, ⟨by omega, fun j h0 h1 hj => by rcases Nat.lt_or_ge j k with h | h; exact hn j h0 h hj; rw [show j = k by omega] at hj ⊢; exact hc (by omega) hj⟩, by omega, To.mk [0, 1, 2] rfl rfl (by decide) ?_ ?_⟩
      · (iterate 2 ((try simp (etaStruct := .none) only [push_cast, DrawG, Int.cast_ofNat_Int, Nat.reduceAdd, Nat.reduceSub, Nat.reduceMul, reduceCtorEq, reduceIte, Nat.reduceEqDiff, Nat.reduceLT, Nat.reduceLeDiff, Nat.reduceBEq, Int.reduceToNat, Int.reduceLE, Int.reduceLT, LL, getD_in _ _ _ hlt, celP, ca, cb]); (try simp (disch := omega) only [wrap_in, wk_self, Int.tdiv_eq_ediv_of_nonneg, Int.tmod_eq_emod_of_nonneg]); (repeat (with_reducible refine And.intro ?_ ?_; · first | omega | decide | (simp; done) | (simp; omega) | (intro hh; refine ⟨hh, ?_⟩; omega) | (simp +contextual; done)))))
      · (iterate 2 ((try simp (etaStruct := .none) only [push_cast, DrawG, Int.cast_ofNat_Int, Nat.reduceAdd, Nat.reduceSub, Nat.reduceMul, reduceCtorEq, reduceIte, Nat.reduceEqDiff, Nat.reduceLT, Nat.reduceLeDiff, Nat.reduceBEq, Int.reduceToNat, Int.reduceLE, Int.reduceLT, LL, getD_in _ _ _ hlt, celP, ca, cb]); (try simp (disch := omega) only [wrap_in, wk_self, Int.tdiv_eq_ediv_of_nonneg, Int.tmod_eq_emod_of_nonneg]); (repeat (with_reducible refine And.intro ?_ ?_; · first | omega | decide | (simp; done) | (simp; omega) | (intro hh; refine ⟨hh, ?_⟩; omega) | (simp +contextual; done)))))
  · (try simp only [decide_eq_true_eq, decide_eq_false_iff_not, Bool.not_eq_true', Bool.not_eq_false', Bool.or_eq_true, Bool.and_eq_true, Bool.or_eq_false_iff, Bool.and_eq_false_iff, Int.not_lt, Int.not_le, Bool.not_true, Bool.not_false, not_and, not_or] at h1)
    have e := LT (fun j h0 h1 => hn j h0 (by omega) h1)
    (iterate 2 ((try simp (etaStruct := .none) only [push_cast, DrawG, Int.cast_ofNat_Int, Nat.reduceAdd, Nat.reduceSub, Nat.reduceMul, reduceCtorEq, reduceIte, Nat.reduceEqDiff, Nat.reduceLT, Nat.reduceLeDiff, Nat.reduceBEq, Int.reduceToNat, Int.reduceLE, Int.reduceLT, LL]); (try simp (disch := omega) only [wrap_in, wk_self, Int.tdiv_eq_ediv_of_nonneg, Int.tmod_eq_emod_of_nonneg]); (repeat (with_reducible refine And.intro ?_ ?_; · first | omega | decide | (simp; done) | (simp; omega) | (intro hh; refine ⟨hh, ?_⟩; omega) | (simp +contextual; done)))))
    (first | (refine ret0 rfl (by repeat' (first | exact trivial | exact rfl | refine ⟨?_, ?_⟩)) (Wk.of ?_); (try simp (etaStruct := .none) only [push_cast, DrawG, Int.cast_ofNat_Int, Nat.reduceAdd, Nat.reduceSub, Nat.reduceMul, reduceCtorEq, reduceIte, Nat.reduceEqDiff, Nat.reduceLT, Nat.reduceLeDiff, Nat.reduceBEq, Int.reduceToNat, Int.reduceLE, Int.reduceLT]); first | done | (simp [e, *]; done) | (simp_all [e]; done)) | (refine ret0 rfl (by repeat' (first | exact trivial | exact rfl | refine ⟨?_, ?_⟩)) ?_; (try simp (etaStruct := .none) only [push_cast, DrawG, Int.cast_ofNat_Int, Nat.reduceAdd, Nat.reduceSub, Nat.reduceMul, reduceCtorEq, reduceIte, Nat.reduceEqDiff, Nat.reduceLT, Nat.reduceLeDiff, Nat.reduceBEq, Int.reduceToNat, Int.reduceLE, Int.reduceLT]); (try simp [e, *]); (try (first | exact Wk.refl _ | exact Wk.nil _ | (refine Wk.tup ?_; repeat' (first | exact trivial | exact Wk.refl _ | exact Wk.nil _ | refine ⟨?_, ?_⟩ | (refine Wk.agg ?_)))))))
end Go.Proofs.Ytehcnnodkhcgfaa
namespace Go.Proofs.Ytehcnnodkhcgfaa
set_option linter.all false
open Go.RowKit
set_option maxRecDepth 100000
set_option maxHeartbeats 2000000
theorem looks_s (f : Fld) (a b : Cel) (hf : fldE f = 0) (ha : inF f a = true) (hb : inF f b = true) : Spec Try.prog 146 [fldA f, celA a, celA b] [] (B (looksV f a b)) [] := by
  refine spec_am Try.func146 rfl rfl mix 17 rfl [.tmp 6] Try.results146 (Nat.le_of_ble_eq_true rfl) ?_
  (try simp (etaStruct := .none) only [push_cast, DrawG, Int.cast_ofNat_Int, Nat.reduceAdd, Nat.reduceSub, Nat.reduceMul, reduceCtorEq, reduceIte, Nat.reduceEqDiff, Nat.reduceLT, Nat.reduceLeDiff, Nat.reduceBEq, Int.reduceToNat, Int.reduceLE, Int.reduceLT]); (try simp (disch := omega) only [wrap_in, wk_self, Int.tdiv_eq_ediv_of_nonneg, Int.tmod_eq_emod_of_nonneg]); (repeat (with_reducible refine And.intro ?_ ?_; · first | omega | decide | (simp; done) | (simp; omega) | (intro hh; refine ⟨hh, ?_⟩; omega) | (simp +contextual; done)))
  refine callP (openLine_s f a b hf ha hb) (WkL.refl _) ?_
  (try simp (etaStruct := .none) only [push_cast, DrawG, Int.cast_ofNat_Int, Nat.reduceAdd, Nat.reduceSub, Nat.reduceMul, reduceCtorEq, reduceIte, Nat.reduceEqDiff, Nat.reduceLT, Nat.reduceLeDiff, Nat.reduceBEq, Int.reduceToNat, Int.reduceLE, Int.reduceLT]); (try simp (disch := omega) only [wrap_in, wk_self, Int.tdiv_eq_ediv_of_nonneg, Int.tmod_eq_emod_of_nonneg]); (repeat (with_reducible refine And.intro ?_ ?_; · first | omega | decide | (simp; done) | (simp; omega) | (intro hh; refine ⟨hh, ?_⟩; omega) | (simp +contextual; done)))
  refine gcallP (fun hcc => openLine_s f b a hf hb ha) (WkL.refl _) (by intro hc; (try simp (etaStruct := .none) only [push_cast, DrawG, Int.cast_ofNat_Int, Nat.reduceAdd, Nat.reduceSub, Nat.reduceMul, reduceCtorEq, reduceIte, Nat.reduceEqDiff, Nat.reduceLT, Nat.reduceLeDiff, Nat.reduceBEq, Int.reduceToNat, Int.reduceLE, Int.reduceLT]); (try simp_all)) ?_
  (try simp (etaStruct := .none) only [push_cast, DrawG, Int.cast_ofNat_Int, Nat.reduceAdd, Nat.reduceSub, Nat.reduceMul, reduceCtorEq, reduceIte, Nat.reduceEqDiff, Nat.reduceLT, Nat.reduceLeDiff, Nat.reduceBEq, Int.reduceToNat, Int.reduceLE, Int.reduceLT]); (try simp (disch := omega) only [wrap_in, wk_self, Int.tdiv_eq_ediv_of_nonneg, Int.tmod_eq_emod_of_nonneg]); (repeat (with_reducible refine And.intro ?_ ?_; · first | omega | decide | (simp; done) | (simp; omega) | (intro hh; refine ⟨hh, ?_⟩; omega) | (simp +contextual; done)))
  (first | (refine ret0 rfl (by repeat' (first | exact trivial | exact rfl | refine ⟨?_, ?_⟩)) (Wk.of ?_); (try simp (etaStruct := .none) only [push_cast, DrawG, Int.cast_ofNat_Int, Nat.reduceAdd, Nat.reduceSub, Nat.reduceMul, reduceCtorEq, reduceIte, Nat.reduceEqDiff, Nat.reduceLT, Nat.reduceLeDiff, Nat.reduceBEq, Int.reduceToNat, Int.reduceLE, Int.reduceLT]); first | done | (simp [looksV, *]; done) | (simp_all [looksV]; done)) | (refine ret0 rfl (by repeat' (first | exact trivial | exact rfl | refine ⟨?_, ?_⟩)) ?_; (try simp (etaStruct := .none) only [push_cast, DrawG, Int.cast_ofNat_Int, Nat.reduceAdd, Nat.reduceSub, Nat.reduceMul, reduceCtorEq, reduceIte, Nat.reduceEqDiff, Nat.reduceLT, Nat.reduceLeDiff, Nat.reduceBEq, Int.reduceToNat, Int.reduceLE, Int.reduceLT]); (try simp [looksV, *]); (try (first | exact Wk.refl _ | exact Wk.nil _ | (refine Wk.tup ?_; repeat' (first | exact trivial | exact Wk.refl _ | exact Wk.nil _ | refine ⟨?_, ?_⟩ | (refine Wk.agg ?_)))))))
theorem at_2 (f : Fld) (c : Cel) : (atV f c).2 = if fldE f ≠ 0 then fldE f else if inF f c then 0 else 7 := by
  unfold atV; split
  · rfl
  · split <;> rfl
theorem at_0 {f : Fld} {c : Cel} (h : (atV f c).2 = 0) : fldE f = 0 ∧ inF f c = true := by
  rw [at_2] at h
  split at h
  · rename_i h1; exact absurd h h1
  · rename_i h1
    split at h
    · rename_i h2; exact ⟨Decidable.not_not.1 h1, h2⟩
    · simp at h
def cellN (w : Int) (i : Nat) : Cel := ⟨(i : Int) % w, (i : Int) / w⟩
def seenB (f : Fld) (c : Cel) (r : Int) (m : Cel) : Bool := decide (max ((m.x - c.x).natAbs : Int) ((m.y - c.y).natAbs : Int) ≤ r) && looksV f c m
def seenL (f : Fld) (c : Cel) (r : Int) (n : Nat) : List Cel := ((List.range n).map (cellN f.w)).filter (seenB f c r)
theorem seenL_succ (f : Fld) (c : Cel) (r : Int) (n : Nat) : seenL f c r (n + 1) = seenL f c r n ++ if seenB f c r (cellN f.w n) then [cellN f.w n] else [] := by
  unfold seenL
  rw [List.range_succ, List.map_append, List.filter_append]
  congr 1
  simp [List.filter_cons]
theorem seenL_t {f : Fld} {c : Cel} {r : Int} {n : Nat} (h : seenB f c r (cellN f.w n) = true) : seenL f c r (n + 1) = seenL f c r n ++ [cellN f.w n] := by rw [seenL_succ, if_pos h]
theorem seenL_f {f : Fld} {c : Cel} {r : Int} {n : Nat} (h : seenB f c r (cellN f.w n) = false) : seenL f c r (n + 1) = seenL f c r n := by rw [seenL_succ, if_neg (by simp [h]), List.append_nil]
theorem seenL_skip (f : Fld) (c : Cel) (r : Int) (n : Nat) : ∀ d, (∀ i, n ≤ i → i < n + d → seenB f c r (cellN f.w i) = false) → seenL f c r (n + d) = seenL f c r n
  | 0, _ => rfl
  | d + 1, h => by rw [← Nat.add_assoc, seenL_f (h _ (by omega) (by omega))]; exact seenL_skip f c r n d fun i h1 h2 => h i h1 (by omega)
theorem seenL_to {f : Fld} {c : Cel} {r : Int} {n m : Nat} (hnm : n ≤ m) (h : ∀ i, n ≤ i → i < m → seenB f c r (cellN f.w i) = false) : seenL f c r m = seenL f c r n := by
  rw [show m = n + (m - n) by omega]; exact seenL_skip f c r n _ fun i h1 h2 => h i h1 (by omega)
theorem seenL_len (f : Fld) (c : Cel) (r : Int) (n : Nat) : (seenL f c r n).length ≤ n := by
  unfold seenL
  exact Nat.le_trans (List.length_filter_le _ _) (by simp)
theorem seen_far {f : Fld} {c : Cel} {r : Int} {m : Cel} (h : m.x < c.x - r ∨ c.x + r < m.x ∨ m.y < c.y - r ∨ c.y + r < m.y) : seenB f c r m = false := by
  unfold seenB
  rw [decide_eq_false (by omega)]; rfl
theorem cellN_at {w : Int} {W X Y : Nat} (hw : w = W) (hX : X < W) : cellN w (Y * W + X) = ⟨X, Y⟩ := by
  have e1 : (Y * W + X) % W = X := by rw [Nat.mul_comm, Nat.mul_add_mod, Nat.mod_eq_of_lt hX]
  have e2 : (Y * W + X) / W = Y := by rw [Nat.mul_comm, Nat.mul_add_div (by omega), Nat.div_eq_of_lt hX, Nat.add_zero]
  unfold cellN
  rw [hw, ← Int.natCast_emod, ← Int.natCast_ediv, e1, e2]
theorem cellN_in {f : Fld} (hf : fldE f = 0) {i : Nat} (hi : (i : Int) < f.w * f.h) : inF f (cellN f.w i) = true := by
  obtain ⟨h1, h2, _, _⟩ := fldE_ok hf
  rw [inF_iff]
  unfold cellN
  have := Int.emod_nonneg (i : Int) (show f.w ≠ 0 by omega)
  have := Int.emod_lt_of_pos (i : Int) (show 0 < f.w by omega)
  have := Int.ediv_nonneg (a := (i : Int)) (b := f.w) (by omega) (by omega)
  have : (i : Int) / f.w < f.h := Int.ediv_lt_of_lt_mul (by omega) (by rw [Int.mul_comm]; exact hi)
  simp only; omega
def seenV (f : Fld) (c : Cel) (r : Int) : List Cel × Int :=
  if fldE f ≠ 0 then ([], fldE f) else if inF f c = false then ([], 7) else if within r 0 12 = false then ([], 1) else (seenL f c r f.p.length, 0)
end Go.Proofs.Ytehcnnodkhcgfaa
namespace Go.Proofs.Ytehcnnodkhcgfaa
set_option linter.all false
open Go.RowKit
set_option maxRecDepth 100000
set_option maxHeartbeats 4000000
theorem row_mod {i W Y : Nat} (h1 : Y * W ≤ i) (h2 : i < Y * W + W) : i % W = i - Y * W := by
  have e : i = W * Y + (i - Y * W) := by rw [Nat.mul_comm W]; omega
  have e2 : (W * Y + (i - Y * W)) % W = i - Y * W := by rw [Nat.mul_add_mod, Nat.mod_eq_of_lt (by omega)]
  rw [← e] at e2; exact e2
theorem seen_s (f : Fld) (c : Cel) (r : Int) (hl : f.p.length ≤ 9223372036854775807) : Spec Try.prog 203 [fldA f, celA c, I .i64 r] [] (.tup [.c (.sl 2 ((seenV f c r).1.map celP)), I .i64 (seenV f c r).2]) [] := by
  refine spec_am Try.func203 rfl rfl mix 81 rfl [.tmp 6, .tmp 7] Try.results203 (Nat.le_of_ble_eq_true rfl) ?_
  (try simp (etaStruct := .none) only [push_cast, DrawG, Int.cast_ofNat_Int, Nat.reduceAdd, Nat.reduceSub, Nat.reduceMul, reduceCtorEq, reduceIte, Nat.reduceEqDiff, Nat.reduceLT, Nat.reduceLeDiff, Nat.reduceBEq, Int.reduceToNat, Int.reduceLE, Int.reduceLT]); (try simp (disch := omega) only [wrap_in, wk_self, Int.tdiv_eq_ediv_of_nonneg, Int.tmod_eq_emod_of_nonneg]); (repeat (with_reducible refine And.intro ?_ ?_; · first | omega | decide | (simp; done) | (simp; omega) | (intro hh; refine ⟨hh, ?_⟩; omega) | (simp +contextual; done)))
  refine callP (at_s f c hl) (WkL.refl _) ?_
  (try simp (etaStruct := .none) only [push_cast, DrawG, Int.cast_ofNat_Int, Nat.reduceAdd, Nat.reduceSub, Nat.reduceMul, reduceCtorEq, reduceIte, Nat.reduceEqDiff, Nat.reduceLT, Nat.reduceLeDiff, Nat.reduceBEq, Int.reduceToNat, Int.reduceLE, Int.reduceLT]); (try simp (disch := omega) only [wrap_in, wk_self, Int.tdiv_eq_ediv_of_nonneg, Int.tmod_eq_emod_of_nonneg]); (repeat (with_reducible refine And.intro ?_ ?_; · first | omega | decide | (simp; done) | (simp; omega) | (intro hh; refine ⟨hh, ?_⟩; omega) | (simp +contextual; done)))
  refine cond_i (fun h1 => ?_) (fun h1 => ?_)
  · (try simp only [decide_eq_true_eq, decide_eq_false_iff_not, Bool.not_eq_true', Bool.not_eq_false', Bool.or_eq_true, Bool.and_eq_true, Bool.or_eq_false_iff, Bool.and_eq_false_iff, Int.not_lt, Int.not_le, Bool.not_true, Bool.not_false, not_and, not_or] at h1)
    have e2 := at_2 f c
    have e3 : seenV f c r = ([], (atV f c).2) := by
      unfold seenV
      by_cases hf : fldE f = 0
      · rw [if_neg (by simp [hf])]
        rw [if_neg (by simp [hf])] at e2
        cases hc : inF f c with
        | true => rw [hc] at e2; exact absurd e2 h1
        | false => rw [hc] at e2; rw [e2]; rfl
      · rw [if_pos hf] at e2 ⊢; rw [e2]
    (try simp (etaStruct := .none) only [push_cast, DrawG, Int.cast_ofNat_Int, Nat.reduceAdd, Nat.reduceSub, Nat.reduceMul, reduceCtorEq, reduceIte, Nat.reduceEqDiff, Nat.reduceLT, Nat.reduceLeDiff, Nat.reduceBEq, Int.reduceToNat, Int.reduceLE, Int.reduceLT]); (try simp (disch := omega) only [wrap_in, wk_self, Int.tdiv_eq_ediv_of_nonneg, Int.tmod_eq_emod_of_nonneg]); (repeat (with_reducible refine And.intro ?_ ?_; · first | omega | decide | (simp; done) | (simp; omega) | (intro hh; refine ⟨hh, ?_⟩; omega) | (simp +contextual; done)))
    exact ret0 rfl trivial (by rw [e3]; exact Wk.tup ⟨Wk.nil _, Wk.refl _, trivial⟩)
  · (try simp only [decide_eq_true_eq, decide_eq_false_iff_not, Bool.not_eq_true', Bool.not_eq_false', Bool.or_eq_true, Bool.and_eq_true, Bool.or_eq_false_iff, Bool.and_eq_false_iff, Int.not_lt, Int.not_le, Bool.not_true, Bool.not_false, not_and, not_or] at h1)
    obtain ⟨hf, hc⟩ := at_0 h1
    obtain ⟨g1, g2, g3, g4⟩ := fldE_ok hf
    have hc2 := inF_iff.1 hc
    (try simp (etaStruct := .none) only [push_cast, DrawG, Int.cast_ofNat_Int, Nat.reduceAdd, Nat.reduceSub, Nat.reduceMul, reduceCtorEq, reduceIte, Nat.reduceEqDiff, Nat.reduceLT, Nat.reduceLeDiff, Nat.reduceBEq, Int.reduceToNat, Int.reduceLE, Int.reduceLT]); (try simp (disch := omega) only [wrap_in, wk_self, Int.tdiv_eq_ediv_of_nonneg, Int.tmod_eq_emod_of_nonneg]); (repeat (with_reducible refine And.intro ?_ ?_; · first | omega | decide | (simp; done) | (simp; omega) | (intro hh; refine ⟨hh, ?_⟩; omega) | (simp +contextual; done)))
    refine cond_i (fun h2 => ?_) (fun h2 => ?_)
    · (try simp only [decide_eq_true_eq, decide_eq_false_iff_not, Bool.not_eq_true', Bool.not_eq_false', Bool.or_eq_true, Bool.and_eq_true, Bool.or_eq_false_iff, Bool.and_eq_false_iff, Int.not_lt, Int.not_le, Bool.not_true, Bool.not_false, not_and, not_or] at h2)
      have e3 : seenV f c r = ([], 1) := by
        unfold seenV
        rw [if_neg (by simp [hf]), if_neg (by simp [hc]), if_pos (within_f.2 (by omega))]
      (try simp (etaStruct := .none) only [push_cast, DrawG, Int.cast_ofNat_Int, Nat.reduceAdd, Nat.reduceSub, Nat.reduceMul, reduceCtorEq, reduceIte, Nat.reduceEqDiff, Nat.reduceLT, Nat.reduceLeDiff, Nat.reduceBEq, Int.reduceToNat, Int.reduceLE, Int.reduceLT]); (try simp (disch := omega) only [wrap_in, wk_self, Int.tdiv_eq_ediv_of_nonneg, Int.tmod_eq_emod_of_nonneg]); (repeat (with_reducible refine And.intro ?_ ?_; · first | omega | decide | (simp; done) | (simp; omega) | (intro hh; refine ⟨hh, ?_⟩; omega) | (simp +contextual; done)))
      exact ret0 rfl trivial (by rw [e3]; exact Wk.tup ⟨Wk.nil _, Wk.refl _, trivial⟩)
    · (try simp only [decide_eq_true_eq, decide_eq_false_iff_not, Bool.not_eq_true', Bool.not_eq_false', Bool.or_eq_true, Bool.and_eq_true, Bool.or_eq_false_iff, Bool.and_eq_false_iff, Int.not_lt, Int.not_le, Bool.not_true, Bool.not_false, not_and, not_or] at h2)
      have e3 : seenV f c r = (seenL f c r f.p.length, 0) := by
        unfold seenV
        rw [if_neg (by simp [hf]), if_neg (by simp [hc]), if_neg (by rw [within_iff.2 (by omega)]; simp)]
      have hm2 : f.w * f.h ≤ 40 * 40 := Int.mul_le_mul g1.2 g2.2 (by omega) (by omega)
      obtain ⟨W, hW⟩ : ∃ W : Nat, f.w = W := ⟨f.w.toNat, by omega⟩
      obtain ⟨Y0, hY0⟩ : ∃ Y : Nat, (Y : Int) = max 0 (c.y - r) := ⟨(max 0 (c.y - r)).toNat, by omega⟩
      obtain ⟨X0, hX0⟩ : ∃ X : Nat, (X : Int) = max 0 (c.x - r) := ⟨(max 0 (c.x - r)).toNat, by omega⟩
      have E1 : (if c.y - r > 0 then c.y - r else 0) = (Y0 : Int) := by split <;> omega
      have E2 : (if c.x - r > 0 then c.x - r else 0) = (X0 : Int) := by split <;> omega
      have E3 : (if c.y + r < f.h - 1 then c.y + r else f.h - 1) = min (f.h - 1) (c.y + r) := by split <;> omega
      have E4 : (if c.x + r < f.w - 1 then c.x + r else f.w - 1) = min (f.w - 1) (c.x + r) := by split <;> omega
      have DV : ∀ i : Nat, (cellN f.w i).x = ((i % W : Nat) : Int) ∧ (cellN f.w i).y = ((i / W : Nat) : Int) := by intro i; unfold cellN; rw [hW]; simp
      have Z0 : seenL f c r (Y0 * W) = [] := by
        rw [seenL_to (Nat.zero_le _) fun i _ hi => seen_far (.inr (.inr (.inl ?_)))]
        · rfl
        · rw [(DV i).2]
          have : i / W < Y0 := (Nat.div_lt_iff_lt_mul (by omega)).2 hi
          generalize i / W = q at this ⊢
          omega
      (iterate 2 ((try simp (etaStruct := .none) only [push_cast, DrawG, Int.cast_ofNat_Int, Nat.reduceAdd, Nat.reduceSub, Nat.reduceMul, reduceCtorEq, reduceIte, Nat.reduceEqDiff, Nat.reduceLT, Nat.reduceLeDiff, Nat.reduceBEq, Int.reduceToNat, Int.reduceLE, Int.reduceLT, E1, E2, E3, E4]); (try simp (disch := omega) only [wrap_in, wk_self, Int.tdiv_eq_ediv_of_nonneg, Int.tmod_eq_emod_of_nonneg]); (repeat (with_reducible refine And.intro ?_ ?_; · first | omega | decide | (simp; done) | (simp; omega) | (intro hh; refine ⟨hh, ?_⟩; omega) | (simp +contextual; done)))))
      refine loopI (fun Y : Nat => ⟨[(11, I .i64 Y), (10, .own 2), (4, .ptr 1 0 0), (3, .ptr 0 0 0), (2, I .i64 r)], [(0, .blk 65 [I .i64 f.w, I .i64 f.h, .c (.sl 1 (f.p.map i64P))]), (1, .blk 25 [I .i64 c.x, I .i64 c.y]), (2, .row 25 2 ((seenL f c r (Y * W)).map celP))], 3⟩) (fun Y : Nat => Y0 ≤ Y ∧ (Y : Int) ≤ min (f.h - 1) (c.y + r) + 1) (fun Y : Nat => (min (f.h - 1) (c.y + r) + 1 - Y).toNat) (Y0) (⟨Nat.le_refl _, by omega⟩) ((To.nil 10 25 2 rfl).trans (To.mk [0, 1, 2] rfl rfl (by decide) ?_ ?_)) ?_
      · simp (etaStruct := .none) only [push_cast, DrawG, Int.cast_ofNat_Int, Nat.reduceAdd, Nat.reduceSub, Nat.reduceMul, reduceCtorEq, reduceIte, Nat.reduceEqDiff, Nat.reduceLT, Nat.reduceLeDiff, Nat.reduceBEq, Int.reduceToNat, Int.reduceLE, Int.reduceLT, Z0]
      · simp (etaStruct := .none) only [push_cast, DrawG, Int.cast_ofNat_Int, Nat.reduceAdd, Nat.reduceSub, Nat.reduceMul, reduceCtorEq, reduceIte, Nat.reduceEqDiff, Nat.reduceLT, Nat.reduceLeDiff, Nat.reduceBEq, Int.reduceToNat, Int.reduceLE, Int.reduceLT]
      rintro Y ⟨hY1, hY2⟩
      (iterate 2 ((try simp (etaStruct := .none) only [push_cast, DrawG, Int.cast_ofNat_Int, Nat.reduceAdd, Nat.reduceSub, Nat.reduceMul, reduceCtorEq, reduceIte, Nat.reduceEqDiff, Nat.reduceLT, Nat.reduceLeDiff, Nat.reduceBEq, Int.reduceToNat, Int.reduceLE, Int.reduceLT, E1, E2, E3, E4]); (try simp (disch := omega) only [wrap_in, wk_self, Int.tdiv_eq_ediv_of_nonneg, Int.tmod_eq_emod_of_nonneg]); (repeat (with_reducible refine And.intro ?_ ?_; · first | omega | decide | (simp; done) | (simp; omega) | (intro hh; refine ⟨hh, ?_⟩; omega) | (simp +contextual; done)))))
      refine cond_i (fun h3 => ?_) (fun h3 => ?_)
      · (try simp only [decide_eq_true_eq, decide_eq_false_iff_not, Bool.not_eq_true', Bool.not_eq_false', Bool.or_eq_true, Bool.and_eq_true, Bool.or_eq_false_iff, Bool.and_eq_false_iff, Int.not_lt, Int.not_le, Bool.not_true, Bool.not_false, not_and, not_or] at h3)
        have hYh : (Y : Int) < f.h := by omega
        have R0 : seenL f c r (Y * W + X0) = seenL f c r (Y * W) := seenL_to (by omega) fun i i1 i2 => seen_far (.inl (by
          rw [(DV i).1]
          rw [row_mod i1 (by omega)]
          omega))
        have YW : (Y * W : Nat) + W ≤ 1600 := by
          have : (Y + 1) * W ≤ 40 * 40 := Nat.mul_le_mul (by omega) (by omega)
          rw [Nat.add_mul] at this; omega
        (iterate 2 ((try simp (etaStruct := .none) only [push_cast, DrawG, Int.cast_ofNat_Int, Nat.reduceAdd, Nat.reduceSub, Nat.reduceMul, reduceCtorEq, reduceIte, Nat.reduceEqDiff, Nat.reduceLT, Nat.reduceLeDiff, Nat.reduceBEq, Int.reduceToNat, Int.reduceLE, Int.reduceLT, E1, E2, E3, E4]); (try simp (disch := omega) only [wrap_in, wk_self, Int.tdiv_eq_ediv_of_nonneg, Int.tmod_eq_emod_of_nonneg]); (repeat (with_reducible refine And.intro ?_ ?_; · first | omega | decide | (simp; done) | (simp; omega) | (intro hh; refine ⟨hh, ?_⟩; omega) | (simp +contextual; done)))))
        refine loopI (fun X : Nat => ⟨[(12, I .i64 X), (11, I .i64 Y), (10, .own 2), (4, .ptr 1 0 0), (3, .ptr 0 0 0), (2, I .i64 r)], [(0, .blk 65 [I .i64 f.w, I .i64 f.h, .c (.sl 1 (f.p.map i64P))]), (1, .blk 25 [I .i64 c.x, I .i64 c.y]), (2, .row 25 2 ((seenL f c r (Y * W + X)).map celP))], 3⟩) (fun X : Nat => X0 ≤ X ∧ (X : Int) ≤ min (f.w - 1) (c.x + r) + 1) (fun X : Nat => (min (f.w - 1) (c.x + r) + 1 - X).toNat) (X0) (⟨Nat.le_refl _, by omega⟩) (To.mk [0, 1, 2] rfl rfl (by decide) ?_ ?_) ?_
        · simp (etaStruct := .none) only [push_cast, DrawG, Int.cast_ofNat_Int, Nat.reduceAdd, Nat.reduceSub, Nat.reduceMul, reduceCtorEq, reduceIte, Nat.reduceEqDiff, Nat.reduceLT, Nat.reduceLeDiff, Nat.reduceBEq, Int.reduceToNat, Int.reduceLE, Int.reduceLT, R0]
        · simp (etaStruct := .none) only [push_cast, DrawG, Int.cast_ofNat_Int, Nat.reduceAdd, Nat.reduceSub, Nat.reduceMul, reduceCtorEq, reduceIte, Nat.reduceEqDiff, Nat.reduceLT, Nat.reduceLeDiff, Nat.reduceBEq, Int.reduceToNat, Int.reduceLE, Int.reduceLT]
        rintro X ⟨hX1, hX2⟩
        (iterate 2 ((try simp (etaStruct := .none) only [push_cast, DrawG, Int.cast_ofNat_Int, Nat.reduceAdd, Nat.reduceSub, Nat.reduceMul, reduceCtorEq, reduceIte, Nat.reduceEqDiff, Nat.reduceLT, Nat.reduceLeDiff, Nat.reduceBEq, Int.reduceToNat, Int.reduceLE, Int.reduceLT, E1, E2, E3, E4]); (try simp (disch := omega) only [wrap_in, wk_self, Int.tdiv_eq_ediv_of_nonneg, Int.tmod_eq_emod_of_nonneg]); (repeat (with_reducible refine And.intro ?_ ?_; · first | omega | decide | (simp; done) | (simp; omega) | (intro hh; refine ⟨hh, ?_⟩; omega) | (simp +contextual; done)))))
        refine cond_i (fun h4 => ?_) (fun h4 => ?_)
        · (try simp only [decide_eq_true_eq, decide_eq_false_iff_not, Bool.not_eq_true', Bool.not_eq_false', Bool.or_eq_true, Bool.and_eq_true, Bool.or_eq_false_iff, Bool.and_eq_false_iff, Int.not_lt, Int.not_le, Bool.not_true, Bool.not_false, not_and, not_or] at h4)
          have hXW : X < W := by omega
          have CE : cellN f.w (Y * W + X) = ⟨X, Y⟩ := cellN_at hW hXW
          have hin : inF f ⟨X, Y⟩ = true := inF_iff.2 ⟨⟨by simp only; omega, by simp only; omega⟩, ⟨by simp only; omega, by simp only; omega⟩⟩
          have sl := seenL_len f c r (Y * W + X)
          have NR : decide (max (((⟨X, Y⟩ : Cel).x - c.x).natAbs : Int) (((⟨X, Y⟩ : Cel).y - c.y).natAbs : Int) ≤ r) = true := decide_eq_true (by simp only; omega)
          (iterate 2 ((try simp (etaStruct := .none) only [push_cast, DrawG, Int.cast_ofNat_Int, Nat.reduceAdd, Nat.reduceSub, Nat.reduceMul, reduceCtorEq, reduceIte, Nat.reduceEqDiff, Nat.reduceLT, Nat.reduceLeDiff, Nat.reduceBEq, Int.reduceToNat, Int.reduceLE, Int.reduceLT, E1, E2, E3, E4]); (try simp (disch := omega) only [wrap_in, wk_self, Int.tdiv_eq_ediv_of_nonneg, Int.tmod_eq_emod_of_nonneg]); (repeat (with_reducible refine And.intro ?_ ?_; · first | omega | decide | (simp; done) | (simp; omega) | (intro hh; refine ⟨hh, ?_⟩; omega) | (simp +contextual; done)))))
          refine callP (bare_s f c ⟨X, Y⟩ hf hc hin) (WkL.refl _) ?_
          (iterate 2 ((try simp (etaStruct := .none) only [push_cast, DrawG, Int.cast_ofNat_Int, Nat.reduceAdd, Nat.reduceSub, Nat.reduceMul, reduceCtorEq, reduceIte, Nat.reduceEqDiff, Nat.reduceLT, Nat.reduceLeDiff, Nat.reduceBEq, Int.reduceToNat, Int.reduceLE, Int.reduceLT, E1, E2, E3, E4]); (try simp (disch := omega) only [wrap_in, wk_self, Int.tdiv_eq_ediv_of_nonneg, Int.tmod_eq_emod_of_nonneg]); (repeat (with_reducible refine And.intro ?_ ?_; · first | omega | decide | (simp; done) | (simp; omega) | (intro hh; refine ⟨hh, ?_⟩; omega) | (simp +contextual; done)))))
          refine gcallP (fun hcc => bare_s f ⟨X, Y⟩ c hf hin hc) (WkL.refl _) (by intro hc; (try simp (etaStruct := .none) only [push_cast, DrawG, Int.cast_ofNat_Int, Nat.reduceAdd, Nat.reduceSub, Nat.reduceMul, reduceCtorEq, reduceIte, Nat.reduceEqDiff, Nat.reduceLT, Nat.reduceLeDiff, Nat.reduceBEq, Int.reduceToNat, Int.reduceLE, Int.reduceLT]); (try simp_all)) ?_
          (iterate 2 ((try simp (etaStruct := .none) only [push_cast, DrawG, Int.cast_ofNat_Int, Nat.reduceAdd, Nat.reduceSub, Nat.reduceMul, reduceCtorEq, reduceIte, Nat.reduceEqDiff, Nat.reduceLT, Nat.reduceLeDiff, Nat.reduceBEq, Int.reduceToNat, Int.reduceLE, Int.reduceLT, E1, E2, E3, E4]); (try simp (disch := omega) only [wrap_in, wk_self, Int.tdiv_eq_ediv_of_nonneg, Int.tmod_eq_emod_of_nonneg]); (repeat (with_reducible refine And.intro ?_ ?_; · first | omega | decide | (simp; done) | (simp; omega) | (intro hh; refine ⟨hh, ?_⟩; omega) | (simp +contextual; done)))))
          refine cond_i (fun h5 => ?_) (fun h5 => ?_)
          · (try simp only [decide_eq_true_eq, decide_eq_false_iff_not, Bool.not_eq_true', Bool.not_eq_false', Bool.or_eq_true, Bool.and_eq_true, Bool.or_eq_false_iff, Bool.and_eq_false_iff, Int.not_lt, Int.not_le, Bool.not_true, Bool.not_false, not_and, not_or] at h5)
            have sb : seenB f c r (cellN f.w (Y * W + X)) = true := by unfold seenB; rw [CE, NR]; unfold looksV; simpa using h5
            have se := seenL_t sb
            rw [CE] at se
            (iterate 2 ((try simp (etaStruct := .none) only [push_cast, DrawG, Int.cast_ofNat_Int, Nat.reduceAdd, Nat.reduceSub, Nat.reduceMul, reduceCtorEq, reduceIte, Nat.reduceEqDiff, Nat.reduceLT, Nat.reduceLeDiff, Nat.reduceBEq, Int.reduceToNat, Int.reduceLE, Int.reduceLT, E1, E2, E3, E4]); (try simp (disch := omega) only [wrap_in, wk_self, Int.tdiv_eq_ediv_of_nonneg, Int.tmod_eq_emod_of_nonneg]); (repeat (with_reducible refine And.intro ?_ ?_; · first | omega | decide | (simp; done) | (simp; omega) | (intro hh; refine ⟨hh, ?_⟩; omega) | (simp +contextual; done)))))
            refine ⟨X + 1, ⟨by omega, by omega⟩, by omega, To.mk [0, 1, 5] rfl rfl (by decide) ?_ ?_⟩
            · (iterate 2 ((try simp (etaStruct := .none) only [push_cast, DrawG, Int.cast_ofNat_Int, Nat.reduceAdd, Nat.reduceSub, Nat.reduceMul, reduceCtorEq, reduceIte, Nat.reduceEqDiff, Nat.reduceLT, Nat.reduceLeDiff, Nat.reduceBEq, Int.reduceToNat, Int.reduceLE, Int.reduceLT, ← Nat.add_assoc, se, List.map_append, celP]); (try simp (disch := omega) only [wrap_in, wk_self, Int.tdiv_eq_ediv_of_nonneg, Int.tmod_eq_emod_of_nonneg]); (repeat (with_reducible refine And.intro ?_ ?_; · first | omega | decide | (simp; done) | (simp; omega) | (intro hh; refine ⟨hh, ?_⟩; omega) | (simp +contextual; done)))))
            · (iterate 2 ((try simp (etaStruct := .none) only [push_cast, DrawG, Int.cast_ofNat_Int, Nat.reduceAdd, Nat.reduceSub, Nat.reduceMul, reduceCtorEq, reduceIte, Nat.reduceEqDiff, Nat.reduceLT, Nat.reduceLeDiff, Nat.reduceBEq, Int.reduceToNat, Int.reduceLE, Int.reduceLT, E1, E2, E3, E4]); (try simp (disch := omega) only [wrap_in, wk_self, Int.tdiv_eq_ediv_of_nonneg, Int.tmod_eq_emod_of_nonneg]); (repeat (with_reducible refine And.intro ?_ ?_; · first | omega | decide | (simp; done) | (simp; omega) | (intro hh; refine ⟨hh, ?_⟩; omega) | (simp +contextual; done)))))
          · (try simp only [decide_eq_true_eq, decide_eq_false_iff_not, Bool.not_eq_true', Bool.not_eq_false', Bool.or_eq_true, Bool.and_eq_true, Bool.or_eq_false_iff, Bool.and_eq_false_iff, Int.not_lt, Int.not_le, Bool.not_true, Bool.not_false, not_and, not_or] at h5)
            have sb : seenB f c r (cellN f.w (Y * W + X)) = false := by unfold seenB; rw [CE, NR]; unfold looksV; simpa using h5
            have se := seenL_f sb
            (iterate 2 ((try simp (etaStruct := .none) only [push_cast, DrawG, Int.cast_ofNat_Int, Nat.reduceAdd, Nat.reduceSub, Nat.reduceMul, reduceCtorEq, reduceIte, Nat.reduceEqDiff, Nat.reduceLT, Nat.reduceLeDiff, Nat.reduceBEq, Int.reduceToNat, Int.reduceLE, Int.reduceLT, E1, E2, E3, E4]); (try simp (disch := omega) only [wrap_in, wk_self, Int.tdiv_eq_ediv_of_nonneg, Int.tmod_eq_emod_of_nonneg]); (repeat (with_reducible refine And.intro ?_ ?_; · first | omega | decide | (simp; done) | (simp; omega) | (intro hh; refine ⟨hh, ?_⟩; omega) | (simp +contextual; done)))))
            refine ⟨X + 1, ⟨by omega, by omega⟩, by omega, To.mk [0, 1, 2] rfl rfl (by decide) ?_ ?_⟩
            · (iterate 2 ((try simp (etaStruct := .none) only [push_cast, DrawG, Int.cast_ofNat_Int, Nat.reduceAdd, Nat.reduceSub, Nat.reduceMul, reduceCtorEq, reduceIte, Nat.reduceEqDiff, Nat.reduceLT, Nat.reduceLeDiff, Nat.reduceBEq, Int.reduceToNat, Int.reduceLE, Int.reduceLT, ← Nat.add_assoc, se, List.map_append, celP]); (try simp (disch := omega) only [wrap_in, wk_self, Int.tdiv_eq_ediv_of_nonneg, Int.tmod_eq_emod_of_nonneg]); (repeat (with_reducible refine And.intro ?_ ?_; · first | omega | decide | (simp; done) | (simp; omega) | (intro hh; refine ⟨hh, ?_⟩; omega) | (simp +contextual; done)))))
            · (iterate 2 ((try simp (etaStruct := .none) only [push_cast, DrawG, Int.cast_ofNat_Int, Nat.reduceAdd, Nat.reduceSub, Nat.reduceMul, reduceCtorEq, reduceIte, Nat.reduceEqDiff, Nat.reduceLT, Nat.reduceLeDiff, Nat.reduceBEq, Int.reduceToNat, Int.reduceLE, Int.reduceLT, E1, E2, E3, E4]); (try simp (disch := omega) only [wrap_in, wk_self, Int.tdiv_eq_ediv_of_nonneg, Int.tmod_eq_emod_of_nonneg]); (repeat (with_reducible refine And.intro ?_ ?_; · first | omega | decide | (simp; done) | (simp; omega) | (intro hh; refine ⟨hh, ?_⟩; omega) | (simp +contextual; done)))))
        · (try simp only [decide_eq_true_eq, decide_eq_false_iff_not, Bool.not_eq_true', Bool.not_eq_false', Bool.or_eq_true, Bool.and_eq_true, Bool.or_eq_false_iff, Bool.and_eq_false_iff, Int.not_lt, Int.not_le, Bool.not_true, Bool.not_false, not_and, not_or] at h4)
          have hX3 : (X : Int) = min (f.w - 1) (c.x + r) + 1 := by omega
          have R1 : seenL f c r ((Y + 1) * W) = seenL f c r (Y * W + X) := seenL_to (by rw [Nat.add_mul]; omega) fun i i1 i2 => by
            rw [Nat.add_mul] at i2
            refine seen_far (.inr (.inl ?_))
            rw [(DV i).1]
            rw [row_mod (Y := Y) (by omega) (by omega)]
            omega
          (iterate 2 ((try simp (etaStruct := .none) only [push_cast, DrawG, Int.cast_ofNat_Int, Nat.reduceAdd, Nat.reduceSub, Nat.reduceMul, reduceCtorEq, reduceIte, Nat.reduceEqDiff, Nat.reduceLT, Nat.reduceLeDiff, Nat.reduceBEq, Int.reduceToNat, Int.reduceLE, Int.reduceLT, E1, E2, E3, E4]); (try simp (disch := omega) only [wrap_in, wk_self, Int.tdiv_eq_ediv_of_nonneg, Int.tmod_eq_emod_of_nonneg]); (repeat (with_reducible refine And.intro ?_ ?_; · first | omega | decide | (simp; done) | (simp; omega) | (intro hh; refine ⟨hh, ?_⟩; omega) | (simp +contextual; done)))))
          refine ⟨Y + 1, ⟨by omega, by omega⟩, by omega, To.mk [0, 1, 2] rfl rfl (by decide) ?_ ?_⟩
          · (iterate 2 ((try simp (etaStruct := .none) only [push_cast, DrawG, Int.cast_ofNat_Int, Nat.reduceAdd, Nat.reduceSub, Nat.reduceMul, reduceCtorEq, reduceIte, Nat.reduceEqDiff, Nat.reduceLT, Nat.reduceLeDiff, Nat.reduceBEq, Int.reduceToNat, Int.reduceLE, Int.reduceLT, R1]); (try simp (disch := omega) only [wrap_in, wk_self, Int.tdiv_eq_ediv_of_nonneg, Int.tmod_eq_emod_of_nonneg]); (repeat (with_reducible refine And.intro ?_ ?_; · first | omega | decide | (simp; done) | (simp; omega) | (intro hh; refine ⟨hh, ?_⟩; omega) | (simp +contextual; done)))))
          · (iterate 2 ((try simp (etaStruct := .none) only [push_cast, DrawG, Int.cast_ofNat_Int, Nat.reduceAdd, Nat.reduceSub, Nat.reduceMul, reduceCtorEq, reduceIte, Nat.reduceEqDiff, Nat.reduceLT, Nat.reduceLeDiff, Nat.reduceBEq, Int.reduceToNat, Int.reduceLE, Int.reduceLT, E1, E2, E3, E4]); (try simp (disch := omega) only [wrap_in, wk_self, Int.tdiv_eq_ediv_of_nonneg, Int.tmod_eq_emod_of_nonneg]); (repeat (with_reducible refine And.intro ?_ ?_; · first | omega | decide | (simp; done) | (simp; omega) | (intro hh; refine ⟨hh, ?_⟩; omega) | (simp +contextual; done)))))
      · (try simp only [decide_eq_true_eq, decide_eq_false_iff_not, Bool.not_eq_true', Bool.not_eq_false', Bool.or_eq_true, Bool.and_eq_true, Bool.or_eq_false_iff, Bool.and_eq_false_iff, Int.not_lt, Int.not_le, Bool.not_true, Bool.not_false, not_and, not_or] at h3)
        have R2 : seenL f c r f.p.length = seenL f c r (Y * W) := by
          have q1 : f.p.length = W * f.h.toNat := by
            have : ((W * f.h.toNat : Nat) : Int) = f.w * f.h := by rw [Int.natCast_mul, hW]; congr 1; omega
            omega
          have q2 : Y * W ≤ W * f.h.toNat := by rw [Nat.mul_comm]; exact Nat.mul_le_mul_left _ (by omega)
          rw [q1]
          refine seenL_to q2 fun i i1 i2 => seen_far (.inr (.inr (.inr ?_)))
          rw [(DV i).2]
          have a1 : Y ≤ i / W := (Nat.le_div_iff_mul_le (by omega)).2 i1
          have a2 : i / W < f.h.toNat := (Nat.div_lt_iff_lt_mul (by omega)).2 (by rw [Nat.mul_comm]; exact i2)
          generalize i / W = q at a1 a2 ⊢
          omega
        (iterate 2 ((try simp (etaStruct := .none) only [push_cast, DrawG, Int.cast_ofNat_Int, Nat.reduceAdd, Nat.reduceSub, Nat.reduceMul, reduceCtorEq, reduceIte, Nat.reduceEqDiff, Nat.reduceLT, Nat.reduceLeDiff, Nat.reduceBEq, Int.reduceToNat, Int.reduceLE, Int.reduceLT, E1, E2, E3, E4]); (try simp (disch := omega) only [wrap_in, wk_self, Int.tdiv_eq_ediv_of_nonneg, Int.tmod_eq_emod_of_nonneg]); (repeat (with_reducible refine And.intro ?_ ?_; · first | omega | decide | (simp; done) | (simp; omega) | (intro hh; refine ⟨hh, ?_⟩; omega) | (simp +contextual; done)))))
        (first | (refine ret0 rfl (by repeat' (first | exact trivial | exact rfl | refine ⟨?_, ?_⟩)) (Wk.of ?_); (try simp (etaStruct := .none) only [push_cast, DrawG, Int.cast_ofNat_Int, Nat.reduceAdd, Nat.reduceSub, Nat.reduceMul, reduceCtorEq, reduceIte, Nat.reduceEqDiff, Nat.reduceLT, Nat.reduceLeDiff, Nat.reduceBEq, Int.reduceToNat, Int.reduceLE, Int.reduceLT]); first | done | (simp [e3, R2, *]; done) | (simp_all [e3, R2]; done)) | (refine ret0 rfl (by repeat' (first | exact trivial | exact rfl | refine ⟨?_, ?_⟩)) ?_; (try simp (etaStruct := .none) only [push_cast, DrawG, Int.cast_ofNat_Int, Nat.reduceAdd, Nat.reduceSub, Nat.reduceMul, reduceCtorEq, reduceIte, Nat.reduceEqDiff, Nat.reduceLT, Nat.reduceLeDiff, Nat.reduceBEq, Int.reduceToNat, Int.reduceLE, Int.reduceLT]); (try simp [e3, R2, *]); (try (first | exact Wk.refl _ | exact Wk.nil _ | (refine Wk.tup ?_; repeat' (first | exact trivial | exact Wk.refl _ | exact Wk.nil _ | refine ⟨?_, ?_⟩ | (refine Wk.agg ?_)))))))
end Go.Proofs.Ytehcnnodkhcgfaa
namespace Go.Proofs.Ytehcnnodkhcgfaa
set_option linter.all false
open Go.RowKit
set_option maxRecDepth 100000
set_option maxHeartbeats 1000000
structure Blw where
  by_ : Int
  at_ : Int
  deriving DecidableEq, Inhabited
def blwP (b : Blw) : List PV := [pI b.by_, pI b.at_]
structure Gop where
  id : Int
  to : Cel
  deriving DecidableEq, Inhabited
def gopP (g : Gop) : List PV := [pI g.id, pI g.to.x, pI g.to.y]
structure Ded where
  kind : Int
  who : Int
  c : Cel
  what : Int
  deriving DecidableEq, Inhabited
def dedP (d : Ded) : List PV := [pI d.kind, pI d.who, pI d.c.x, pI d.c.y, pI d.what]
def findT (w : Wld) (i : Int) : Option Trp := w.troops.find? fun t => decide (t.id = i)
def trp0 : Trp := ⟨0, 0, 0, ⟨0, 0⟩, 0, 0⟩
theorem find_hit {α : Type} [Inhabited α] (p : α → Bool) (l : List α) (k : Nat) (h : k < l.length) (hp : p (l.getD k default) = true) (hn : ∀ j, j < k → p (l.getD j default) = false) : l.find? p = some (l.getD k default) := by
  induction l generalizing k with
  | nil => simp at h
  | cons a r ih =>
    cases k with
    | zero => simp only [List.getD_cons_zero] at hp ⊢; rw [List.find?_cons, hp]
    | succ k =>
      have h0 := hn 0 (by omega)
      simp only [List.getD_cons_zero] at h0
      rw [List.find?_cons, h0]
      simp only [List.getD_cons_succ] at hp ⊢
      exact ih k (by simpa using h) hp (fun j hj => by have := hn (j + 1) (by omega); simpa using this)
theorem find_miss {α : Type} [Inhabited α] (p : α → Bool) (l : List α) (hn : ∀ j, j < l.length → p (l.getD j default) = false) : l.find? p = none := by
  rw [List.find?_eq_none]
  intro x hx
  obtain ⟨i, hi, rfl⟩ := List.getElem_of_mem hx
  have := hn i hi
  rw [getD_at _ _ hi] at this
  simp [this]
theorem troopOf_s (w : Wld) (i : Int) (hl : wldL w) : Spec Try.prog 54 [wldA w, I .i64 i] [] (.tup [trpA ((findT w i).getD trp0), B (findT w i).isSome]) [] := by
  obtain ⟨l1, l2, l3, l4, l5⟩ := hl
  refine spec_am Try.func54 rfl rfl mix 22 rfl [.cell 4 103, .tmp 5] Try.results54 (Nat.le_of_ble_eq_true rfl) ?_
  (try simp (etaStruct := .none) only [push_cast, DrawG, Int.cast_ofNat_Int, Nat.reduceAdd, Nat.reduceSub, Nat.reduceMul, reduceCtorEq, reduceIte, Nat.reduceEqDiff, Nat.reduceLT, Nat.reduceLeDiff, Nat.reduceBEq, Int.reduceToNat, Int.reduceLE, Int.reduceLT]); (try simp (disch := omega) only [wrap_in, wk_self, Int.tdiv_eq_ediv_of_nonneg, Int.tmod_eq_emod_of_nonneg]); (repeat (with_reducible refine And.intro ?_ ?_; · first | omega | decide | (simp; done) | (simp; omega) | (intro hh; refine ⟨hh, ?_⟩; omega) | (simp +contextual; done)))
  refine loopI (fun k : Nat => ⟨[(11, I .i64 k), (10, I .i64 w.troops.length), (9, .c (.sl 7 (w.troops.map trpP))), (4, .ptr 0 0 0), (1, I .i64 i)], [(0, .blk 103 [I .i64 0, I .i64 0, I .i64 0, I .i64 0, I .i64 0, I .i64 0, I .i64 0])], 1⟩) (fun k : Nat => k ≤ w.troops.length ∧ ∀ j, j < k → decide ((w.troops.getD j default).id = i) = false) (fun k : Nat => w.troops.length - k) (0) (⟨Nat.zero_le _, fun j h => by omega⟩) (To.mk [1] rfl rfl (by decide) ?_ ?_) ?_
  · simp (etaStruct := .none) only [push_cast, DrawG, Int.cast_ofNat_Int, Nat.reduceAdd, Nat.reduceSub, Nat.reduceMul, reduceCtorEq, reduceIte, Nat.reduceEqDiff, Nat.reduceLT, Nat.reduceLeDiff, Nat.reduceBEq, Int.reduceToNat, Int.reduceLE, Int.reduceLT]
  · simp (etaStruct := .none) only [push_cast, DrawG, Int.cast_ofNat_Int, Nat.reduceAdd, Nat.reduceSub, Nat.reduceMul, reduceCtorEq, reduceIte, Nat.reduceEqDiff, Nat.reduceLT, Nat.reduceLeDiff, Nat.reduceBEq, Int.reduceToNat, Int.reduceLE, Int.reduceLT]
  rintro k ⟨hk, hn⟩
  (try simp (etaStruct := .none) only [push_cast, DrawG, Int.cast_ofNat_Int, Nat.reduceAdd, Nat.reduceSub, Nat.reduceMul, reduceCtorEq, reduceIte, Nat.reduceEqDiff, Nat.reduceLT, Nat.reduceLeDiff, Nat.reduceBEq, Int.reduceToNat, Int.reduceLE, Int.reduceLT]); (try simp (disch := omega) only [wrap_in, wk_self, Int.tdiv_eq_ediv_of_nonneg, Int.tmod_eq_emod_of_nonneg]); (repeat (with_reducible refine And.intro ?_ ?_; · first | omega | decide | (simp; done) | (simp; omega) | (intro hh; refine ⟨hh, ?_⟩; omega) | (simp +contextual; done)))
  refine cond_i (fun h1 => ?_) (fun h1 => ?_)
  · (try simp only [decide_eq_true_eq, decide_eq_false_iff_not, Bool.not_eq_true', Bool.not_eq_false', Bool.or_eq_true, Bool.and_eq_true, Bool.or_eq_false_iff, Bool.and_eq_false_iff, Int.not_lt, Int.not_le, Bool.not_true, Bool.not_false, not_and, not_or] at h1)
    have hlt : k < w.troops.length := by omega
    (iterate 2 ((try simp (etaStruct := .none) only [push_cast, DrawG, Int.cast_ofNat_Int, Nat.reduceAdd, Nat.reduceSub, Nat.reduceMul, reduceCtorEq, reduceIte, Nat.reduceEqDiff, Nat.reduceLT, Nat.reduceLeDiff, Nat.reduceBEq, Int.reduceToNat, Int.reduceLE, Int.reduceLT, getD_in _ _ _ hlt, trpP]); (try simp (disch := omega) only [wrap_in, wk_self, Int.tdiv_eq_ediv_of_nonneg, Int.tmod_eq_emod_of_nonneg]); (repeat (with_reducible refine And.intro ?_ ?_; · first | omega | decide | (simp; done) | (simp; omega) | (intro hh; refine ⟨hh, ?_⟩; omega) | (simp +contextual; done)))))
    refine cond_i (fun h2 => ?_) (fun h2 => ?_)
    · (try simp only [decide_eq_true_eq, decide_eq_false_iff_not, Bool.not_eq_true', Bool.not_eq_false', Bool.or_eq_true, Bool.and_eq_true, Bool.or_eq_false_iff, Bool.and_eq_false_iff, Int.not_lt, Int.not_le, Bool.not_true, Bool.not_false, not_and, not_or] at h2)
      have e : findT w i = some (w.troops.getD k default) := find_hit _ _ k hlt (by simpa using h2) (fun j hj => by simpa using hn j hj)
      (iterate 2 ((try simp (etaStruct := .none) only [push_cast, DrawG, Int.cast_ofNat_Int, Nat.reduceAdd, Nat.reduceSub, Nat.reduceMul, reduceCtorEq, reduceIte, Nat.reduceEqDiff, Nat.reduceLT, Nat.reduceLeDiff, Nat.reduceBEq, Int.reduceToNat, Int.reduceLE, Int.reduceLT, getD_in _ _ _ hlt, trpP]); (try simp (disch := omega) only [wrap_in, wk_self, Int.tdiv_eq_ediv_of_nonneg, Int.tmod_eq_emod_of_nonneg]); (repeat (with_reducible refine And.intro ?_ ?_; · first | omega | decide | (simp; done) | (simp; omega) | (intro hh; refine ⟨hh, ?_⟩; omega) | (simp +contextual; done)))))
      refine ret0 rfl (by repeat' (first | exact trivial | exact rfl | refine ⟨?_, ?_⟩)) (Wk.of ?_)
      rw [e]; simp (etaStruct := .none) only [push_cast, DrawG, Int.cast_ofNat_Int, Nat.reduceAdd, Nat.reduceSub, Nat.reduceMul, reduceCtorEq, reduceIte, Nat.reduceEqDiff, Nat.reduceLT, Nat.reduceLeDiff, Nat.reduceBEq, Int.reduceToNat, Int.reduceLE, Int.reduceLT]
      try rfl
    · (try simp only [decide_eq_true_eq, decide_eq_false_iff_not, Bool.not_eq_true', Bool.not_eq_false', Bool.or_eq_true, Bool.and_eq_true, Bool.or_eq_false_iff, Bool.and_eq_false_iff, Int.not_lt, Int.not_le, Bool.not_true, Bool.not_false, not_and, not_or] at h2)
      (iterate 2 ((try simp (etaStruct := .none) only [push_cast, DrawG, Int.cast_ofNat_Int, Nat.reduceAdd, Nat.reduceSub, Nat.reduceMul, reduceCtorEq, reduceIte, Nat.reduceEqDiff, Nat.reduceLT, Nat.reduceLeDiff, Nat.reduceBEq, Int.reduceToNat, Int.reduceLE, Int.reduceLT, getD_in _ _ _ hlt, trpP]); (try simp (disch := omega) only [wrap_in, wk_self, Int.tdiv_eq_ediv_of_nonneg, Int.tmod_eq_emod_of_nonneg]); (repeat (with_reducible refine And.intro ?_ ?_; · first | omega | decide | (simp; done) | (simp; omega) | (intro hh; refine ⟨hh, ?_⟩; omega) | (simp +contextual; done)))))
      refine ⟨k + 1, ⟨by omega, fun j hj => by
  rcases Nat.lt_or_ge j k with h | h
  · simpa using hn j h
  · rw [show j = k by omega]; simpa using h2⟩, by omega, To.mk [0] rfl rfl (by decide) ?_ ?_⟩
      · (iterate 2 ((try simp (etaStruct := .none) only [push_cast, DrawG, Int.cast_ofNat_Int, Nat.reduceAdd, Nat.reduceSub, Nat.reduceMul, reduceCtorEq, reduceIte, Nat.reduceEqDiff, Nat.reduceLT, Nat.reduceLeDiff, Nat.reduceBEq, Int.reduceToNat, Int.reduceLE, Int.reduceLT, getD_in _ _ _ hlt, trpP]); (try simp (disch := omega) only [wrap_in, wk_self, Int.tdiv_eq_ediv_of_nonneg, Int.tmod_eq_emod_of_nonneg]); (repeat (with_reducible refine And.intro ?_ ?_; · first | omega | decide | (simp; done) | (simp; omega) | (intro hh; refine ⟨hh, ?_⟩; omega) | (simp +contextual; done)))))
      · (iterate 2 ((try simp (etaStruct := .none) only [push_cast, DrawG, Int.cast_ofNat_Int, Nat.reduceAdd, Nat.reduceSub, Nat.reduceMul, reduceCtorEq, reduceIte, Nat.reduceEqDiff, Nat.reduceLT, Nat.reduceLeDiff, Nat.reduceBEq, Int.reduceToNat, Int.reduceLE, Int.reduceLT, getD_in _ _ _ hlt, trpP]); (try simp (disch := omega) only [wrap_in, wk_self, Int.tdiv_eq_ediv_of_nonneg, Int.tmod_eq_emod_of_nonneg]); (repeat (with_reducible refine And.intro ?_ ?_; · first | omega | decide | (simp; done) | (simp; omega) | (intro hh; refine ⟨hh, ?_⟩; omega) | (simp +contextual; done)))))
  · (try simp only [decide_eq_true_eq, decide_eq_false_iff_not, Bool.not_eq_true', Bool.not_eq_false', Bool.or_eq_true, Bool.and_eq_true, Bool.or_eq_false_iff, Bool.and_eq_false_iff, Int.not_lt, Int.not_le, Bool.not_true, Bool.not_false, not_and, not_or] at h1)
    have e : findT w i = none := find_miss _ _ (fun j hj => by simpa using hn j (by omega))
    (try simp (etaStruct := .none) only [push_cast, DrawG, Int.cast_ofNat_Int, Nat.reduceAdd, Nat.reduceSub, Nat.reduceMul, reduceCtorEq, reduceIte, Nat.reduceEqDiff, Nat.reduceLT, Nat.reduceLeDiff, Nat.reduceBEq, Int.reduceToNat, Int.reduceLE, Int.reduceLT]); (try simp (disch := omega) only [wrap_in, wk_self, Int.tdiv_eq_ediv_of_nonneg, Int.tmod_eq_emod_of_nonneg]); (repeat (with_reducible refine And.intro ?_ ?_; · first | omega | decide | (simp; done) | (simp; omega) | (intro hh; refine ⟨hh, ?_⟩; omega) | (simp +contextual; done)))
    refine ret0 rfl (by repeat' (first | exact trivial | exact rfl | refine ⟨?_, ?_⟩)) (Wk.of ?_)
    rw [e]; simp (etaStruct := .none) only [push_cast, DrawG, Int.cast_ofNat_Int, Nat.reduceAdd, Nat.reduceSub, Nat.reduceMul, reduceCtorEq, reduceIte, Nat.reduceEqDiff, Nat.reduceLT, Nat.reduceLeDiff, Nat.reduceBEq, Int.reduceToNat, Int.reduceLE, Int.reduceLT]
    try rfl
def allowV (o : Ord) (w : Wld) : Bool := if o.kind = 5 then decide (o.by_ < w.bases.length) else match findT w o.who with | some t => decide (t.owner = o.by_) | none => false
def addB (o : Ord) : List Blw := if o.kind = 1 then [⟨o.who, o.what⟩] else []
def addG (o : Ord) : List Gop := if o.kind = 2 then [⟨o.who, o.c⟩] else []
def dedOf (o : Ord) : Ded := ⟨o.kind - 2, if o.kind = 5 then o.by_ else o.who, o.c, o.what⟩
def addD (o : Ord) : List Ded := if 2 < o.kind then [dedOf o] else []
def blowsV (l : List Ord) (w : Wld) : List Blw := (l.filter fun o => allowV o w).flatMap addB
def goesV (l : List Ord) (w : Wld) : List Gop := (l.filter fun o => allowV o w).flatMap addG
def deedsV (l : List Ord) (w : Wld) : List Ded := (l.filter fun o => allowV o w).flatMap addD
theorem flat_step {α : Type} (p : Ord → Bool) (f : Ord → List α) (l : List Ord) (k : Nat) (h : k < l.length) : ((l.take (k + 1)).filter p).flatMap f = ((l.take k).filter p).flatMap f ++ (if p (l.getD k default) then f (l.getD k default) else []) := by
  rw [filter_snoc p l k h]
  split <;> simp
theorem ford_len {α : Type} (p : Ord → Bool) (f : Ord → List α) (hf : ∀ o, (f o).length ≤ 1) : ∀ l : List Ord, ((l.filter p).flatMap f).length ≤ l.length
  | [] => by simp
  | a :: r => by
    have := ford_len p f hf r
    have h1 := hf a
    rw [List.filter_cons]
    split
    · rw [List.flatMap_cons, List.length_append, List.length_cons]; omega
    · rw [List.length_cons]; omega
theorem addB_len (o : Ord) : (addB o).length ≤ 1 := by unfold addB; split <;> simp
theorem addG_len (o : Ord) : (addG o).length ≤ 1 := by unfold addG; split <;> simp
theorem addD_len (o : Ord) : (addD o).length ≤ 1 := by unfold addD; split <;> simp
end Go.Proofs.Ytehcnnodkhcgfaa
namespace Go.Proofs.Ytehcnnodkhcgfaa
set_option linter.all false
open Go.RowKit
section
variable {α : Type} [Inhabited α] (key : α → Int)
def swapL (l : List α) (i j : Nat) : List α := (l.set i (l.getD j default)).set j (l.getD i default)
theorem swapL_len (l : List α) (i j : Nat) : (swapL l i j).length = l.length := by simp [swapL]
theorem swapL_getD (l : List α) {i j k : Nat} (hi : i < l.length) (hj : j < l.length) (hk : k < l.length) : (swapL l i j).getD k default = if k = j then l.getD i default else if k = i then l.getD j default else l.getD k default := by
  unfold swapL
  rw [getD_at _ _ (by simpa using hk), List.getElem_set, List.getElem_set]
  by_cases h1 : j = k
  · rw [if_pos h1, if_pos h1.symm]
  · rw [if_neg h1, if_neg (Ne.symm h1)]
    by_cases h2 : i = k
    · rw [if_pos h2, if_pos h2.symm]
    · rw [if_neg h2, if_neg (Ne.symm h2), getD_at _ _ hk]
theorem mem_getD {l : List α} {x : α} : x ∈ l ↔ ∃ k, k < l.length ∧ l.getD k default = x := by
  constructor
  · intro h
    obtain ⟨k, hk, e⟩ := List.getElem_of_mem h
    exact ⟨k, hk, by rw [getD_at _ _ hk]; exact e⟩
  · rintro ⟨k, hk, rfl⟩
    exact getD_mem l k hk
theorem swapL_mem (l : List α) {i j : Nat} (hi : i < l.length) (hj : j < l.length) (x : α) : x ∈ swapL l i j ↔ x ∈ l := by
  rw [mem_getD, mem_getD, swapL_len]
  constructor
  · rintro ⟨k, hk, e⟩
    rw [swapL_getD l hi hj hk] at e
    split at e
    · exact ⟨i, hi, e⟩
    · split at e
      · exact ⟨j, hj, e⟩
      · exact ⟨k, hk, e⟩
  · rintro ⟨k, hk, e⟩
    by_cases h1 : k = i
    · subst h1
      refine ⟨j, hj, ?_⟩
      rw [swapL_getD l hi hj hj, if_pos rfl]; exact e
    · by_cases h2 : k = j
      · subst h2
        refine ⟨i, hi, ?_⟩
        rw [swapL_getD l hi hj hi]
        by_cases h3 : i = k
        · exact absurd h3.symm h1
        · rw [if_neg h3, if_pos rfl]; exact e
      · exact ⟨k, hk, by rw [swapL_getD l hi hj hk, if_neg h2, if_neg h1]; exact e⟩
def par (k : Nat) : Nat := (k - 1) / 2
def HeapN (l : List α) (n : Nat) : Prop := ∀ k, 0 < k → k < n → key (l.getD (par k) default) ≤ key (l.getD k default)
def hup (l : List α) (j : Nat) : List α := if par j = j ∨ ¬ key (l.getD j default) < key (l.getD (par j) default) then l else hup (swapL l (par j) j) (par j)
termination_by j
decreasing_by simp only [par, not_or] at *; omega
theorem hup_len (l : List α) (j : Nat) : (hup key l j).length = l.length := by
  induction j using Nat.strongRecOn generalizing l with
  | _ j ih =>
    rw [hup]
    split
    · rfl
    · rename_i h
      rw [ih (par j) (by simp only [par, not_or] at *; omega), swapL_len]
theorem hup_mem (l : List α) (j : Nat) (hj : j < l.length) (x : α) : x ∈ hup key l j ↔ x ∈ l := by
  induction j using Nat.strongRecOn generalizing l with
  | _ j ih =>
    rw [hup]
    split
    · rfl
    · rename_i h
      have : par j < j := by simp only [par, not_or] at *; omega
      rw [ih (par j) this _ (by rw [swapL_len]; omega), swapL_mem _ (by omega) hj]
theorem hup_heap (l : List α) (j : Nat) (hj : j < l.length) (h1 : ∀ k, 0 < k → k < l.length → k ≠ j → key (l.getD (par k) default) ≤ key (l.getD k default))
    (h2 : 0 < j → ∀ k, 0 < k → k < l.length → par k = j → key (l.getD (par j) default) ≤ key (l.getD k default)) : HeapN key (hup key l j) l.length := by
  induction j using Nat.strongRecOn generalizing l with
  | _ j ih =>
    rw [hup]
    split
    · rename_i h
      intro k hk hkl
      by_cases e : k = j
      · subst e
        rcases h with h | h
        · simp only [par] at h; omega
        · omega
      · exact h1 k hk hkl e
    · rename_i h
      rw [not_or, Decidable.not_not] at h
      obtain ⟨e1, e2⟩ := h
      have lt : par j < j := by simp only [par] at *; omega
      have hi : par j < l.length := by omega
      have G : ∀ k, k < l.length → (swapL l (par j) j).getD k default = if k = j then l.getD (par j) default else if k = par j then l.getD j default else l.getD k default := fun k hk => swapL_getD l hi hj hk
      have := ih (par j) lt (swapL l (par j) j) (by rw [swapL_len]; exact hi) (fun k hk hkl hne => by
        rw [swapL_len] at hkl
        rw [G k hkl, G (par k) (by simp only [par] at *; omega)]
        by_cases a : k = j
        · subst a
          rw [if_neg (by omega), if_pos rfl, if_pos rfl]; omega
        · rw [if_neg a, if_neg hne]
          by_cases b : par k = j
          · rw [if_pos b]
            exact h2 (by omega) k hk hkl b
          · rw [if_neg b]
            by_cases c : par k = par j
            · rw [if_pos c]
              have := h1 k hk hkl a
              rw [c] at this; omega
            · rw [if_neg c]; exact h1 k hk hkl a) (fun hp k hk hkl hpk => by
        rw [swapL_len] at hkl
        have q1 : par (par j) < par j := by simp only [par] at *; omega
        have q2 := h1 (par j) hp hi (by omega)
        rw [G k hkl, G _ (by omega), if_neg (by omega), if_neg (by omega)]
        by_cases a : k = j
        · rw [if_pos a]; exact q2
        · have : k ≠ par j := by intro e; rw [e] at hpk; omega
          rw [if_neg a, if_neg this]
          have := h1 k hk hkl a
          rw [hpk] at this; omega)
      rwa [swapL_len] at this
def kid (l : List α) (i n : Nat) : Nat := if 2 * i + 2 < n ∧ key (l.getD (2 * i + 2) default) < key (l.getD (2 * i + 1) default) then 2 * i + 2 else 2 * i + 1
theorem kid_gt (l : List α) (i n : Nat) : i < kid key l i n := by unfold kid; split <;> omega
theorem kid_lt (l : List α) (i n : Nat) (h : 2 * i + 1 < n) : kid key l i n < n := by unfold kid; split <;> omega
def hdn (l : List α) (i n : Nat) : List α := if n ≤ 2 * i + 1 ∨ ¬ key (l.getD (kid key l i n) default) < key (l.getD i default) then l else hdn (swapL l i (kid key l i n)) (kid key l i n) n
termination_by n - i
decreasing_by
  rename_i h
  have h1 := kid_gt key l i n
  rw [not_or] at h
  omega
theorem hdn_len (l : List α) (i n : Nat) : (hdn key l i n).length = l.length := by
  induction hm : n - i using Nat.strongRecOn generalizing l i with
  | _ m ih =>
    rw [hdn]
    split
    · rfl
    · rename_i h
      have h1 := kid_gt key l i n
      rw [ih _ (by omega) _ _ rfl, swapL_len]
theorem hdn_mem (l : List α) (i n : Nat) (hn : n ≤ l.length) (x : α) : x ∈ hdn key l i n ↔ x ∈ l := by
  induction hm : n - i using Nat.strongRecOn generalizing l i with
  | _ m ih =>
    rw [hdn]
    split
    · rfl
    · rename_i h
      have h1 := kid_gt key l i n
      have h2 := kid_lt key l i n (by omega)
      rw [ih _ (by omega) _ _ (by rw [swapL_len]; exact hn) rfl, swapL_mem _ (by omega) (by omega)]
theorem hdn_out (l : List α) (i n k : Nat) (hn : n ≤ l.length) (hk : n ≤ k) (hkl : k < l.length) : (hdn key l i n).getD k default = l.getD k default := by
  induction hm : n - i using Nat.strongRecOn generalizing l i with
  | _ m ih =>
    rw [hdn]
    split
    · rfl
    · rename_i h
      have h1 := kid_gt key l i n
      have h2 := kid_lt key l i n (by omega)
      rw [ih _ (by omega) _ _ (by rw [swapL_len]; exact hn) (by rw [swapL_len]; exact hkl) rfl, swapL_getD _ (by omega) (by omega) hkl, if_neg (by omega), if_neg (by omega)]
theorem hdn_heap (l : List α) (i n : Nat) (hn : n ≤ l.length) (h1 : ∀ k, 0 < k → k < n → par k ≠ i → key (l.getD (par k) default) ≤ key (l.getD k default))
    (h2 : 0 < i → ∀ k, 0 < k → k < n → par k = i → key (l.getD (par i) default) ≤ key (l.getD k default)) : HeapN key (hdn key l i n) n := by
  induction hm : n - i using Nat.strongRecOn generalizing l i with
  | _ m ih =>
    have kd : ∀ k, 0 < k → k < n → par k = i → key (l.getD (kid key l i n) default) ≤ key (l.getD k default) := by
      intro k hk hkn hp
      have : k = 2 * i + 1 ∨ k = 2 * i + 2 := by simp only [par] at hp; omega
      unfold kid
      rcases this with e | e
      · subst e
        split
        · rename_i h; omega
        · exact Int.le_refl _
      · subst e
        split
        · exact Int.le_refl _
        · rename_i h
          by_cases h3 : key (l.getD (2 * i + 2) default) < key (l.getD (2 * i + 1) default)
          · exact absurd ⟨hkn, h3⟩ h
          · omega
    rw [hdn]
    split
    · rename_i h
      intro k hk hkn
      by_cases e : par k = i
      · rcases h with h | h
        · simp only [par] at e; omega
        · have := kd k hk hkn e
          rw [e]; omega
      · exact h1 k hk hkn e
    · rename_i h
      rw [not_or, Decidable.not_not] at h
      have g1 := kid_gt key l i n
      have g2 := kid_lt key l i n (by omega)
      have gp : par (kid key l i n) = i := by unfold kid; simp only [par]; split <;> omega
      generalize kid key l i n = j at *
      have G : ∀ k, k < l.length → (swapL l i j).getD k default = if k = j then l.getD i default else if k = i then l.getD j default else l.getD k default := fun k hk => swapL_getD l (by omega) (by omega) hk
      refine ih (n - j) (by omega) (swapL l i j) j (by rw [swapL_len]; exact hn) (fun k hk hkn hpk => ?_) (fun hj k hk hkn hpk => ?_) rfl
      · have hp : par k < k := by simp only [par] at *; omega
        rw [G k (by omega), G (par k) (by omega)]
        by_cases a : k = j
        · subst a
          rw [if_pos rfl, if_neg (by omega), if_pos gp]; omega
        · rw [if_neg a, if_neg hpk]
          by_cases b : k = i
          · subst b
            rw [if_pos rfl, if_neg (by omega)]
            have := h2 hk j (by omega) (by omega) gp
            exact this
          · rw [if_neg b]
            by_cases c : par k = i
            · rw [if_pos c]; exact kd k hk hkn c
            · rw [if_neg c]; exact h1 k hk hkn c
      · have hp : par k < k := by simp only [par] at *; omega
        rw [G k (by omega), if_neg (by omega), if_neg (by omega), gp, G i (by omega), if_neg (by omega), if_pos rfl]
        have := h1 k hk hkn (by omega)
        rw [hpk] at this; exact this
def hpush (l : List α) (x : α) : List α := hup key (l ++ [x]) l.length
def hpop (l : List α) : List α := (hdn key (swapL l 0 (l.length - 1)) 0 (l.length - 1)).take (l.length - 1)
theorem getD_snoc (l : List α) (x : α) (k : Nat) (h : k < l.length) : (l ++ [x]).getD k default = l.getD k default := by
  rw [getD_at _ _ (by simp; omega), getD_at _ _ h, List.getElem_append_left h]
theorem hpush_len (l : List α) (x : α) : (hpush key l x).length = l.length + 1 := by unfold hpush; rw [hup_len]; simp
theorem hpush_mem (l : List α) (x y : α) : y ∈ hpush key l x ↔ y ∈ l ∨ y = x := by
  unfold hpush
  rw [hup_mem _ _ _ (by simp)]; simp
theorem hpush_heap (l : List α) (x : α) (h : HeapN key l l.length) : HeapN key (hpush key l x) (hpush key l x).length := by
  rw [hpush_len]
  have := hup_heap key (l ++ [x]) l.length (by simp) (fun k hk hkl hne => by
    simp only [List.length_append, List.length_cons, List.length_nil] at hkl
    have : par k < k := by simp only [par] at *; omega
    rw [getD_snoc _ _ _ (by omega), getD_snoc _ _ _ (by omega)]; exact h k hk (by omega)) (fun _ k hk hkl hp => by
    simp only [List.length_append, List.length_cons, List.length_nil, par] at *; omega)
  simpa [hpush] using this
theorem take_getD (l : List α) (n k : Nat) (h : k < n) : (l.take n).getD k default = l.getD k default := by
  simp only [List.getD_eq_getElem?_getD, List.getElem?_take, if_pos h]
theorem hpop_len (l : List α) : (hpop key l).length = l.length - 1 := by unfold hpop; rw [List.length_take, hdn_len, swapL_len]; omega
theorem hpop_heap (l : List α) (hl : 0 < l.length) (h : HeapN key l l.length) : HeapN key (hpop key l) (hpop key l).length := by
  rw [hpop_len]
  have := hdn_heap key (swapL l 0 (l.length - 1)) 0 (l.length - 1) (by rw [swapL_len]; omega) (fun k hk hkn hp => by
    have q : par k < k := by simp only [par] at *; omega
    rw [swapL_getD _ (by omega) (by omega) (by omega), swapL_getD _ (by omega) (by omega) (by omega), if_neg (by omega), if_neg (by omega), if_neg (by omega), if_neg (by omega)]
    exact h k hk (by omega)) (fun h0 => absurd h0 (Nat.lt_irrefl _))
  intro k hk hkn
  unfold hpop
  rw [take_getD _ _ _ hkn, take_getD _ _ _ (by simp only [par] at *; omega)]
  exact this k hk hkn
theorem hpop_last (l : List α) (hl : 0 < l.length) : (hdn key (swapL l 0 (l.length - 1)) 0 (l.length - 1)).getD (l.length - 1) default = l.getD 0 default := by
  rw [hdn_out _ _ _ _ _ (by rw [swapL_len]; omega) (Nat.le_refl _) (by rw [swapL_len]; omega), swapL_getD _ hl (by omega) (by omega), if_pos rfl]
theorem hpop_mem (l : List α) (hl : 0 < l.length) (x : α) : x ∈ l ↔ x = l.getD 0 default ∨ x ∈ hpop key l := by
  have e : hdn key (swapL l 0 (l.length - 1)) 0 (l.length - 1) = hpop key l ++ [l.getD 0 default] := by
    have h1 := hpop_last key l hl
    have h2 : (hdn key (swapL l 0 (l.length - 1)) 0 (l.length - 1)).length = l.length - 1 + 1 := by rw [hdn_len, swapL_len]; omega
    unfold hpop
    rw [← h1, ← take_snoc _ _ (by omega), List.take_of_length_le (by omega)]
  rw [← swapL_mem l hl (show l.length - 1 < l.length by omega), ← hdn_mem key _ 0 (l.length - 1) (by rw [swapL_len]; omega), e]
  simp [or_comm]
end
end Go.Proofs.Ytehcnnodkhcgfaa
namespace Go.Proofs.Ytehcnnodkhcgfaa
set_option linter.all false
open Go.RowKit
set_option maxRecDepth 100000
structure Right (w : Wld) : Prop where
  f : fldE w.f = 0
  nb : w.bases.length ≤ 8
  nt : w.troops.length ≤ 100
  sl : w.stocks.length = w.bases.length
  ml : w.mines.length = w.f.p.length
  nx : 1 ≤ w.next ∧ w.next ≤ 1000000
  nw : 0 ≤ w.now ∧ w.now ≤ 1000000
  base : ∀ i, i < w.bases.length → groundV w.f (w.bases.getD i default) = true ∧ (0 ≤ w.stocks.getD i default ∧ w.stocks.getD i default ≤ 1000000) ∧ ∀ j, j < i → w.bases.getD j default ≠ w.bases.getD i default
  mine : ∀ i, i < w.mines.length → (0 ≤ w.mines.getD i default ∧ w.mines.getD i default ≤ 1000000) ∧ (w.mines.getD i default = 0 ∨ w.f.p.getD i default = 3)
  trp : ∀ k, k < w.troops.length → TrpOk w (w.troops.getD k default)
  ord : ∀ j k, j < k → k < w.troops.length → (w.troops.getD j default).id < (w.troops.getD k default).id ∧ (w.troops.getD j default).c ≠ (w.troops.getD k default).c
theorem right_of {w : Wld} (h : worldE w = 0) : Right w := by
  obtain ⟨h1, h2, h3, h4, h5⟩ := worldE_ok h
  obtain ⟨g1, g2, g3, g4⟩ := worldF_ok h4
  unfold worldB at h5
  simp only [Bool.and_eq_true] at h5
  obtain ⟨⟨b1, b2⟩, b3⟩ := h5
  rw [allN_iff] at b1 b2 b3
  refine ⟨h1, h2, h3, g1, g2, g3, g4, fun i hi => ?_, fun i hi => ?_, fun k hk => (troop_ok h hk).1, fun j k hjk hk => ?_⟩
  · have := b1 i hi
    unfold baseB at this
    simp only [Bool.and_eq_true, within_iff] at this
    obtain ⟨⟨a1, a2⟩, a3⟩ := this
    rw [allN_iff] at a3
    exact ⟨a1, a2, fun j hj => by have := a3 j hj; simpa using this⟩
  · have := b2 i hi
    unfold mineB at this
    simp only [Bool.and_eq_true, Bool.or_eq_true, within_iff, decide_eq_true_eq] at this
    exact this
  · have h6 := (troop_ok h hk).2
    unfold trp2 at h6
    have := (allN_iff _ _).1 h6 j hjk
    simp only [Bool.and_eq_true, decide_eq_true_eq, Bool.not_eq_true', decide_eq_false_iff_not] at this
    exact this
theorem Right.e {w : Wld} (h : Right w) : worldE w = 0 := by
  have hb : ¬ (8 < w.bases.length ∨ 100 < w.troops.length) := by have := h.nb; have := h.nt; omega
  refine worldE_fine h.f hb ?_ ?_
  · unfold worldF
    rw [decide_eq_true h.sl, decide_eq_true h.ml, (within_iff).2 h.nx, (within_iff).2 h.nw]; rfl
  · unfold worldB
    rw [Bool.and_eq_true, Bool.and_eq_true, allN_iff, allN_iff, allN_iff]
    refine ⟨⟨fun i hi => ?_, fun i hi => ?_⟩, fun i hi => ?_⟩
    · obtain ⟨a1, a2, a3⟩ := h.base i hi
      unfold baseB
      rw [a1, (within_iff).2 a2, Bool.true_and, Bool.true_and, allN_iff]
      intro j hj
      rw [decide_eq_false (a3 j hj)]; rfl
    · obtain ⟨a1, a2⟩ := h.mine i hi
      unfold mineB
      rw [(within_iff).2 a1, Bool.true_and, Bool.or_eq_true, decide_eq_true_eq, decide_eq_true_eq]; exact a2
    · have ok := h.trp i hi
      unfold troopB trp1 trp2
      rw [(within_iff).2 (by rcases ok.kind with e | e <;> omega), (within_iff).2 ok.id, (within_iff).2 ok.owner, ok.at_, (within_iff).2 ok.life, (within_iff).2 ok.load, Bool.true_and, Bool.true_and, Bool.true_and, Bool.true_and, Bool.true_and, Bool.true_and, allN_iff]
      intro j hj
      obtain ⟨c1, c2⟩ := h.ord j i hj hi
      rw [decide_eq_true c1, decide_eq_false c2]; rfl
theorem Right.l {w : Wld} (h : Right w) : wldL w := by
  obtain ⟨⟨f1, f2⟩, ⟨f3, f4⟩, f5, f6⟩ := fldE_ok h.f
  have hm : w.f.w * w.f.h ≤ 40 * 40 := Int.mul_le_mul f2 f4 (by omega) (by omega)
  have a1 := h.nb; have a2 := h.nt; have a3 := h.sl; have a4 := h.ml
  unfold wldL; omega
end Go.Proofs.Ytehcnnodkhcgfaa
namespace Go.Proofs.Ytehcnnodkhcgfaa
set_option linter.all false
open Go.RowKit
set_option maxRecDepth 100000
set_option maxHeartbeats 1000000
def dropS (l : List Sea) (T : List Nat) : List Sea := (List.range l.length).map fun i => ⟨(l.getD i default).waits.drop (T.getD i default), (lateS (l.getD i default)).late, (l.getD i default).gone⟩
theorem dropS_len (l : List Sea) (T : List Nat) : (dropS l T).length = l.length := by simp [dropS]
theorem dropS_at (l : List Sea) (T : List Nat) (i : Nat) (h : i < l.length) : (dropS l T).getD i default = ⟨(l.getD i default).waits.drop (T.getD i default), (lateS (l.getD i default)).late, (l.getD i default).gone⟩ := by
  rw [getD_at _ _ (by rw [dropS_len]; exact h)]
  simp [dropS]
theorem ext_getD {α : Type} [Inhabited α] {l m : List α} (h : l.length = m.length) (h2 : ∀ i, i < l.length → l.getD i default = m.getD i default) : l = m := by
  refine List.ext_getElem h fun i i1 i2 => ?_
  have := h2 i i1
  rwa [getD_at _ _ i1, getD_at _ _ i2] at this
theorem set_getD {α : Type} [Inhabited α] (l : List α) (i j : Nat) (x : α) (h : i < l.length) : (l.set i x).getD j default = if i = j then x else l.getD j default := by
  by_cases e : i = j
  · subst e; rw [if_pos rfl, getD_at _ _ (by simpa using h)]; simp
  · rw [if_neg e, List.getD_eq_getElem?_getD, List.getElem?_set_ne e, List.getD_eq_getElem?_getD]
def TkQ (most : Int) (l : List Sea) (k i : Nat) (o : List Ord) (U : List Nat) : Prop :=
  U.length = l.length ∧ o.length ≤ 100 ∧ (∀ j, j < l.length → U.getD j default ≤ (l.getD j default).waits.length) ∧
  ((o.length : Int) < most → ∀ j, j < l.length → U.getD j default = if j < i then min (k + 1) (l.getD j default).waits.length else min k (l.getD j default).waits.length)
theorem TkQ.t {most : Int} {l : List Sea} {k i : Nat} {o : List Ord} {U : List Nat} (h : TkQ most l k i o U) (hi : i < l.length) (hk : k < (l.getD i default).waits.length) (hm : (o.length : Int) < most) (hm2 : most ≤ 100) (x : Ord) :
    U.getD i default = k ∧ TkQ most l k (i + 1) (o ++ [x]) (U.set i (k + 1)) := by
  obtain ⟨h1, h2, h3, h4⟩ := h
  have e := h4 hm i hi
  rw [if_neg (by omega), Nat.min_eq_left (by omega)] at e
  refine ⟨e, by simp [h1], by simp; omega, fun j hj => ?_, fun hm' j hj => ?_⟩
  · rw [set_getD _ _ _ _ (by omega)]
    split
    · rename_i e'; subst e'; omega
    · exact h3 j hj
  · have := h4 hm j hj
    rw [set_getD _ _ _ _ (by omega)]
    by_cases e' : i = j
    · subst e'; rw [if_pos rfl, if_pos (by omega)]; omega
    · rw [if_neg e', this]
      by_cases e2 : j < i
      · rw [if_pos e2, if_pos (by omega)]
      · rw [if_neg e2, if_neg (by omega)]
theorem TkQ.f {most : Int} {l : List Sea} {k i : Nat} {o : List Ord} {U : List Nat} (h : TkQ most l k i o U) (hi : i < l.length) (hc : ¬ (k < (l.getD i default).waits.length ∧ (o.length : Int) < most)) : TkQ most l k (i + 1) o U ∧ ¬ (0 < ((dropS l U).getD i default).waits.length ∧ (o.length : Int) < most) := by
  obtain ⟨h1, h2, h3, h4⟩ := h
  refine ⟨⟨h1, h2, h3, fun hm j hj => ?_⟩, ?_⟩
  · rw [h4 hm j hj]
    by_cases e : j = i
    · subst e; rw [if_neg (by omega), if_pos (by omega)]; omega
    · by_cases e2 : j < i
      · rw [if_pos e2, if_pos (by omega)]
      · rw [if_neg e2, if_neg (by omega)]
  · rw [dropS_at _ _ _ hi]
    simp only [List.length_drop]
    rintro ⟨h5, h6⟩
    have := h4 h6 i hi
    rw [if_neg (by omega)] at this
    omega
theorem TkQ.next {most : Int} {l : List Sea} {k : Nat} {o : List Ord} {U : List Nat} (h : TkQ most l k l.length o U) : TkQ most l (k + 1) 0 o U := by
  obtain ⟨h1, h2, h3, h4⟩ := h
  refine ⟨h1, h2, h3, fun hm j hj => ?_⟩
  rw [h4 hm j hj, if_pos hj, if_neg (by omega)]
theorem TkQ.zero (most : Int) (l : List Sea) : TkQ most l 0 0 [] (List.replicate l.length 0) := by
  refine ⟨by simp, by simp, fun j hj => ?_, fun _ j hj => ?_⟩ <;> rw [getD_at _ _ (by simpa using hj)] <;> simp
end Go.Proofs.Ytehcnnodkhcgfaa
namespace Go.Proofs.Ytehcnnodkhcgfaa
set_option linter.all false
open Go.RowKit
def Adj (W p n : Nat) : Prop := n + W = p ∨ (n + 1 = p ∧ 0 < p % W) ∨ (p + 1 = n ∧ 0 < n % W) ∨ p + W = n
theorem Adj.symm {W p n : Nat} (h : Adj W p n) : Adj W n p := by
  rcases h with h | ⟨h, h'⟩ | ⟨h, h'⟩ | h
  · exact .inr (.inr (.inr h))
  · exact .inr (.inr (.inl ⟨h, h'⟩))
  · exact .inr (.inl ⟨h, h'⟩)
  · exact .inl h
def kV (q : Int) : Int := if q = 2 then 3 else 2
theorem kV_b (q : Int) : 2 ≤ kV q ∧ kV q ≤ 3 := by unfold kV; split <;> omega
structure Flood (W : Nat) (pl : List Int) (s : List Nat) (far : List Int) : Prop where
  len : far.length = pl.length
  low : ∀ p, p < pl.length → -1 ≤ far.getD p default
  src : ∀ p ∈ s, far.getD p default = 0
  why : ∀ p, p < pl.length → 0 ≤ far.getD p default → (p ∈ s ∧ far.getD p default = 0) ∨ ∃ n, n < pl.length ∧ Adj W p n ∧ pl.getD p default ≠ 1 ∧ 0 ≤ far.getD n default ∧ far.getD n default + kV (pl.getD p default) ≤ far.getD p default
  all : ∀ p n, p < pl.length → n < pl.length → Adj W p n → 0 ≤ far.getD p default → pl.getD n default ≠ 1 → 0 ≤ far.getD n default ∧ far.getD n default ≤ far.getD p default + kV (pl.getD n default)
theorem Flood.le {W : Nat} {pl : List Int} {s : List Nat} {f g : List Int} (hf : Flood W pl s f) (hg : Flood W pl s g) : ∀ (N p : Nat), p < pl.length → 0 ≤ f.getD p default → f.getD p default ≤ N → 0 ≤ g.getD p default ∧ g.getD p default ≤ f.getD p default := by
  intro N
  induction N using Nat.strongRecOn with
  | _ N ih =>
    intro p hp h0 hN
    rcases hf.why p hp h0 with ⟨h1, h2⟩ | ⟨n, hn, ha, hr, h3, h4⟩
    · rw [hg.src p h1]; omega
    · have hk := kV_b (pl.getD p default)
      obtain ⟨k, hk2⟩ := Int.eq_ofNat_of_zero_le h3
      have := ih k (by omega) n hn h3 (by omega)
      have := hg.all n p hn hp ha.symm this.1 hr
      omega
theorem Flood.uniq {W : Nat} {pl : List Int} {s : List Nat} {f g : List Int} (hf : Flood W pl s f) (hg : Flood W pl s g) : f = g := by
  refine List.ext_getElem (hf.len.trans hg.len.symm) fun p h1 h2 => ?_
  rw [← getD_at f p h1, ← getD_at g p h2]
  have hp : p < pl.length := by rw [← hf.len]; exact h1
  have l1 := hf.low p hp
  have l2 := hg.low p hp
  by_cases h : 0 ≤ f.getD p default
  · obtain ⟨k, hk⟩ := Int.eq_ofNat_of_zero_le h
    have a := hf.le hg k p hp h (by omega)
    obtain ⟨k', hk'⟩ := Int.eq_ofNat_of_zero_le a.1
    have b := hg.le hf k' p hp a.1 (by omega)
    omega
  · by_cases h' : 0 ≤ g.getD p default
    · obtain ⟨k', hk'⟩ := Int.eq_ofNat_of_zero_le h'
      have b := hg.le hf k' p hp h' (by omega)
      omega
    · omega
def sumL (g : Int → Nat) (l : List Int) : Nat := (l.map g).sum
def one0 (x : Int) : Nat := if 0 ≤ x then 1 else 0
structure Itm where
  place : Int
  far : Int
  deriving DecidableEq, Inhabited
structure Dj (W : Nat) (pl : List Int) (s : List Nat) (far : List Int) (q : List Itm) (done : Nat → Nat → Prop) : Prop where
  len : far.length = pl.length
  low : ∀ p, p < pl.length → -1 ≤ far.getD p default
  heap : HeapN Itm.far q q.length
  itm : ∀ x ∈ q, ∃ p : Nat, x.place = (p : Int) ∧ p < pl.length ∧ 0 ≤ x.far ∧ x.far ≤ 3 * sumL one0 far ∧ (∀ m, m < pl.length → far.getD m default ≤ x.far) ∧ ((p ∈ s ∧ x.far = 0) ∨ ∃ n, n < pl.length ∧ Adj W p n ∧ pl.getD p default ≠ 1 ∧ 0 ≤ far.getD n default ∧ x.far = far.getD n default + kV (pl.getD p default))
  src : ∀ p ∈ s, far.getD p default = 0 ∨ (far.getD p default < 0 ∧ ∃ x ∈ q, x.place = (p : Int) ∧ x.far = 0)
  why : ∀ p, p < pl.length → 0 ≤ far.getD p default → (p ∈ s ∧ far.getD p default = 0) ∨ ∃ n, n < pl.length ∧ Adj W p n ∧ pl.getD p default ≠ 1 ∧ 0 ≤ far.getD n default ∧ far.getD n default + kV (pl.getD p default) ≤ far.getD p default
  all : ∀ p n, p < pl.length → n < pl.length → Adj W p n → done p n → 0 ≤ far.getD p default → pl.getD n default ≠ 1 →
    (0 ≤ far.getD n default ∧ far.getD n default ≤ far.getD p default + kV (pl.getD n default)) ∨ (far.getD n default < 0 ∧ ∃ x ∈ q, x.place = (n : Int) ∧ x.far ≤ far.getD p default + kV (pl.getD n default))
section
variable {W : Nat} {pl : List Int} {s : List Nat} {far : List Int} {q : List Itm} {done : Nat → Nat → Prop}
theorem Dj.skip (h : Dj W pl s far q done) (hq : 0 < q.length) {p : Nat} (hp : (q.getD 0 default).place = (p : Int)) (h0 : 0 ≤ far.getD p default) : Dj W pl s far (hpop Itm.far q) done := by
  have M := hpop_mem Itm.far q hq
  refine ⟨h.len, h.low, hpop_heap _ _ hq h.heap, fun x hx => h.itm x ((M x).2 (.inr hx)), fun p' hp' => ?_, h.why, fun p' n h1 h2 h3 h4 h5 h6 => ?_⟩
  · rcases h.src p' hp' with h7 | ⟨h7, x, hx, h8, h9⟩
    · exact .inl h7
    · refine .inr ⟨h7, x, ?_, h8, h9⟩
      rcases (M x).1 hx with e | e
      · subst e; rw [hp] at h8; have : p = p' := by omega
        subst this; omega
      · exact e
  · rcases h.all p' n h1 h2 h3 h4 h5 h6 with h7 | ⟨h7, x, hx, h8, h9⟩
    · exact .inl h7
    · refine .inr ⟨h7, x, ?_, h8, h9⟩
      rcases (M x).1 hx with e | e
      · subst e; rw [hp] at h8; have : p = n := by omega
        subst this; omega
      · exact e
theorem Dj.look {p n : Nat} (h : Dj W pl s far q done) (hn : n < pl.length) (hp : p < pl.length) (ha : Adj W p n) (h0 : 0 ≤ far.getD p default) (top : ∀ m, m < pl.length → far.getD m default ≤ far.getD p default) (hb : far.getD p default + 3 ≤ 3 * sumL one0 far) (done' : Nat → Nat → Prop) (hd : ∀ a b, done' a b → done a b ∨ (a = p ∧ b = n))
    {q' : List Itm} (hq' : ((pl.getD n default = 1 ∨ 0 ≤ far.getD n default) ∧ q' = q) ∨ (pl.getD n default ≠ 1 ∧ far.getD n default < 0 ∧ q' = hpush Itm.far q ⟨(n : Int), far.getD p default + kV (pl.getD n default)⟩)) : Dj W pl s far q' done' := by
  have sub : ∀ x ∈ q, x ∈ q' := fun x hx => by
    rcases hq' with ⟨_, rfl⟩ | ⟨_, _, rfl⟩
    · exact hx
    · exact (hpush_mem _ _ _ _).2 (.inl hx)
  refine ⟨h.len, h.low, ?_, fun x hx => ?_, fun k hk => ?_, h.why, fun a b h1 h2 h3 h4 h5 h6 => ?_⟩
  · rcases hq' with ⟨_, rfl⟩ | ⟨_, _, rfl⟩
    · exact h.heap
    · exact hpush_heap _ _ _ h.heap
  · rcases hq' with ⟨_, rfl⟩ | ⟨g1, g2, rfl⟩
    · exact h.itm x hx
    · rcases (hpush_mem _ _ _ _).1 hx with e | e
      · exact h.itm x e
      · subst e
        have hk := kV_b (pl.getD n default)
        exact ⟨n, rfl, hn, by simp only; omega, by simp only; omega, fun m hm => by have := top m hm; simp only; omega, .inr ⟨p, hp, ha.symm, g1, h0, rfl⟩⟩
  · rcases h.src k hk with h7 | ⟨h7, x, hx, h8, h9⟩
    · exact .inl h7
    · exact .inr ⟨h7, x, sub x hx, h8, h9⟩
  · rcases hd a b h4 with h4 | ⟨rfl, rfl⟩
    · rcases h.all a b h1 h2 h3 h4 h5 h6 with h7 | ⟨h7, x, hx, h8, h9⟩
      · exact .inl h7
      · exact .inr ⟨h7, x, sub x hx, h8, h9⟩
    · rcases hq' with ⟨g | g, rfl⟩ | ⟨g1, g2, rfl⟩
      · exact absurd g h6
      · have hk := kV_b (pl.getD b default)
        have := top b hn
        exact .inl ⟨g, by omega⟩
      · exact .inr ⟨g2, _, (hpush_mem _ _ _ _).2 (.inr rfl), rfl, Int.le_refl _⟩
end
structure Bf (W : Nat) (pl : List Int) (s : List Nat) (far : List Int) : Prop where
  len : far.length = pl.length
  low : ∀ p, p < pl.length → -1 ≤ far.getD p default
  src : ∀ p ∈ s, far.getD p default = 0
  why : ∀ p, p < pl.length → 0 ≤ far.getD p default → (p ∈ s ∧ far.getD p default = 0) ∨ ∃ n, n < pl.length ∧ Adj W p n ∧ pl.getD p default ≠ 1 ∧ 0 ≤ far.getD n default ∧ far.getD n default + kV (pl.getD p default) ≤ far.getD p default
  top : ∀ p, p < pl.length → far.getD p default ≤ 3 * sumL one0 far
section
variable {W : Nat} {pl : List Int} {s : List Nat} {far : List Int}
end
end Go.Proofs.Ytehcnnodkhcgfaa
namespace Go.Proofs.Ytehcnnodkhcgfaa
set_option linter.all false
open Go.RowKit
set_option maxRecDepth 100000
set_option maxHeartbeats 400000
def idxN (f : Fld) (c : Cel) : Nat := (c.y * f.w + c.x).toNat
end Go.Proofs.Ytehcnnodkhcgfaa
namespace Go.Proofs.Ytehcnnodkhcgfaa
set_option linter.all false
open Go.RowKit
set_option maxRecDepth 100000
set_option maxHeartbeats 1000000
def mistE (w : Wld) (p : Int) : Int := if worldE w ≠ 0 then worldE w else if within p 0 ((w.bases.length : Int) - 1) = false then 7 else 0
theorem mistE_0 {w : Wld} {p : Int} (h : mistE w p = 0) : worldE w = 0 ∧ 0 ≤ p ∧ p < w.bases.length := by
  unfold mistE at h
  by_cases h1 : worldE w = 0
  · rw [if_neg (by simp [h1])] at h
    by_cases h2 : within p 0 ((w.bases.length : Int) - 1) = false
    · rw [if_pos h2] at h; exact absurd h (by decide)
    · rw [Bool.not_eq_false, within_iff] at h2; exact ⟨h1, by omega, by omega⟩
  · rw [if_pos h1] at h; exact absurd h h1
def visK (w : Wld) (p : Int) (k : Nat) (c : Cel) : Bool := seenB w.f (w.bases.getD p.toNat default) 3 c || (w.troops.take k).any fun t => decide (t.owner = p) && seenB w.f t.c 5 c
def visB (w : Wld) (p : Int) (c : Cel) : Bool := visK w p w.troops.length c
def rowK (w : Wld) (p : Int) (k : Nat) : List Bool := (List.range w.f.p.length).map fun i => visK w p k (cellN w.f.w i)
def visL (w : Wld) (p : Int) : List Bool := rowK w p w.troops.length
theorem rowK_len (w : Wld) (p : Int) (k : Nat) : (rowK w p k).length = w.f.p.length := by simp [rowK]
theorem rowK_get (w : Wld) (p : Int) (k i : Nat) (hi : i < w.f.p.length) : (rowK w p k).getD i default = visK w p k (cellN w.f.w i) := by
  rw [getD_at _ _ (by rw [rowK_len]; exact hi)]; simp [rowK]
def setAll (f : Fld) (o : List Bool) (l : List Cel) : List Bool := l.foldl (fun o n => o.set (idxN f n) true) o
theorem setAll_snoc (f : Fld) (o : List Bool) (l : List Cel) (c : Cel) : setAll f o (l ++ [c]) = (setAll f o l).set (idxN f c) true := by unfold setAll; rw [List.foldl_append]; rfl
theorem setAll_len (f : Fld) (l : List Cel) : ∀ o : List Bool, (setAll f o l).length = o.length := by
  induction l with
  | nil => intro o; rfl
  | cons c r ih => intro o; have := ih (o.set (idxN f c) true); simp only [setAll, List.foldl_cons] at *; rw [this]; simp
theorem setAll_get (f : Fld) (l : List Cel) : ∀ (o : List Bool) (i : Nat), i < o.length → (∀ n ∈ l, idxN f n < o.length) → (setAll f o l).getD i default = (o.getD i default || l.any fun n => decide (idxN f n = i)) := by
  induction l with
  | nil => intro o i hi _; simp [setAll]
  | cons c r ih =>
    intro o i hi hl
    have h1 := ih (o.set (idxN f c) true) i (by simpa using hi) (fun n hn => by rw [List.length_set]; exact hl n (by simp [hn]))
    have e : setAll f o (c :: r) = setAll f (o.set (idxN f c) true) r := rfl
    rw [e, h1, set_getD _ _ _ _ (hl c (by simp)), List.any_cons]
    by_cases hc : idxN f c = i
    · simp [hc]
    · simp [hc]
theorem cellN_idx {f : Fld} (hf : fldE f = 0) {i : Nat} (hi : i < f.p.length) : inF f (cellN f.w i) = true ∧ idxN f (cellN f.w i) = i := by
  obtain ⟨h1, h2, h3, _⟩ := fldE_ok hf
  refine ⟨cellN_in hf (by omega), ?_⟩
  unfold idxN cellN
  simp only
  rw [Int.mul_comm, Int.mul_ediv_add_emod]; omega
theorem seenL_mem {f : Fld} {c n : Cel} {r : Int} (h : n ∈ seenL f c r f.p.length) : ∃ i, i < f.p.length ∧ n = cellN f.w i ∧ seenB f c r n = true := by
  unfold seenL at h
  obtain ⟨h1, h2⟩ := List.mem_filter.1 h
  obtain ⟨i, hi, rfl⟩ := List.mem_map.1 h1
  exact ⟨i, by simpa using hi, rfl, h2⟩
theorem setAll_seen {f : Fld} (hf : fldE f = 0) (c : Cel) (r : Int) (o : List Bool) (ho : o.length = f.p.length) (i : Nat) (hi : i < f.p.length) : (setAll f o (seenL f c r f.p.length)).getD i default = (o.getD i default || seenB f c r (cellN f.w i)) := by
  rw [setAll_get f _ o i (by omega) (fun n hn => by
    obtain ⟨j, hj, rfl, _⟩ := seenL_mem hn
    rw [(cellN_idx hf hj).2]; omega)]
  congr 1
  rw [Bool.eq_iff_iff, List.any_eq_true]
  constructor
  · rintro ⟨n, hn, he⟩
    obtain ⟨j, hj, rfl, hb⟩ := seenL_mem hn
    rw [decide_eq_true_eq, (cellN_idx hf hj).2] at he
    subst he; exact hb
  · intro hb
    refine ⟨cellN f.w i, ?_, by rw [decide_eq_true_eq]; exact (cellN_idx hf hi).2⟩
    unfold seenL
    exact List.mem_filter.2 ⟨List.mem_map.2 ⟨i, by simpa using hi, rfl⟩, hb⟩
theorem row_first {w : Wld} {p : Int} (hf : fldE w.f = 0) : setAll w.f (List.replicate w.f.p.length false) (seenL w.f (w.bases.getD p.toNat default) 3 w.f.p.length) = rowK w p 0 := by
  refine ext_getD (by rw [setAll_len, rowK_len]; simp) fun i hi => ?_
  rw [setAll_len, List.length_replicate] at hi
  rw [setAll_seen hf _ _ _ (by simp) i hi, rowK_get w p 0 i hi, getD_at _ _ (by simpa using hi)]
  simp [visK]
theorem row_step {w : Wld} {p : Int} (hf : fldE w.f = 0) {k : Nat} (hk : k < w.troops.length) (ho : (w.troops.getD k default).owner = p) : setAll w.f (rowK w p k) (seenL w.f (w.troops.getD k default).c 5 w.f.p.length) = rowK w p (k + 1) := by
  refine ext_getD (by rw [setAll_len, rowK_len, rowK_len]) fun i hi => ?_
  rw [setAll_len, rowK_len] at hi
  rw [setAll_seen hf _ _ _ (rowK_len w p k) i hi, rowK_get w p k i hi, rowK_get w p (k + 1) i hi]
  unfold visK
  rw [take_snoc _ _ hk, List.any_append, Bool.or_assoc]
  simp only [List.any_cons, List.any_nil, Bool.or_false, ho, decide_true, Bool.true_and]
theorem row_skip {w : Wld} {p : Int} {k : Nat} (hk : k < w.troops.length) (ho : ¬ (w.troops.getD k default).owner = p) : rowK w p (k + 1) = rowK w p k := by
  unfold rowK
  refine List.map_congr_left fun i _ => ?_
  unfold visK
  rw [take_snoc _ _ hk, List.any_append]
  simp only [List.any_cons, List.any_nil, decide_eq_false ho, Bool.false_and, Bool.or_false]
theorem mlook_s (w : Wld) (c : Cel) (r : Int) (o : List Bool) (hf : fldE w.f = 0) (hc : inF w.f c = true) (hr : 0 ≤ r ∧ r ≤ 12) (ho : o.length = w.f.p.length) : Spec Try.prog 202 [celA c, I .i64 r, .ptr 0 0 0, .ptr 1 0 0] [.blk 91 (wldC w), .blk 213 [.own 2], .row 4 1 (o.map boolP)] .undef [.blk 91 (wldC w), .blk 213 [.own 2], .row 4 1 ((setAll w.f o (seenL w.f c r w.f.p.length)).map boolP)] := by
  have hsv : seenV w.f c r = (seenL w.f c r w.f.p.length, 0) := by
    unfold seenV
    rw [if_neg (by simp [hf]), if_neg (by simp [hc]), if_neg (by rw [within_iff.2 (by omega)]; simp)]
  have hpx := place_ix hf hc
  have hsl := seenL_len w.f c r w.f.p.length
  refine spec_am Try.func202 rfl rfl mix 36 rfl [] Try.results202 (Nat.le_of_ble_eq_true rfl) ?_
  (try simp (etaStruct := .none) only [push_cast, DrawG, Int.cast_ofNat_Int, Nat.reduceAdd, Nat.reduceSub, Nat.reduceMul, reduceCtorEq, reduceIte, Nat.reduceEqDiff, Nat.reduceLT, Nat.reduceLeDiff, Nat.reduceBEq, Int.reduceToNat, Int.reduceLE, Int.reduceLT]); (try simp (disch := omega) only [wrap_in, wk_self, Int.tdiv_eq_ediv_of_nonneg, Int.tmod_eq_emod_of_nonneg]); (repeat (with_reducible refine And.intro ?_ ?_; · first | omega | decide | (simp; done) | (simp; omega) | (intro hh; refine ⟨hh, ?_⟩; omega) | (simp +contextual; done)))
  refine callP (seen_s w.f c r (by omega)) (WkL.refl _) ?_
  rw [hsv]
  (try simp (etaStruct := .none) only [push_cast, DrawG, Int.cast_ofNat_Int, Nat.reduceAdd, Nat.reduceSub, Nat.reduceMul, reduceCtorEq, reduceIte, Nat.reduceEqDiff, Nat.reduceLT, Nat.reduceLeDiff, Nat.reduceBEq, Int.reduceToNat, Int.reduceLE, Int.reduceLT]); (try simp (disch := omega) only [wrap_in, wk_self, Int.tdiv_eq_ediv_of_nonneg, Int.tmod_eq_emod_of_nonneg]); (repeat (with_reducible refine And.intro ?_ ?_; · first | omega | decide | (simp; done) | (simp; omega) | (intro hh; refine ⟨hh, ?_⟩; omega) | (simp +contextual; done)))
  refine loopI (fun k : Nat => ⟨[(20, I .i64 k), (19, I .i64 (seenL w.f c r w.f.p.length).length), (18, .c (.sl 2 ((seenL w.f c r w.f.p.length).map celP))), (3, .ptr 1 0 0), (2, .ptr 0 0 0)], [(0, .blk 91 (wldC w)), (1, .blk 213 [.own 2]), (2, .row 4 1 ((setAll w.f o ((seenL w.f c r w.f.p.length).take k)).map boolP))], 3⟩) (fun k : Nat => k ≤ (seenL w.f c r w.f.p.length).length) (fun k : Nat => (seenL w.f c r w.f.p.length).length - k) (0) (Nat.zero_le _) (To.mk [0, 1, 2] rfl rfl (by decide) ?_ ?_) ?_
  · simp (etaStruct := .none) only [push_cast, DrawG, Int.cast_ofNat_Int, Nat.reduceAdd, Nat.reduceSub, Nat.reduceMul, reduceCtorEq, reduceIte, Nat.reduceEqDiff, Nat.reduceLT, Nat.reduceLeDiff, Nat.reduceBEq, Int.reduceToNat, Int.reduceLE, Int.reduceLT, List.take_zero, setAll, List.foldl_nil]
  · simp (etaStruct := .none) only [push_cast, DrawG, Int.cast_ofNat_Int, Nat.reduceAdd, Nat.reduceSub, Nat.reduceMul, reduceCtorEq, reduceIte, Nat.reduceEqDiff, Nat.reduceLT, Nat.reduceLeDiff, Nat.reduceBEq, Int.reduceToNat, Int.reduceLE, Int.reduceLT]
  rintro k hk
  have hal := setAll_len w.f ((seenL w.f c r w.f.p.length).take k) o
  (try simp (etaStruct := .none) only [push_cast, DrawG, Int.cast_ofNat_Int, Nat.reduceAdd, Nat.reduceSub, Nat.reduceMul, reduceCtorEq, reduceIte, Nat.reduceEqDiff, Nat.reduceLT, Nat.reduceLeDiff, Nat.reduceBEq, Int.reduceToNat, Int.reduceLE, Int.reduceLT]); (try simp (disch := omega) only [wrap_in, wk_self, Int.tdiv_eq_ediv_of_nonneg, Int.tmod_eq_emod_of_nonneg]); (repeat (with_reducible refine And.intro ?_ ?_; · first | omega | decide | (simp; done) | (simp; omega) | (intro hh; refine ⟨hh, ?_⟩; omega) | (simp +contextual; done)))
  refine cond_i (fun h1 => ?_) (fun h1 => ?_)
  · (try simp only [decide_eq_true_eq, decide_eq_false_iff_not, Bool.not_eq_true', Bool.not_eq_false', Bool.or_eq_true, Bool.and_eq_true, Bool.or_eq_false_iff, Bool.and_eq_false_iff, Int.not_lt, Int.not_le, Bool.not_true, Bool.not_false, not_and, not_or] at h1)
    have hlt : k < (seenL w.f c r w.f.p.length).length := by omega
    obtain ⟨i, hi, hci, _⟩ := seenL_mem (getD_mem _ k hlt)
    obtain ⟨q1, q2⟩ := cellN_idx hf hi
    rw [← hci] at q1 q2
    have hqx := place_ix hf q1
    have hqi := inF_iff.1 q1
    have e1 : IntKind.i64.wrap (IntKind.i64.wrap (((seenL w.f c r w.f.p.length).getD k default).y * w.f.w) + ((seenL w.f c r w.f.p.length).getD k default).x) = ((idxN w.f ((seenL w.f c r w.f.p.length).getD k default) : Nat) : Int) := by rw [wrap_in (_ * _) (by omega) (by omega), wrap_in _ (by omega) (by omega)]; unfold idxN; omega
    have hsn := setAll_snoc w.f o ((seenL w.f c r w.f.p.length).take k) ((seenL w.f c r w.f.p.length).getD k default)
    rw [← take_snoc _ _ hlt] at hsn
    have hsx : idxN w.f ((seenL w.f c r w.f.p.length).getD k default) < (setAll w.f o ((seenL w.f c r w.f.p.length).take k)).length := by omega
    (iterate 2 ((try simp (etaStruct := .none) only [push_cast, DrawG, Int.cast_ofNat_Int, Nat.reduceAdd, Nat.reduceSub, Nat.reduceMul, reduceCtorEq, reduceIte, Nat.reduceEqDiff, Nat.reduceLT, Nat.reduceLeDiff, Nat.reduceBEq, Int.reduceToNat, Int.reduceLE, Int.reduceLT, getD_in _ _ _ hlt, celP, e1]); (try simp (disch := omega) only [wrap_in, wk_self, Int.tdiv_eq_ediv_of_nonneg, Int.tmod_eq_emod_of_nonneg]); (repeat (with_reducible refine And.intro ?_ ?_; · first | omega | decide | (simp; done) | (simp; omega) | (intro hh; refine ⟨hh, ?_⟩; omega) | (simp +contextual; done)))))
    refine ⟨k + 1, by omega, by omega, To.mk [0, 1, 2] rfl rfl (by decide) ?_ ?_⟩
    · (iterate 2 ((try simp (etaStruct := .none) only [push_cast, DrawG, Int.cast_ofNat_Int, Nat.reduceAdd, Nat.reduceSub, Nat.reduceMul, reduceCtorEq, reduceIte, Nat.reduceEqDiff, Nat.reduceLT, Nat.reduceLeDiff, Nat.reduceBEq, Int.reduceToNat, Int.reduceLE, Int.reduceLT, hsn, List.map_set, boolP]); (try simp (disch := omega) only [wrap_in, wk_self, Int.tdiv_eq_ediv_of_nonneg, Int.tmod_eq_emod_of_nonneg]); (repeat (with_reducible refine And.intro ?_ ?_; · first | omega | decide | (simp; done) | (simp; omega) | (intro hh; refine ⟨hh, ?_⟩; omega) | (simp +contextual; done)))))
    · (iterate 2 ((try simp (etaStruct := .none) only [push_cast, DrawG, Int.cast_ofNat_Int, Nat.reduceAdd, Nat.reduceSub, Nat.reduceMul, reduceCtorEq, reduceIte, Nat.reduceEqDiff, Nat.reduceLT, Nat.reduceLeDiff, Nat.reduceBEq, Int.reduceToNat, Int.reduceLE, Int.reduceLT, getD_in _ _ _ hlt, celP, e1]); (try simp (disch := omega) only [wrap_in, wk_self, Int.tdiv_eq_ediv_of_nonneg, Int.tmod_eq_emod_of_nonneg]); (repeat (with_reducible refine And.intro ?_ ?_; · first | omega | decide | (simp; done) | (simp; omega) | (intro hh; refine ⟨hh, ?_⟩; omega) | (simp +contextual; done)))))
  · (try simp only [decide_eq_true_eq, decide_eq_false_iff_not, Bool.not_eq_true', Bool.not_eq_false', Bool.or_eq_true, Bool.and_eq_true, Bool.or_eq_false_iff, Bool.and_eq_false_iff, Int.not_lt, Int.not_le, Bool.not_true, Bool.not_false, not_and, not_or] at h1)
    obtain rfl : k = (seenL w.f c r w.f.p.length).length := by omega
    (try simp (etaStruct := .none) only [push_cast, DrawG, Int.cast_ofNat_Int, Nat.reduceAdd, Nat.reduceSub, Nat.reduceMul, reduceCtorEq, reduceIte, Nat.reduceEqDiff, Nat.reduceLT, Nat.reduceLeDiff, Nat.reduceBEq, Int.reduceToNat, Int.reduceLE, Int.reduceLT]); (try simp (disch := omega) only [wrap_in, wk_self, Int.tdiv_eq_ediv_of_nonneg, Int.tmod_eq_emod_of_nonneg]); (repeat (with_reducible refine And.intro ?_ ?_; · first | omega | decide | (simp; done) | (simp; omega) | (intro hh; refine ⟨hh, ?_⟩; omega) | (simp +contextual; done)))
    refine retM [0, 1, 2] rfl rfl (by decide) ⟨?_, ?_, ?_, trivial⟩ trivial (Wk.undef _) <;> simp (etaStruct := .none) only [push_cast, DrawG, Int.cast_ofNat_Int, Nat.reduceAdd, Nat.reduceSub, Nat.reduceMul, reduceCtorEq, reduceIte, Nat.reduceEqDiff, Nat.reduceLT, Nat.reduceLeDiff, Nat.reduceBEq, Int.reduceToNat, Int.reduceLE, Int.reduceLT, List.take_length]
end Go.Proofs.Ytehcnnodkhcgfaa
