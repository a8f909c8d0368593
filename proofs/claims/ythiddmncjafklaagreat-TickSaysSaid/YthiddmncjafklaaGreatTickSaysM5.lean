/- Lemmas for the proof of tickSays.proved. -/
import Derived.Test.YthiddmncjafklaaGreatTickSaysM4
namespace Go.Proofs.YthiddmncjafklaaGreat
set_option linter.all false
open Go.RowKit
set_option maxRecDepth 100000
set_option maxHeartbeats 400000
def sidesC (c : Cel) : List Cel := [⟨c.x, c.y - 1⟩, ⟨c.x - 1, c.y⟩, ⟨c.x + 1, c.y⟩, ⟨c.x, c.y + 1⟩]
def besideC (f : Fld) (c : Cel) : List Cel := (sidesC c).filter (inF f)
theorem besideC_step (f : Fld) (c : Cel) (k : Nat) (h : k < (sidesC c).length) : ((sidesC c).take (k + 1)).filter (inF f) = ((sidesC c).take k).filter (inF f) ++ (if inF f ((sidesC c).getD k default) then [(sidesC c).getD k default] else []) := by
  rw [take_snoc _ _ h, List.filter_append, List.filter_cons, List.filter_nil]
theorem besides_s (f : Fld) (c : Cel) (h : fldE f = 0) (hx : -1000000 ≤ c.x ∧ c.x ≤ 1000000) (hy : -1000000 ≤ c.y ∧ c.y ≤ 1000000) : Spec Tryz.prog 102 [fldA f, celA c] [] (.c (.sl 2 ((besideC f c).map celP))) [] := by
  have h4 : (sidesC c).length = 4 := rfl
  refine spec_am Tryz.func102 rfl rfl mix 47 rfl [.tmp 4] Tryz.results102 (Nat.le_of_ble_eq_true rfl) ?_
  (try simp (etaStruct := .none) only [push_cast, DrawG, Int.cast_ofNat_Int, seval]); (try simp (disch := omega) only [wrap_in, wk_self, tdv, tmd]); (repeat with_reducible refine obA ?_)
  refine loopI (fun k : Nat => ⟨[(34, I .i64 k), (33, I .i64 4), (32, .own 1), (5, .own 2), (2, .ptr 0 0 0)], [(0, .blk 24 (fldC f)), (1, .row 85 2 ((sidesC c).map celP)), (2, .row 85 2 ((((sidesC c).take k).filter (inF f)).map celP))], 3⟩) (fun k : Nat => k ≤ 4) (fun k : Nat => 4 - k) (0) (Nat.zero_le _) ((To.nil 5 85 2 rfl).trans (To.mk [0, 2, 3] rfl rfl (by decide) ?_ ?_)) ?_
  · simp (etaStruct := .none) only [push_cast, DrawG, Int.cast_ofNat_Int, seval, sidesC, celP, List.filter_nil, List.take_zero]
  · simp (etaStruct := .none) only [push_cast, DrawG, Int.cast_ofNat_Int, seval]
  rintro k hk
  (try simp (etaStruct := .none) only [push_cast, DrawG, Int.cast_ofNat_Int, seval]); (try simp (disch := omega) only [wrap_in, wk_self, tdv, tmd]); (repeat with_reducible refine obA ?_)
  refine cond_i (fun h1 => ?_) (fun h1 => ?_)
  · (try simp only [xa, xb, xc, xd, xe, xf, xg, xh, xi, xj, Bool.not_true, Bool.not_false, xk, xl] at h1)
    have hlt : k < (sidesC c).length := by omega
    have st := besideC_step f c k hlt
    have hfl : (((sidesC c).take k).filter (inF f)).length ≤ 4 := by have := List.length_filter_le (inF f) ((sidesC c).take k); rw [List.length_take] at this; omega
    (iterate 2 ((try simp (etaStruct := .none) only [push_cast, DrawG, Int.cast_ofNat_Int, seval, getD_in _ _ _ hlt, celP]); (try simp (disch := omega) only [wrap_in, wk_self, tdv, tmd]); (repeat with_reducible refine obA ?_)))
    refine callP (in_s' f ((sidesC c).getD k default) h) (WkL.refl _) ?_
    (iterate 2 ((try simp (etaStruct := .none) only [push_cast, DrawG, Int.cast_ofNat_Int, seval, getD_in _ _ _ hlt, celP]); (try simp (disch := omega) only [wrap_in, wk_self, tdv, tmd]); (repeat with_reducible refine obA ?_)))
    refine cond_i (fun h2 => ?_) (fun h2 => ?_)
    · (try simp only [xa, xb, xc, xd, xe, xf, xg, xh, xi, xj, Bool.not_true, Bool.not_false, xk, xl] at h2)
      rw [if_pos h2] at st
      (iterate 2 ((try simp (etaStruct := .none) only [push_cast, DrawG, Int.cast_ofNat_Int, seval, getD_in _ _ _ hlt, celP]); (try simp (disch := omega) only [wrap_in, wk_self, tdv, tmd]); (repeat with_reducible refine obA ?_)))
      refine ⟨k + 1, by omega, by omega, To.mk [0, 1, 5] rfl rfl (by decide) ?_ ?_⟩
      · (iterate 2 ((try simp (etaStruct := .none) only [push_cast, DrawG, Int.cast_ofNat_Int, seval, st, List.map_append, celP]); (try simp (disch := omega) only [wrap_in, wk_self, tdv, tmd]); (repeat with_reducible refine obA ?_)))
      · (iterate 2 ((try simp (etaStruct := .none) only [push_cast, DrawG, Int.cast_ofNat_Int, seval, getD_in _ _ _ hlt, celP]); (try simp (disch := omega) only [wrap_in, wk_self, tdv, tmd]); (repeat with_reducible refine obA ?_)))
    · (try simp only [xa, xb, xc, xd, xe, xf, xg, xh, xi, xj, Bool.not_true, Bool.not_false, xk, xl] at h2)
      rw [if_neg (by rw [h2]; decide), List.append_nil] at st
      (iterate 2 ((try simp (etaStruct := .none) only [push_cast, DrawG, Int.cast_ofNat_Int, seval, getD_in _ _ _ hlt, celP]); (try simp (disch := omega) only [wrap_in, wk_self, tdv, tmd]); (repeat with_reducible refine obA ?_)))
      refine ⟨k + 1, by omega, by omega, To.mk [0, 1, 2] rfl rfl (by decide) ?_ ?_⟩
      · (iterate 2 ((try simp (etaStruct := .none) only [push_cast, DrawG, Int.cast_ofNat_Int, seval, st]); (try simp (disch := omega) only [wrap_in, wk_self, tdv, tmd]); (repeat with_reducible refine obA ?_)))
      · (iterate 2 ((try simp (etaStruct := .none) only [push_cast, DrawG, Int.cast_ofNat_Int, seval, getD_in _ _ _ hlt, celP]); (try simp (disch := omega) only [wrap_in, wk_self, tdv, tmd]); (repeat with_reducible refine obA ?_)))
  · (try simp only [xa, xb, xc, xd, xe, xf, xg, xh, xi, xj, Bool.not_true, Bool.not_false, xk, xl] at h1)
    obtain rfl : k = 4 := by omega
    have ht : (sidesC c).take 4 = sidesC c := rfl
    (iterate 2 ((try simp (etaStruct := .none) only [push_cast, DrawG, Int.cast_ofNat_Int, seval, ht]); (try simp (disch := omega) only [wrap_in, wk_self, tdv, tmd]); (repeat with_reducible refine obA ?_)))
    (first | (refine retA rfl (Wk.of ?_); (try simp (etaStruct := .none) only [push_cast, DrawG, Int.cast_ofNat_Int, seval]); first | done | (simp [besideC, *]; done) | (simp_all [besideC]; done)) | (refine retA rfl ?_; (try simp (etaStruct := .none) only [push_cast, DrawG, Int.cast_ofNat_Int, seval]); (try simp [besideC, *]); (try exact wkc)))
theorem besideC_ok (f : Fld) {W H i : Nat} (hw : f.w = (W : Int)) (hh : f.h = (H : Int)) (hW : 0 < W) (hi : i < W * H) : (besideC f ⟨((i % W : Nat) : Int), ((i / W : Nat) : Int)⟩).map (idxN f) = besideN W H i ∧ ∀ n ∈ besideC f ⟨((i % W : Nat) : Int), ((i / W : Nat) : Int)⟩, inF f n = true := by
  refine ⟨?_, fun n hn => (List.mem_filter.1 hn).2⟩
  have h1 := Nat.div_add_mod i W
  have h2 := Nat.mod_lt i hW
  have h3 : i / W < H := by rw [Nat.div_lt_iff_lt_mul hW, Nat.mul_comm]; exact hi
  unfold besideC besideN sidesC
  generalize i % W = x at *
  generalize i / W = y at *
  have a1 : inF f ⟨(x : Int), (y : Int) - 1⟩ = decide (0 < y) := by
    rw [Bool.eq_iff_iff, inF_iff, decide_eq_true_eq, hw, hh]; simp only; omega
  have a2 : inF f ⟨(x : Int) - 1, (y : Int)⟩ = decide (0 < x) := by
    rw [Bool.eq_iff_iff, inF_iff, decide_eq_true_eq, hw, hh]; simp only; omega
  have a3 : inF f ⟨(x : Int) + 1, (y : Int)⟩ = decide (x + 1 < W) := by
    rw [Bool.eq_iff_iff, inF_iff, decide_eq_true_eq, hw, hh]; simp only; omega
  have a4 : inF f ⟨(x : Int), (y : Int) + 1⟩ = decide (y + 1 < H) := by
    rw [Bool.eq_iff_iff, inF_iff, decide_eq_true_eq, hw, hh]; simp only; omega
  have hyW : (y : Int) * (W : Int) = ((W * y : Nat) : Int) := by rw [Nat.mul_comm, Int.natCast_mul]
  have b1 : 0 < y → idxN f ⟨(x : Int), (y : Int) - 1⟩ = i - W := fun h => by
    unfold idxN; simp only; rw [hw, Int.sub_mul, hyW, Int.one_mul]
    have : W * 1 ≤ W * y := Nat.mul_le_mul_left _ h
    omega
  have b2 : 0 < x → idxN f ⟨(x : Int) - 1, (y : Int)⟩ = i - 1 := fun h => by
    unfold idxN; simp only; rw [hw, hyW]; omega
  have b3 : idxN f ⟨(x : Int) + 1, (y : Int)⟩ = i + 1 := by
    unfold idxN; simp only; rw [hw, hyW]; omega
  have b4 : idxN f ⟨(x : Int), (y : Int) + 1⟩ = i + W := by
    unfold idxN; simp only; rw [hw, Int.add_mul, hyW, Int.one_mul]; omega
  simp only [List.filter_cons, List.filter_nil, a1, a2, a3, a4, decide_eq_true_eq]
  by_cases c1 : 0 < y <;> by_cases c2 : 0 < x <;> by_cases c3 : x + 1 < W <;> by_cases c4 : y + 1 < H <;> simp only [c1, c2, c3, c4, if_true, if_false, List.map_cons, List.map_nil, b3, b4, List.nil_append, List.cons_append, List.append_nil] <;> (first | rw [b1 c1, b2 c2] | rw [b1 c1] | rw [b2 c2] | rfl)
theorem floods_s (f : Fld) (l : List Cel) (R : List Int) (hR : FloodIs f l R) (hf : f.p.length ≤ 9223372036854775807) (hl : l.length ≤ 9223372036854775807) : Spec Tryz.prog 100 [fldA f, .c (.sl 2 (l.map celP))] [] (.tup [.c (.sl 1 (R.map i64P)), I .i64 (floodE f l)]) [] := by
  refine spec_am Tryz.func100 rfl rfl mix 134 rfl [.tmp 4, .tmp 5] Tryz.results100 (Nat.le_of_ble_eq_true rfl) ?_
  (try simp (etaStruct := .none) only [push_cast, DrawG, Int.cast_ofNat_Int, seval]); (try simp (disch := omega) only [wrap_in, wk_self, tdv, tmd]); (repeat with_reducible refine obA ?_)
  refine callP (fright_s f hf) (WkL.refl _) ?_
  (try simp (etaStruct := .none) only [push_cast, DrawG, Int.cast_ofNat_Int, seval]); (try simp (disch := omega) only [wrap_in, wk_self, tdv, tmd]); (repeat with_reducible refine obA ?_)
  refine cond_i (fun h1 => ?_) (fun h1 => ?_)
  · (try simp only [xa, xb, xc, xd, xe, xf, xg, xh, xi, xj, Bool.not_true, Bool.not_false, xk, xl] at h1)
    have e : floodE f l = fldE f := by unfold floodE; rw [if_pos h1]
    have e2 : R = [] := hR.2.1 (by rw [e]; exact h1)
    (try simp (etaStruct := .none) only [push_cast, DrawG, Int.cast_ofNat_Int, seval]); (try simp (disch := omega) only [wrap_in, wk_self, tdv, tmd]); (repeat with_reducible refine obA ?_)
    (first | (refine retA rfl (Wk.of ?_); (try simp (etaStruct := .none) only [push_cast, DrawG, Int.cast_ofNat_Int, seval]); first | done | (simp [e, e2, *]; done) | (simp_all [e, e2]; done)) | (refine retA rfl ?_; (try simp (etaStruct := .none) only [push_cast, DrawG, Int.cast_ofNat_Int, seval]); (try simp [e, e2, *]); (try exact wkc)))
  · (try simp only [xa, xb, xc, xd, xe, xf, xg, xh, xi, xj, Bool.not_true, Bool.not_false, xk, xl] at h1)
    obtain ⟨⟨w1, w2⟩, ⟨w3, w4⟩, wl, wp⟩ := fldE_ok h1
    obtain ⟨W, hW⟩ : ∃ W : Nat, f.w = (W : Int) := Int.eq_ofNat_of_zero_le (by omega)
    obtain ⟨H, hH⟩ : ∃ H : Nat, f.h = (H : Int) := Int.eq_ofNat_of_zero_le (by omega)
    have hWH : f.p.length = W * H := by rw [hW, hH] at wl; exact_mod_cast wl
    have hm : W * H ≤ 40 * 40 := Nat.mul_le_mul (by omega) (by omega)
    (try simp (etaStruct := .none) only [push_cast, DrawG, Int.cast_ofNat_Int, seval]); (try simp (disch := omega) only [wrap_in, wk_self, tdv, tmd]); (repeat with_reducible refine obA ?_)
    refine cond_i (fun h2 => ?_) (fun h2 => ?_)
    · (try simp only [xa, xb, xc, xd, xe, xf, xg, xh, xi, xj, Bool.not_true, Bool.not_false, xk, xl] at h2)
      have e : floodE f l = 2 := by unfold floodE; rw [if_neg (by simpa using h1), if_pos (by omega)]
      have e2 : R = [] := hR.2.1 (by rw [e]; decide)
      (try simp (etaStruct := .none) only [push_cast, DrawG, Int.cast_ofNat_Int, seval]); (try simp (disch := omega) only [wrap_in, wk_self, tdv, tmd]); (repeat with_reducible refine obA ?_)
      (first | (refine retA rfl (Wk.of ?_); (try simp (etaStruct := .none) only [push_cast, DrawG, Int.cast_ofNat_Int, seval]); first | done | (simp [e, e2, *]; done) | (simp_all [e, e2]; done)) | (refine retA rfl ?_; (try simp (etaStruct := .none) only [push_cast, DrawG, Int.cast_ofNat_Int, seval]); (try simp [e, e2, *]); (try exact wkc)))
    · (try simp only [xa, xb, xc, xd, xe, xf, xg, xh, xi, xj, Bool.not_true, Bool.not_false, xk, xl] at h2)
      have eF : floodE f l = srcE f l := by unfold floodE; rw [if_neg (by simpa using h1), if_neg (by omega)]
      (try simp (etaStruct := .none) only [push_cast, DrawG, Int.cast_ofNat_Int, seval]); (try simp (disch := omega) only [wrap_in, wk_self, tdv, tmd]); (repeat with_reducible refine obA ?_)
      refine loopI (fun k : Nat => ⟨[(31, I .i64 k), (30, I .i64 f.p.length), (7, .own 1), (2, .ptr 0 0 0), (1, .c (.sl 2 (l.map celP)))], [(0, .blk 24 (fldC f)), (1, .row 3 1 ((partL (fun _ => (-1 : Int)) k (List.replicate f.p.length 0)).map i64P))], 2⟩) (fun k : Nat => k ≤ f.p.length) (fun k : Nat => f.p.length - k) (0) (Nat.zero_le _) (To.mk [0, 1] rfl rfl (by decide) ?_ ?_) ?_
      · simp (etaStruct := .none) only [push_cast, DrawG, Int.cast_ofNat_Int, seval, partL_0, List.map_replicate, List.length_replicate, i64P]
      · simp (etaStruct := .none) only [push_cast, DrawG, Int.cast_ofNat_Int, seval, List.length_replicate]
      rintro k hk
      have hpl := partL_len (fun _ => (-1 : Int)) k (List.replicate f.p.length 0)
      rw [List.length_replicate] at hpl
      (try simp (etaStruct := .none) only [push_cast, DrawG, Int.cast_ofNat_Int, seval]); (try simp (disch := omega) only [wrap_in, wk_self, tdv, tmd]); (repeat with_reducible refine obA ?_)
      refine cond_i (fun h3 => ?_) (fun h3 => ?_)
      · (try simp only [xa, xb, xc, xd, xe, xf, xg, xh, xi, xj, Bool.not_true, Bool.not_false, xk, xl] at h3)
        have hlt : k < f.p.length := by omega
        have hs := partL_succ (fun _ => (-1 : Int)) k (List.replicate f.p.length 0) (by rw [List.length_replicate]; exact hlt)
        (try simp (etaStruct := .none) only [push_cast, DrawG, Int.cast_ofNat_Int, seval]); (try simp (disch := omega) only [wrap_in, wk_self, tdv, tmd]); (repeat with_reducible refine obA ?_)
        refine ⟨k + 1, by omega, by omega, To.mk [0, 1] rfl rfl (by decide) ?_ ?_⟩
        · (iterate 2 ((try simp (etaStruct := .none) only [push_cast, DrawG, Int.cast_ofNat_Int, seval, hs, List.map_set, i64P]); (try simp (disch := omega) only [wrap_in, wk_self, tdv, tmd]); (repeat with_reducible refine obA ?_)))
        · (try simp (etaStruct := .none) only [push_cast, DrawG, Int.cast_ofNat_Int, seval]); (try simp (disch := omega) only [wrap_in, wk_self, tdv, tmd]); (repeat with_reducible refine obA ?_)
      · (try simp only [xa, xb, xc, xd, xe, xf, xg, xh, xi, xj, Bool.not_true, Bool.not_false, xk, xl] at h3)
        obtain rfl : k = f.p.length := by omega
        have hall := partL_all (fun _ => (-1 : Int)) (List.replicate f.p.length 0)
        rw [List.length_replicate, List.map_replicate] at hall
        (try simp (etaStruct := .none) only [push_cast, DrawG, Int.cast_ofNat_Int, seval]); (try simp (disch := omega) only [wrap_in, wk_self, tdv, tmd]); (repeat with_reducible refine obA ?_)
        refine loopI (fun x : Nat × List Int => ⟨[(40, I .i64 x.1), (39, I .i64 l.length), (38, .c (.sl 2 (l.map celP))), (7, .own 1), (2, .ptr 0 0 0)], [(0, .blk 24 (fldC f)), (1, .row 3 1 (x.2.map i64P))], 2⟩) (fun x : Nat × List Int => x.1 ≤ l.length ∧ x.2.length = f.p.length ∧ (∀ p, p < f.p.length → (p ∈ (l.take x.1).map (idxN f) ∧ x.2.getD p default = 0) ∨ (p ∉ (l.take x.1).map (idxN f) ∧ x.2.getD p default = -1)) ∧ ∀ j, j < x.1 → inF f (l.getD j default) = true ∧ placeV f (l.getD j default) ≠ 1) (fun x : Nat × List Int => l.length - x.1) ((0, List.replicate f.p.length (-1))) (⟨Nat.zero_le _, by simp, fun p hp => .inr ⟨by simp, getD_rep _ _ hp⟩, fun j h => absurd h (Nat.not_lt_zero _)⟩) (To.mk [0, 1] rfl rfl (by decide) ?_ ?_) ?_
        · simp (etaStruct := .none) only [push_cast, DrawG, Int.cast_ofNat_Int, seval, hall]
        · simp (etaStruct := .none) only [push_cast, DrawG, Int.cast_ofNat_Int, seval]
        rintro ⟨k, far⟩ ⟨hk, hfl, hfar, hgood⟩
        simp only at hk hfl hfar hgood
        (try simp (etaStruct := .none) only [push_cast, DrawG, Int.cast_ofNat_Int, seval]); (try simp (disch := omega) only [wrap_in, wk_self, tdv, tmd]); (repeat with_reducible refine obA ?_)
        refine cond_i (fun h4 => ?_) (fun h4 => ?_)
        · (try simp only [xa, xb, xc, xd, xe, xf, xg, xh, xi, xj, Bool.not_true, Bool.not_false, xk, xl] at h4)
          have hlt : k < l.length := by omega
          (iterate 2 ((try simp (etaStruct := .none) only [push_cast, DrawG, Int.cast_ofNat_Int, seval, getD_in _ _ _ hlt, celP]); (try simp (disch := omega) only [wrap_in, wk_self, tdv, tmd]); (repeat with_reducible refine obA ?_)))
          refine callP (in_s' f (l.getD k default) h1) (WkL.refl _) ?_
          (iterate 2 ((try simp (etaStruct := .none) only [push_cast, DrawG, Int.cast_ofNat_Int, seval, getD_in _ _ _ hlt, celP]); (try simp (disch := omega) only [wrap_in, wk_self, tdv, tmd]); (repeat with_reducible refine obA ?_)))
          refine cond_i (fun h5 => ?_) (fun h5 => ?_)
          · (try simp only [xa, xb, xc, xd, xe, xf, xg, xh, xi, xj, Bool.not_true, Bool.not_false, xk, xl] at h5)
            have e : floodE f l = 7 := by rw [eF, srcE_bad k hlt hgood (fun h => by rw [h5] at h; exact absurd h.1 (by decide)), if_neg (by rw [h5]; decide)]
            have e2 : R = [] := hR.2.1 (by rw [e]; decide)
            (iterate 2 ((try simp (etaStruct := .none) only [push_cast, DrawG, Int.cast_ofNat_Int, seval, getD_in _ _ _ hlt, celP]); (try simp (disch := omega) only [wrap_in, wk_self, tdv, tmd]); (repeat with_reducible refine obA ?_)))
            (first | (refine retA rfl (Wk.of ?_); (try simp (etaStruct := .none) only [push_cast, DrawG, Int.cast_ofNat_Int, seval]); first | done | (simp [e, e2, *]; done) | (simp_all [e, e2]; done)) | (refine retA rfl ?_; (try simp (etaStruct := .none) only [push_cast, DrawG, Int.cast_ofNat_Int, seval]); (try simp [e, e2, *]); (try exact wkc)))
          · (try simp only [xa, xb, xc, xd, xe, xf, xg, xh, xi, xj, Bool.not_true, Bool.not_false, xk, xl] at h5)
            obtain ⟨i1, i2, i3, i4, i5⟩ := place_ix h1 h5
            (iterate 2 ((try simp (etaStruct := .none) only [push_cast, DrawG, Int.cast_ofNat_Int, seval, getD_in _ _ _ hlt, celP]); (try simp (disch := omega) only [wrap_in, wk_self, tdv, tmd]); (repeat with_reducible refine obA ?_)))
            refine callP (place_s f (l.getD k default) h1 h5) (WkL.refl _) ?_
            (iterate 2 ((try simp (etaStruct := .none) only [push_cast, DrawG, Int.cast_ofNat_Int, seval, getD_in _ _ _ hlt, celP]); (try simp (disch := omega) only [wrap_in, wk_self, tdv, tmd]); (repeat with_reducible refine obA ?_)))
            refine cond_i (fun h6 => ?_) (fun h6 => ?_)
            · (try simp only [xa, xb, xc, xd, xe, xf, xg, xh, xi, xj, Bool.not_true, Bool.not_false, xk, xl] at h6)
              have e : floodE f l = 9 := by rw [eF, srcE_bad k hlt hgood (fun h => h.2 h6), if_pos h5]
              have e2 : R = [] := hR.2.1 (by rw [e]; decide)
              (iterate 2 ((try simp (etaStruct := .none) only [push_cast, DrawG, Int.cast_ofNat_Int, seval, getD_in _ _ _ hlt, celP]); (try simp (disch := omega) only [wrap_in, wk_self, tdv, tmd]); (repeat with_reducible refine obA ?_)))
              (first | (refine retA rfl (Wk.of ?_); (try simp (etaStruct := .none) only [push_cast, DrawG, Int.cast_ofNat_Int, seval]); first | done | (simp [e, e2, *]; done) | (simp_all [e, e2]; done)) | (refine retA rfl ?_; (try simp (etaStruct := .none) only [push_cast, DrawG, Int.cast_ofNat_Int, seval]); (try simp [e, e2, *]); (try exact wkc)))
            · (try simp only [xa, xb, xc, xd, xe, xf, xg, xh, xi, xj, Bool.not_true, Bool.not_false, xk, xl] at h6)
              obtain ⟨m, hm2⟩ : ∃ m, m = idxN f (l.getD k default) := ⟨_, rfl⟩
              have hmi : (l.getD k default).y * f.w + (l.getD k default).x = (m : Int) := by rw [hm2]; unfold idxN; omega
              have ew1 : IntKind.i64.wrap (IntKind.i64.wrap ((l.getD k default).y * f.w) + (l.getD k default).x) = (m : Int) := by rw [wrap_in ((l.getD k default).y * f.w) (by omega) (by omega), wrap_in _ (by omega) (by omega)]; exact hmi
              have hml : m < far.length := by omega
              (iterate 2 ((try simp (etaStruct := .none) only [push_cast, DrawG, Int.cast_ofNat_Int, seval, getD_in _ _ _ hlt, celP, ew1, getD_in _ _ _ hml, List.length_map]); (try simp (disch := omega) only [wrap_in, wk_self, tdv, tmd]); (repeat with_reducible refine obA ?_)))
              refine ⟨(k + 1, far.set m 0), ⟨by simp only; omega, by simp only [List.length_set]; exact hfl, fun p hp => by
  simp only
  rw [take_snoc _ _ hlt, List.map_append, List.map_cons, List.map_nil, ← hm2, set_get _ _ hml, List.mem_append, List.mem_singleton]
  by_cases e : p = m
  · rw [if_pos e]; exact .inl ⟨.inr e, rfl⟩
  · rw [if_neg e]
    rcases hfar p hp with h | h
    · exact .inl ⟨.inl h.1, h.2⟩
    · exact .inr ⟨fun h' => by rcases h' with h' | h'; exact h.1 h'; exact e h', h.2⟩, fun j hj => by
  simp only at hj
  rcases Nat.lt_or_ge j k with h | h
  · exact hgood j h
  · rw [show j = k by omega]; exact ⟨h5, h6⟩⟩, by simp only; omega, To.mk [0, 1] rfl rfl (by decide) ?_ ?_⟩
              · (iterate 2 ((try simp (etaStruct := .none) only [push_cast, DrawG, Int.cast_ofNat_Int, seval, List.map_set, i64P]); (try simp (disch := omega) only [wrap_in, wk_self, tdv, tmd]); (repeat with_reducible refine obA ?_)))
              · (iterate 2 ((try simp (etaStruct := .none) only [push_cast, DrawG, Int.cast_ofNat_Int, seval, getD_in _ _ _ hlt, celP, ew1, getD_in _ _ _ hml, List.length_map]); (try simp (disch := omega) only [wrap_in, wk_self, tdv, tmd]); (repeat with_reducible refine obA ?_)))
        · (try simp only [xa, xb, xc, xd, xe, xf, xg, xh, xi, xj, Bool.not_true, Bool.not_false, xk, xl] at h4)
          obtain rfl : k = l.length := by omega
          rw [List.take_length] at hfar
          have e : floodE f l = 0 := by rw [eF]; exact srcE_ok hgood
          have hst : Bf W f.p (l.map (idxN f)) far := by
            refine ⟨hfl, fun p hp => ?_, fun p hp => ?_, fun p hp h0 => ?_, fun p hp => ?_⟩
            · rcases hfar p hp with h | h <;> rw [h.2] <;> omega
            · obtain ⟨c, hc, rfl⟩ := List.mem_map.1 hp
              obtain ⟨j, hj, rfl⟩ := mem_getD.1 hc
              have := place_ix h1 (hgood j hj).1
              rcases hfar (idxN f (l.getD j default)) (by unfold idxN; omega) with h | h
              · exact h.2
              · exact absurd hp h.1
            · rcases hfar p hp with h | h
              · exact .inl h
              · rw [h.2] at h0; omega
            · rcases hfar p hp with h | h <;> rw [h.2] <;> omega
          (try simp (etaStruct := .none) only [push_cast, DrawG, Int.cast_ofNat_Int, seval]); (try simp (disch := omega) only [wrap_in, wk_self, tdv, tmd]); (repeat with_reducible refine obA ?_)
          refine loopI (fun x : List Int × Bool => ⟨[(11, B x.2), (7, .own 1), (2, .ptr 0 0 0)], [(0, .blk 24 (fldC f)), (1, .row 3 1 (x.1.map i64P))], 2⟩) (fun x : List Int × Bool => Bf W f.p (l.map (idxN f)) x.1 ∧ (x.2 = false → ∀ i n, i < f.p.length → n < f.p.length → Adj W i n → fine f.p x.1 i n)) (fun x : List Int × Bool => 2 * sumL big0 x.1 + (if x.2 then 1 else 0)) ((far, true)) (⟨hst, fun h => by simp at h⟩) (To.mk [0, 1] rfl rfl (by decide) ?_ ?_) ?_
          · simp (etaStruct := .none) only [push_cast, DrawG, Int.cast_ofNat_Int, seval]
          · simp (etaStruct := .none) only [push_cast, DrawG, Int.cast_ofNat_Int, seval]
          rintro ⟨far0, b0⟩ ⟨hB, hfine⟩
          simp only at hB hfine
          have hfl0 := hB.len
          (try simp (etaStruct := .none) only [push_cast, DrawG, Int.cast_ofNat_Int, seval]); (try simp (disch := omega) only [wrap_in, wk_self, tdv, tmd]); (repeat with_reducible refine obA ?_)
          refine cond_i (fun h7 => ?_) (fun h7 => ?_)
          · (try simp only [xa, xb, xc, xd, xe, xf, xg, xh, xi, xj, Bool.not_true, Bool.not_false, xk, xl] at h7)
            (try simp (etaStruct := .none) only [push_cast, DrawG, Int.cast_ofNat_Int, seval]); (try simp (disch := omega) only [wrap_in, wk_self, tdv, tmd]); (repeat with_reducible refine obA ?_)
            refine loopI (fun x : Nat × List Int × Bool => ⟨[(66, I .i64 x.1), (65, I .i64 f.p.length), (11, B x.2.2), (7, .own 1), (2, .ptr 0 0 0)], [(0, .blk 24 (fldC f)), (1, .row 3 1 (x.2.1.map i64P))], 2⟩) (fun x : Nat × List Int × Bool => x.1 ≤ f.p.length ∧ Bf W f.p (l.map (idxN f)) x.2.1 ∧ ((x.2.2 = false ∧ x.2.1 = far0 ∧ ∀ i n, i < x.1 → n < f.p.length → Adj W i n → fine f.p x.2.1 i n) ∨ (x.2.2 = true ∧ sumL big0 x.2.1 < sumL big0 far0))) (fun x : Nat × List Int × Bool => f.p.length - x.1) ((0, far0, false)) (⟨Nat.zero_le _, hB, .inl ⟨rfl, rfl, fun i n h => absurd h (Nat.not_lt_zero _)⟩⟩) (To.mk [0, 1] rfl rfl (by decide) ?_ ?_) ?_
            · simp (etaStruct := .none) only [push_cast, DrawG, Int.cast_ofNat_Int, seval]
            · simp (etaStruct := .none) only [push_cast, DrawG, Int.cast_ofNat_Int, seval, hfl0]
            rintro ⟨i, far1, b1⟩ ⟨hi, hB1, hsw⟩
            simp only at hi hB1 hsw
            (try simp (etaStruct := .none) only [push_cast, DrawG, Int.cast_ofNat_Int, seval]); (try simp (disch := omega) only [wrap_in, wk_self, tdv, tmd]); (repeat with_reducible refine obA ?_)
            refine cond_i (fun h8 => ?_) (fun h8 => ?_)
            · (try simp only [xa, xb, xc, xd, xe, xf, xg, xh, xi, xj, Bool.not_true, Bool.not_false, xk, xl] at h8)
              have hil : i < f.p.length := by omega
              have hpr := wp _ (getD_mem f.p i hil)
              obtain ⟨cst, hcst⟩ : ∃ cst : Int, cst = if f.p.getD i default = 1 then -1 else kV (f.p.getD i default) := ⟨_, rfl⟩
              have hkv := kV_b (f.p.getD i default)
              have hcb : (f.p.getD i default = 1 ∧ cst = -1) ∨ (f.p.getD i default ≠ 1 ∧ cst = kV (f.p.getD i default)) := by
                by_cases h : f.p.getD i default = 1
                · exact .inl ⟨h, by rw [hcst, if_pos h]⟩
                · exact .inr ⟨h, by rw [hcst, if_neg h]⟩
              obtain ⟨bm, bi⟩ := besideC_ok f hW hH (by omega) (show i < W * H by omega)
              have bl : (besideC f ⟨((i % W : Nat) : Int), ((i / W : Nat) : Int)⟩).length = (besideN W H i).length := by rw [← bm, List.length_map]
              have hx1 := Nat.mod_lt i (show 0 < W by omega)
              have hy1 : i / W ≤ i := Nat.div_le_self _ _
              have ex : (i : Int).tmod f.w = ((i % W : Nat) : Int) := by rw [hW, Int.tmod_eq_emod_of_nonneg (by omega)]; rfl
              have ey : IntKind.i64.wrap ((i : Int).tdiv f.w) = ((i / W : Nat) : Int) := by rw [hW, Int.tdiv_eq_ediv_of_nonneg (by omega)]; change IntKind.i64.wrap ((i / W : Nat) : Int) = _; exact wrap_in _ (by have := Int.natCast_nonneg (i / W); omega) (by omega)
              obtain ⟨cx, hcx⟩ : ∃ cx : Nat, cx = i % W := ⟨_, rfl⟩
              obtain ⟨cy, hcy⟩ : ∃ cy : Nat, cy = i / W := ⟨_, rfl⟩
              rw [← hcx] at ex hx1
              rw [← hcy] at ey hy1
              rw [← hcx, ← hcy] at bm bi bl
              have hbl := besideN_len W H i
              (iterate 2 ((try simp (etaStruct := .none) only [push_cast, DrawG, Int.cast_ofNat_Int, seval, ← hcst, ex, ey, getD_in _ _ _ hil, i64P]); (try simp (disch := omega) only [wrap_in, wk_self, tdv, tmd]); (repeat with_reducible refine obA ?_)))
              refine callP (costOf_s (f.p.getD i default) hpr) (WkL.refl _) ?_
              (iterate 2 ((try simp (etaStruct := .none) only [push_cast, DrawG, Int.cast_ofNat_Int, seval, ← hcst, ex, ey, getD_in _ _ _ hil, i64P]); (try simp (disch := omega) only [wrap_in, wk_self, tdv, tmd]); (repeat with_reducible refine obA ?_)))
              refine callP (besides_s f ⟨(cx : Int), (cy : Int)⟩ h1 (by simp only; omega) (by simp only; omega)) (WkL.refl _) ?_
              (iterate 2 ((try simp (etaStruct := .none) only [push_cast, DrawG, Int.cast_ofNat_Int, seval, ← hcst, ex, ey, getD_in _ _ _ hil, i64P]); (try simp (disch := omega) only [wrap_in, wk_self, tdv, tmd]); (repeat with_reducible refine obA ?_)))
              (try (refine ⟨by kernel_rfl, ?_⟩))
              (iterate 2 ((try simp (etaStruct := .none) only [push_cast, DrawG, Int.cast_ofNat_Int, seval, ← hcst, ex, ey, getD_in _ _ _ hil, i64P]); (try simp (disch := omega) only [wrap_in, wk_self, tdv, tmd]); (repeat with_reducible refine obA ?_)))
              refine loopI (fun x : Nat × List Int × Bool => ⟨[(87, I .i64 x.1), (86, I .i64 (besideC f ⟨(cx : Int), (cy : Int)⟩).length), (85, .c (.sl 2 ((besideC f ⟨(cx : Int), (cy : Int)⟩).map celP))), (66, I .i64 i), (65, I .i64 f.p.length), (13, I .i64 cst), (12, I .i64 i), (11, B x.2.2), (7, .own 1), (2, .ptr 0 0 0)], [(0, .blk 24 (fldC f)), (1, .row 3 1 (x.2.1.map i64P))], 2⟩) (fun x : Nat × List Int × Bool => x.1 ≤ (besideN W H i).length ∧ Bf W f.p (l.map (idxN f)) x.2.1 ∧ ((x.2.2 = false ∧ x.2.1 = far0 ∧ (∀ i' n, i' < i → n < f.p.length → Adj W i' n → fine f.p x.2.1 i' n) ∧ ∀ n ∈ (besideN W H i).take x.1, fine f.p x.2.1 i n) ∨ (x.2.2 = true ∧ sumL big0 x.2.1 < sumL big0 far0))) (fun x : Nat × List Int × Bool => (besideN W H i).length - x.1) ((0, far1, b1)) (⟨Nat.zero_le _, hB1, by
  rcases hsw with h | h
  · exact .inl ⟨h.1, h.2.1, h.2.2, fun n hn => by simp at hn⟩
  · exact .inr h⟩) (To.mk [0, 1] rfl rfl (by decide) ?_ ?_) ?_
              · simp (etaStruct := .none) only [push_cast, DrawG, Int.cast_ofNat_Int, seval]
              · simp (etaStruct := .none) only [push_cast, DrawG, Int.cast_ofNat_Int, seval]
              rintro ⟨k, far2, b2⟩ ⟨hk2, hB2, hsw2⟩
              simp only at hk2 hB2 hsw2
              have hfl2 := hB2.len
              (iterate 2 ((try simp (etaStruct := .none) only [push_cast, DrawG, Int.cast_ofNat_Int, seval, ← hcst, ex, ey, getD_in _ _ _ hil, i64P]); (try simp (disch := omega) only [wrap_in, wk_self, tdv, tmd]); (repeat with_reducible refine obA ?_)))
              refine cond_i (fun h9 => ?_) (fun h9 => ?_)
              · (try simp only [xa, xb, xc, xd, xe, xf, xg, xh, xi, xj, Bool.not_true, Bool.not_false, xk, xl] at h9)
                have hlt2 : k < (besideN W H i).length := by omega
                have hlt3 : k < (besideC f ⟨(cx : Int), (cy : Int)⟩).length := by omega
                obtain ⟨n, hn⟩ : ∃ n, n = (besideN W H i).getD k default := ⟨_, rfl⟩
                obtain ⟨c, hc⟩ : ∃ c, c = (besideC f ⟨(cx : Int), (cy : Int)⟩).getD k default := ⟨_, rfl⟩
                have hcn : idxN f c = n := by
                  rw [hc, hn, ← bm, getD_at _ _ hlt3, getD_at _ _ (by rw [List.length_map]; exact hlt3), List.getElem_map]
                have hcin := bi c (by rw [hc]; exact getD_mem _ _ hlt3)
                obtain ⟨i1, i2, i3, i4, i5⟩ := place_ix h1 hcin
                have hnm := (mem_beside (W := W) (H := H) (p := i) (n := n) (by omega) (by omega)).1 (by rw [hn]; exact getD_mem _ _ hlt2)
                have hnp : n < f.p.length := by omega
                have hnf : n < far2.length := by omega
                have hif : i < far2.length := by omega
                have hmi : c.y * f.w + c.x = (n : Int) := by rw [← hcn]; unfold idxN; omega
                have ew1 : IntKind.i64.wrap (IntKind.i64.wrap (c.y * f.w) + c.x) = (n : Int) := by rw [wrap_in (c.y * f.w) (by omega) (by omega), wrap_in _ (by omega) (by omega)]; exact hmi
                have htop := hB2.top n hnp
                have hlow := hB2.low n hnp
                have hcl := sumL_le one0 1 one0_le far2
                have hne : i ≠ n := Adj.ne (by omega) hnm.2
                rw [hfl2] at hcl
                have ew2 : IntKind.i64.wrap (far2.getD n default + cst) = far2.getD n default + cst := wrap_in _ (by omega) (by omega)
                (iterate 2 ((try simp (etaStruct := .none) only [push_cast, DrawG, Int.cast_ofNat_Int, seval, ← hcst, ex, ey, getD_in _ _ _ hil, i64P, getD_in _ _ _ hlt3, ← hc, celP, ew1, ew2, getD_in _ _ _ hnf, getD_in _ _ _ hif, List.length_map]); (try simp (disch := omega) only [wrap_in, wk_self, tdv, tmd]); (repeat with_reducible refine obA ?_)))
                refine cond_i (fun h10 => ?_) (fun h10 => ?_)
                · (try simp only [xa, xb, xc, xd, xe, xf, xg, xh, xi, xj, Bool.not_true, Bool.not_false, xk, xl] at h10)
                  have hnfine : ¬ fine f.p far2 i n := by
                    unfold fine
                    rintro (h | h | h)
                    · omega
                    · omega
                    · rcases hcb with g | g
                      · omega
                      · omega
                  have hbt := hB2.better (by omega) hil hnp hnm.2 hne hnfine
                  have hce : cst = kV (f.p.getD i default) := by rcases hcb with g | g; omega; exact g.2
                  rw [← hce] at hbt
                  (iterate 2 ((try simp (etaStruct := .none) only [push_cast, DrawG, Int.cast_ofNat_Int, seval, ← hcst, ex, ey, getD_in _ _ _ hil, i64P, getD_in _ _ _ hlt3, ← hc, celP, ew1, ew2, getD_in _ _ _ hnf, getD_in _ _ _ hif, List.length_map]); (try simp (disch := omega) only [wrap_in, wk_self, tdv, tmd]); (repeat with_reducible refine obA ?_)))
                  refine ⟨(k + 1, far2.set i (far2.getD n default + cst), true), ⟨by simp only; omega, hbt.1, .inr ⟨rfl, by
  simp only
  rcases hsw2 with h | h
  · rw [← h.2.1]; exact hbt.2
  · exact Nat.lt_trans hbt.2 h.2⟩⟩, by simp only; omega, To.mk [0, 1] rfl rfl (by decide) ?_ ?_⟩
                  · (iterate 2 ((try simp (etaStruct := .none) only [push_cast, DrawG, Int.cast_ofNat_Int, seval, List.map_set, i64P]); (try simp (disch := omega) only [wrap_in, wk_self, tdv, tmd]); (repeat with_reducible refine obA ?_)))
                  · (iterate 2 ((try simp (etaStruct := .none) only [push_cast, DrawG, Int.cast_ofNat_Int, seval, ← hcst, ex, ey, getD_in _ _ _ hil, i64P, getD_in _ _ _ hlt3, ← hc, celP, ew1, ew2, getD_in _ _ _ hnf, getD_in _ _ _ hif, List.length_map]); (try simp (disch := omega) only [wrap_in, wk_self, tdv, tmd]); (repeat with_reducible refine obA ?_)))
                · (try simp only [xa, xb, xc, xd, xe, xf, xg, xh, xi, xj, Bool.not_true, Bool.not_false, xk, xl] at h10)
                  have hfn : fine f.p far2 i n := by
                    unfold fine
                    rcases hcb with g | g
                    · exact .inl g.1
                    · by_cases h0 : far2.getD n default < 0
                      · exact .inr (.inl h0)
                      · refine .inr (.inr ?_)
                        rcases h10 with h | h
                        · omega
                        · omega
                  (iterate 2 ((try simp (etaStruct := .none) only [push_cast, DrawG, Int.cast_ofNat_Int, seval, ← hcst, ex, ey, getD_in _ _ _ hil, i64P, getD_in _ _ _ hlt3, ← hc, celP, ew1, ew2, getD_in _ _ _ hnf, getD_in _ _ _ hif, List.length_map]); (try simp (disch := omega) only [wrap_in, wk_self, tdv, tmd]); (repeat with_reducible refine obA ?_)))
                  refine ⟨(k + 1, far2, b2), ⟨by simp only; omega, hB2, by
  simp only
  rcases hsw2 with h | h
  · refine .inl ⟨h.1, h.2.1, h.2.2.1, fun m hm => ?_⟩
    rw [take_snoc _ _ hlt2, ← hn, List.mem_append, List.mem_singleton] at hm
    rcases hm with hm | rfl
    · exact h.2.2.2 m hm
    · exact hfn
  · exact .inr h⟩, by simp only; omega, To.mk [0, 1] rfl rfl (by decide) ?_ ?_⟩
                  · (iterate 2 ((try simp (etaStruct := .none) only [push_cast, DrawG, Int.cast_ofNat_Int, seval, ← hcst, ex, ey, getD_in _ _ _ hil, i64P, getD_in _ _ _ hlt3, ← hc, celP, ew1, ew2, getD_in _ _ _ hnf, getD_in _ _ _ hif, List.length_map]); (try simp (disch := omega) only [wrap_in, wk_self, tdv, tmd]); (repeat with_reducible refine obA ?_)))
                  · (iterate 2 ((try simp (etaStruct := .none) only [push_cast, DrawG, Int.cast_ofNat_Int, seval, ← hcst, ex, ey, getD_in _ _ _ hil, i64P, getD_in _ _ _ hlt3, ← hc, celP, ew1, ew2, getD_in _ _ _ hnf, getD_in _ _ _ hif, List.length_map]); (try simp (disch := omega) only [wrap_in, wk_self, tdv, tmd]); (repeat with_reducible refine obA ?_)))
              · (try simp only [xa, xb, xc, xd, xe, xf, xg, xh, xi, xj, Bool.not_true, Bool.not_false, xk, xl] at h9)
                obtain rfl : k = (besideN W H i).length := by omega
                (iterate 2 ((try simp (etaStruct := .none) only [push_cast, DrawG, Int.cast_ofNat_Int, seval, ← hcst, ex, ey, getD_in _ _ _ hil, i64P]); (try simp (disch := omega) only [wrap_in, wk_self, tdv, tmd]); (repeat with_reducible refine obA ?_)))
                refine ⟨(i + 1, far2, b2), ⟨by simp only; omega, hB2, by
  simp only
  rcases hsw2 with h | h
  · refine .inl ⟨h.1, h.2.1, fun i' m h1' h2' h3' => ?_⟩
    rcases Nat.lt_or_ge i' i with g | g
    · exact h.2.2.1 i' m g h2' h3'
    · obtain rfl : i' = i := by omega
      refine h.2.2.2 m ?_
      rw [List.take_length]
      exact (mem_beside (by omega) (by omega)).2 ⟨by omega, h3'⟩
  · exact .inr h⟩, by simp only; omega, To.mk [0, 1] rfl rfl (by decide) ?_ ?_⟩
                · (iterate 2 ((try simp (etaStruct := .none) only [push_cast, DrawG, Int.cast_ofNat_Int, seval, ← hcst, ex, ey, getD_in _ _ _ hil, i64P]); (try simp (disch := omega) only [wrap_in, wk_self, tdv, tmd]); (repeat with_reducible refine obA ?_)))
                · (iterate 2 ((try simp (etaStruct := .none) only [push_cast, DrawG, Int.cast_ofNat_Int, seval, ← hcst, ex, ey, getD_in _ _ _ hil, i64P]); (try simp (disch := omega) only [wrap_in, wk_self, tdv, tmd]); (repeat with_reducible refine obA ?_)))
            · (try simp only [xa, xb, xc, xd, xe, xf, xg, xh, xi, xj, Bool.not_true, Bool.not_false, xk, xl] at h8)
              obtain rfl : i = f.p.length := by omega
              (try simp (etaStruct := .none) only [push_cast, DrawG, Int.cast_ofNat_Int, seval]); (try simp (disch := omega) only [wrap_in, wk_self, tdv, tmd]); (repeat with_reducible refine obA ?_)
              refine ⟨(far1, b1), ⟨hB1, fun hb => by
  rcases hsw with h | h
  · exact fun i n q1 q2 q3 => h.2.2 i n q1 q2 q3
  · simp only at hb; rw [h.1] at hb; simp at hb⟩, by
  simp only
  rcases hsw with h | h
  · rw [h.1, h.2.1, h7]; simp
  · rw [h.1, h7]; simp; omega, To.mk [0, 1] rfl rfl (by decide) ?_ ?_⟩
              · (try simp (etaStruct := .none) only [push_cast, DrawG, Int.cast_ofNat_Int, seval]); (try simp (disch := omega) only [wrap_in, wk_self, tdv, tmd]); (repeat with_reducible refine obA ?_)
              · (try simp (etaStruct := .none) only [push_cast, DrawG, Int.cast_ofNat_Int, seval]); (try simp (disch := omega) only [wrap_in, wk_self, tdv, tmd]); (repeat with_reducible refine obA ?_)
          · (try simp only [xa, xb, xc, xd, xe, xf, xg, xh, xi, xj, Bool.not_true, Bool.not_false, xk, xl] at h7)
            have e2 : R = far0 := hR.1 e far0 (by rw [hW, Int.toNat_natCast]; exact hB.flood (hfine h7))
            (try simp (etaStruct := .none) only [push_cast, DrawG, Int.cast_ofNat_Int, seval]); (try simp (disch := omega) only [wrap_in, wk_self, tdv, tmd]); (repeat with_reducible refine obA ?_)
            (first | (refine retA rfl (Wk.of ?_); (try simp (etaStruct := .none) only [push_cast, DrawG, Int.cast_ofNat_Int, seval]); first | done | (simp [e, e2, *]; done) | (simp_all [e, e2]; done)) | (refine retA rfl ?_; (try simp (etaStruct := .none) only [push_cast, DrawG, Int.cast_ofNat_Int, seval]); (try simp [e, e2, *]); (try exact wkc)))
end Go.Proofs.YthiddmncjafklaaGreat
namespace Go.Proofs.YthiddmncjafklaaGreat
set_option linter.all false
open Go.RowKit
set_option maxRecDepth 100000
theorem cel_dec (a b : Cel) : (decide (a.x = b.x) && decide (a.y = b.y)) = decide (a = b) := by
  rw [Bool.eq_iff_iff]; cases a; cases b; simp
theorem cel_eq (l m : List Cel) (hl : l.length ≤ 9223372036854775807) (hm : m.length ≤ 9223372036854775807) : Spec Tryz.prog 36 [.c (.sl 2 (l.map celP)), .c (.sl 2 (m.map celP))] [] (B (decide (l = m))) [] := by
  refine spec_am Tryz.func36 rfl rfl mix 26 rfl [.tmp 4] Tryz.results36 (Nat.le_of_ble_eq_true rfl) ?_
  (try simp (etaStruct := .none) only [push_cast, DrawG, Int.cast_ofNat_Int, seval]); (try simp (disch := omega) only [wrap_in, wk_self, tdv, tmd]); (repeat with_reducible refine obA ?_)
  refine cond_i (fun h1 => ?_) (fun h1 => ?_)
  · (try simp only [xa, xb, xc, xd, xe, xf, xg, xh, xi, xj, Bool.not_true, Bool.not_false, xk, xl] at h1)
    have e : l ≠ m := by intro e; subst e; simp at h1
    (try simp (etaStruct := .none) only [push_cast, DrawG, Int.cast_ofNat_Int, seval]); (try simp (disch := omega) only [wrap_in, wk_self, tdv, tmd]); (repeat with_reducible refine obA ?_)
    exact ret0 rfl trivial (Wk.of (by rw [decide_eq_false e]; rfl))
  · (try simp only [xa, xb, xc, xd, xe, xf, xg, xh, xi, xj, Bool.not_true, Bool.not_false, xk, xl] at h1)
    (try simp (etaStruct := .none) only [push_cast, DrawG, Int.cast_ofNat_Int, seval]); (try simp (disch := omega) only [wrap_in, wk_self, tdv, tmd]); (repeat with_reducible refine obA ?_)
    refine loopI (fun k : Nat => ⟨[(13, I .i64 k), (12, I .i64 l.length), (1, .c (.sl 2 (m.map celP))), (0, .c (.sl 2 (l.map celP)))], [], 0⟩) (fun k : Nat => k ≤ l.length ∧ ∀ j, j < k → l.getD j default = m.getD j default) (fun k : Nat => l.length - k) (0) (⟨Nat.zero_le _, fun j h => by omega⟩) (To.mk [] rfl rfl List.nodup_nil trivial ?_) ?_
    · simp (etaStruct := .none) only [push_cast, DrawG, Int.cast_ofNat_Int, seval]
    rintro k ⟨hk, hn⟩
    (try simp (etaStruct := .none) only [push_cast, DrawG, Int.cast_ofNat_Int, seval]); (try simp (disch := omega) only [wrap_in, wk_self, tdv, tmd]); (repeat with_reducible refine obA ?_)
    refine cond_i (fun h2 => ?_) (fun h2 => ?_)
    · (try simp only [xa, xb, xc, xd, xe, xf, xg, xh, xi, xj, Bool.not_true, Bool.not_false, xk, xl] at h2)
      have hlt : k < l.length := by omega
      have hlt2 : k < m.length := by omega
      (iterate 2 ((try simp (etaStruct := .none) only [push_cast, DrawG, Int.cast_ofNat_Int, seval, getD_in _ _ _ hlt, getD_in _ _ _ hlt2, celP, cel_dec]); (try simp (disch := omega) only [wrap_in, wk_self, tdv, tmd]); (repeat with_reducible refine obA ?_)))
      (try (refine ⟨by kernel_rfl, ?_⟩))
      (iterate 2 ((try simp (etaStruct := .none) only [push_cast, DrawG, Int.cast_ofNat_Int, seval, getD_in _ _ _ hlt, getD_in _ _ _ hlt2, celP, cel_dec]); (try simp (disch := omega) only [wrap_in, wk_self, tdv, tmd]); (repeat with_reducible refine obA ?_)))
      refine cond_i (fun h3 => ?_) (fun h3 => ?_)
      · (try simp only [xa, xb, xc, xd, xe, xf, xg, xh, xi, xj, Bool.not_true, Bool.not_false, xk, xl] at h3)
        have e : l ≠ m := by intro e; subst e; simp at h3
        (iterate 2 ((try simp (etaStruct := .none) only [push_cast, DrawG, Int.cast_ofNat_Int, seval, getD_in _ _ _ hlt, getD_in _ _ _ hlt2, celP, cel_dec]); (try simp (disch := omega) only [wrap_in, wk_self, tdv, tmd]); (repeat with_reducible refine obA ?_)))
        exact ret0 rfl trivial (Wk.of (by rw [decide_eq_false e]; rfl))
      · (try simp only [xa, xb, xc, xd, xe, xf, xg, xh, xi, xj, Bool.not_true, Bool.not_false, xk, xl] at h3)
        (iterate 2 ((try simp (etaStruct := .none) only [push_cast, DrawG, Int.cast_ofNat_Int, seval, getD_in _ _ _ hlt, getD_in _ _ _ hlt2, celP, cel_dec]); (try simp (disch := omega) only [wrap_in, wk_self, tdv, tmd]); (repeat with_reducible refine obA ?_)))
        refine ⟨k + 1, ⟨by omega, fun j hj => by rcases Nat.lt_or_ge j k with h | h; exact hn j h; rw [show j = k by omega]; simpa using h3⟩, by omega, To.mk [] rfl rfl List.nodup_nil trivial ?_⟩
        · (iterate 2 ((try simp (etaStruct := .none) only [push_cast, DrawG, Int.cast_ofNat_Int, seval, getD_in _ _ _ hlt, getD_in _ _ _ hlt2, celP, cel_dec]); (try simp (disch := omega) only [wrap_in, wk_self, tdv, tmd]); (repeat with_reducible refine obA ?_)))
    · (try simp only [xa, xb, xc, xd, xe, xf, xg, xh, xi, xj, Bool.not_true, Bool.not_false, xk, xl] at h2)
      have e : l = m := by
        refine List.ext_getElem (by omega) fun i i1 i2 => ?_
        have := hn i (by omega)
        rwa [getD_at _ _ i1, getD_at _ _ i2] at this
      (try simp (etaStruct := .none) only [push_cast, DrawG, Int.cast_ofNat_Int, seval]); (try simp (disch := omega) only [wrap_in, wk_self, tdv, tmd]); (repeat with_reducible refine obA ?_)
      exact ret0 rfl trivial (Wk.of (by rw [decide_eq_true e]; rfl))
theorem int_eq (l m : List Int) (hl : l.length ≤ 9223372036854775807) (hm : m.length ≤ 9223372036854775807) : Spec Tryz.prog 37 [.c (.sl 1 (l.map i64P)), .c (.sl 1 (m.map i64P))] [] (B (decide (l = m))) [] := by
  refine spec_am Tryz.func37 rfl rfl mix 26 rfl [.tmp 4] Tryz.results37 (Nat.le_of_ble_eq_true rfl) ?_
  (try simp (etaStruct := .none) only [push_cast, DrawG, Int.cast_ofNat_Int, seval]); (try simp (disch := omega) only [wrap_in, wk_self, tdv, tmd]); (repeat with_reducible refine obA ?_)
  refine cond_i (fun h1 => ?_) (fun h1 => ?_)
  · (try simp only [xa, xb, xc, xd, xe, xf, xg, xh, xi, xj, Bool.not_true, Bool.not_false, xk, xl] at h1)
    have e : l ≠ m := by intro e; subst e; simp at h1
    (try simp (etaStruct := .none) only [push_cast, DrawG, Int.cast_ofNat_Int, seval]); (try simp (disch := omega) only [wrap_in, wk_self, tdv, tmd]); (repeat with_reducible refine obA ?_)
    exact ret0 rfl trivial (Wk.of (by rw [decide_eq_false e]; rfl))
  · (try simp only [xa, xb, xc, xd, xe, xf, xg, xh, xi, xj, Bool.not_true, Bool.not_false, xk, xl] at h1)
    (try simp (etaStruct := .none) only [push_cast, DrawG, Int.cast_ofNat_Int, seval]); (try simp (disch := omega) only [wrap_in, wk_self, tdv, tmd]); (repeat with_reducible refine obA ?_)
    refine loopI (fun k : Nat => ⟨[(13, I .i64 k), (12, I .i64 l.length), (1, .c (.sl 1 (m.map i64P))), (0, .c (.sl 1 (l.map i64P)))], [], 0⟩) (fun k : Nat => k ≤ l.length ∧ ∀ j, j < k → l.getD j default = m.getD j default) (fun k : Nat => l.length - k) (0) (⟨Nat.zero_le _, fun j h => by omega⟩) (To.mk [] rfl rfl List.nodup_nil trivial ?_) ?_
    · simp (etaStruct := .none) only [push_cast, DrawG, Int.cast_ofNat_Int, seval]
    rintro k ⟨hk, hn⟩
    (try simp (etaStruct := .none) only [push_cast, DrawG, Int.cast_ofNat_Int, seval]); (try simp (disch := omega) only [wrap_in, wk_self, tdv, tmd]); (repeat with_reducible refine obA ?_)
    refine cond_i (fun h2 => ?_) (fun h2 => ?_)
    · (try simp only [xa, xb, xc, xd, xe, xf, xg, xh, xi, xj, Bool.not_true, Bool.not_false, xk, xl] at h2)
      have hlt : k < l.length := by omega
      have hlt2 : k < m.length := by omega
      (iterate 2 ((try simp (etaStruct := .none) only [push_cast, DrawG, Int.cast_ofNat_Int, seval, getD_in _ _ _ hlt, getD_in _ _ _ hlt2, i64P, decide_not]); (try simp (disch := omega) only [wrap_in, wk_self, tdv, tmd]); (repeat with_reducible refine obA ?_)))
      (try (refine ⟨by kernel_rfl, ?_⟩))
      (iterate 2 ((try simp (etaStruct := .none) only [push_cast, DrawG, Int.cast_ofNat_Int, seval, getD_in _ _ _ hlt, getD_in _ _ _ hlt2, i64P, decide_not]); (try simp (disch := omega) only [wrap_in, wk_self, tdv, tmd]); (repeat with_reducible refine obA ?_)))
      refine cond_i (fun h3 => ?_) (fun h3 => ?_)
      · (try simp only [xa, xb, xc, xd, xe, xf, xg, xh, xi, xj, Bool.not_true, Bool.not_false, xk, xl] at h3)
        have e : l ≠ m := by intro e; subst e; simp at h3
        (iterate 2 ((try simp (etaStruct := .none) only [push_cast, DrawG, Int.cast_ofNat_Int, seval, getD_in _ _ _ hlt, getD_in _ _ _ hlt2, i64P, decide_not]); (try simp (disch := omega) only [wrap_in, wk_self, tdv, tmd]); (repeat with_reducible refine obA ?_)))
        exact ret0 rfl trivial (Wk.of (by rw [decide_eq_false e]; rfl))
      · (try simp only [xa, xb, xc, xd, xe, xf, xg, xh, xi, xj, Bool.not_true, Bool.not_false, xk, xl] at h3)
        (iterate 2 ((try simp (etaStruct := .none) only [push_cast, DrawG, Int.cast_ofNat_Int, seval, getD_in _ _ _ hlt, getD_in _ _ _ hlt2, i64P, decide_not]); (try simp (disch := omega) only [wrap_in, wk_self, tdv, tmd]); (repeat with_reducible refine obA ?_)))
        refine ⟨k + 1, ⟨by omega, fun j hj => by rcases Nat.lt_or_ge j k with h | h; exact hn j h; rw [show j = k by omega]; simpa using h3⟩, by omega, To.mk [] rfl rfl List.nodup_nil trivial ?_⟩
        · (iterate 2 ((try simp (etaStruct := .none) only [push_cast, DrawG, Int.cast_ofNat_Int, seval, getD_in _ _ _ hlt, getD_in _ _ _ hlt2, i64P, decide_not]); (try simp (disch := omega) only [wrap_in, wk_self, tdv, tmd]); (repeat with_reducible refine obA ?_)))
    · (try simp only [xa, xb, xc, xd, xe, xf, xg, xh, xi, xj, Bool.not_true, Bool.not_false, xk, xl] at h2)
      have e : l = m := by
        refine List.ext_getElem (by omega) fun i i1 i2 => ?_
        have := hn i (by omega)
        rwa [getD_at _ _ i1, getD_at _ _ i2] at this
      (try simp (etaStruct := .none) only [push_cast, DrawG, Int.cast_ofNat_Int, seval]); (try simp (disch := omega) only [wrap_in, wk_self, tdv, tmd]); (repeat with_reducible refine obA ?_)
      exact ret0 rfl trivial (Wk.of (by rw [decide_eq_true e]; rfl))
end Go.Proofs.YthiddmncjafklaaGreat
namespace Go.Proofs.YthiddmncjafklaaGreat
set_option linter.all false
open Go.RowKit
set_option maxRecDepth 100000
set_option maxHeartbeats 1000000
def groundV (f : Fld) (c : Cel) : Bool := inF f c && !decide (placeV f c = 1)
theorem ground_s (f : Fld) (c : Cel) (h : fldE f = 0) : Spec Tryz.prog 49 [fldA f, celA c] [] (B (groundV f c)) [] := by
  have hk := fldE_ok h
  refine spec_am Tryz.func49 rfl rfl mix 14 rfl [.tmp 4] Tryz.results49 (Nat.le_of_ble_eq_true rfl) ?_
  (try simp (etaStruct := .none) only [push_cast, DrawG, Int.cast_ofNat_Int, seval]); (try simp (disch := omega) only [wrap_in, wk_self, tdv, tmd]); (repeat with_reducible refine obA ?_)
  refine callP (in_s f c (by omega) (by omega)) (WkL.refl _) ?_
  (try simp (etaStruct := .none) only [push_cast, DrawG, Int.cast_ofNat_Int, seval]); (try simp (disch := omega) only [wrap_in, wk_self, tdv, tmd]); (repeat with_reducible refine obA ?_)
  refine gcallP (fun hcc => place_s f c h hcc) (WkL.refl _) (by intro hc; (try simp (etaStruct := .none) only [push_cast, DrawG, Int.cast_ofNat_Int, seval]); (try simp_all)) ?_
  (try simp (etaStruct := .none) only [push_cast, DrawG, Int.cast_ofNat_Int, seval]); (try simp (disch := omega) only [wrap_in, wk_self, tdv, tmd]); (repeat with_reducible refine obA ?_)
  (first | (refine retA rfl (Wk.of ?_); (try simp (etaStruct := .none) only [push_cast, DrawG, Int.cast_ofNat_Int, seval]); first | done | (simp [groundV, *]; done) | (simp_all [groundV]; done)) | (refine retA rfl ?_; (try simp (etaStruct := .none) only [push_cast, DrawG, Int.cast_ofNat_Int, seval]); (try simp [groundV, *]); (try exact wkc)))
structure Knd where
  life : Int
  blow : Int
  load : Int
  price : Int
  deriving DecidableEq, Inhabited
def kindV (k : Int) : Knd := if k = 1 then ⟨10, 1, 1, 5⟩ else if k = 2 then ⟨20, 2, 4, 12⟩ else ⟨0, 0, 0, 0⟩
abbrev kndA (k : Knd) : AV := .agg [I .i64 k.life, I .i64 k.blow, I .i64 k.load, I .i64 k.price]
theorem kindOf_s (k : Int) (h : k = 1 ∨ k = 2) : Spec Tryz.prog 50 [I .i64 k] [] (kndA (kindV k)) [] := by
  rcases h with rfl | rfl
  · have e : kindV 1 = ⟨10, 1, 1, 5⟩ := rfl
    rw [e]
    refine spec_am Tryz.func50 rfl rfl mix 10 rfl [.cell 2 105] Tryz.results50 (Nat.le_of_ble_eq_true rfl) ?_
    (try simp (etaStruct := .none) only [push_cast, DrawG, Int.cast_ofNat_Int, seval]); (try simp (disch := omega) only [wrap_in, wk_self, tdv, tmd]); (repeat with_reducible refine obA ?_)
    (first | (refine retA rfl (Wk.of ?_); (try simp (etaStruct := .none) only [push_cast, DrawG, Int.cast_ofNat_Int, seval]); first | done | (simp [*]; done) | (simp_all []; done)) | (refine retA rfl ?_; (try simp (etaStruct := .none) only [push_cast, DrawG, Int.cast_ofNat_Int, seval]); (try simp [*]); (try exact wkc)))
  · have e : kindV 2 = ⟨20, 2, 4, 12⟩ := rfl
    rw [e]
    refine spec_am Tryz.func50 rfl rfl mix 10 rfl [.cell 2 105] Tryz.results50 (Nat.le_of_ble_eq_true rfl) ?_
    (try simp (etaStruct := .none) only [push_cast, DrawG, Int.cast_ofNat_Int, seval]); (try simp (disch := omega) only [wrap_in, wk_self, tdv, tmd]); (repeat with_reducible refine obA ?_)
    (first | (refine retA rfl (Wk.of ?_); (try simp (etaStruct := .none) only [push_cast, DrawG, Int.cast_ofNat_Int, seval]); first | done | (simp [*]; done) | (simp_all []; done)) | (refine retA rfl ?_; (try simp (etaStruct := .none) only [push_cast, DrawG, Int.cast_ofNat_Int, seval]); (try simp [*]); (try exact wkc)))
def allN (p : Nat → Bool) : Nat → Bool
  | 0 => true
  | k + 1 => allN p k && p k
theorem allN_iff (p : Nat → Bool) : ∀ n, allN p n = true ↔ ∀ i, i < n → p i = true
  | 0 => by simp [allN]
  | n + 1 => by
    rw [allN, Bool.and_eq_true, allN_iff p n]
    constructor
    · rintro ⟨a, b⟩ i hi
      rcases Nat.lt_or_ge i n with h | h
      · exact a i h
      · obtain rfl : i = n := by omega
        exact b
    · intro h
      exact ⟨fun i hi => h i (by omega), h n (by omega)⟩
def baseB (w : Wld) (i : Nat) : Bool := groundV w.f (w.bases.getD i default) && within (w.stocks.getD i default) 0 1000000 && allN (fun j => !decide (w.bases.getD j default = w.bases.getD i default)) i
def mineB (w : Wld) (i : Nat) : Bool := within (w.mines.getD i default) 0 1000000 && (decide (w.mines.getD i default = 0) || decide (w.f.p.getD i default = 3))
def trp1 (w : Wld) (t : Trp) : Bool := within t.id 1 (w.next - 1) && within t.owner 0 ((w.bases.length : Int) - 1) && groundV w.f t.c && within t.life 1 (kindV t.kind).life && within t.load 0 (5 * (2 - t.kind))
def trp2 (w : Wld) (i : Nat) : Bool := allN (fun j => decide ((w.troops.getD j default).id < (w.troops.getD i default).id) && !decide ((w.troops.getD j default).c = (w.troops.getD i default).c)) i
def troopB (w : Wld) (i : Nat) : Bool := within (w.troops.getD i default).kind 1 2 && (trp1 w (w.troops.getD i default) && trp2 w i)
def worldB (w : Wld) : Bool := allN (baseB w) w.bases.length && allN (mineB w) w.mines.length && allN (troopB w) w.troops.length
def worldF (w : Wld) : Bool := decide (w.stocks.length = w.bases.length) && decide (w.mines.length = w.f.p.length) && within w.next 1 1000000 && within w.now 0 1000000
def worldE (w : Wld) : Int := if fldE w.f ≠ 0 then fldE w.f else if 8 < w.bases.length ∨ 100 < w.troops.length then 2 else if worldF w && worldB w then 0 else 4
end Go.Proofs.YthiddmncjafklaaGreat
namespace Go.Proofs.YthiddmncjafklaaGreat
set_option linter.all false
open Go.RowKit
def nearB (c : Cel) : Bool := decide (-1000 ≤ c.x ∧ c.x ≤ 1000 ∧ -1000 ≤ c.y ∧ c.y ≤ 1000)
def lq (n m k : Nat) : Nat := (2 * k * m + n) / (2 * n)
def lr (n m k : Nat) : Nat := (2 * k * m + n) % (2 * n)
theorem lq_step (n m k : Nat) (hn : 0 < n) (hm : m ≤ n) : (2 * n ≤ lr n m k + 2 * m → lq n m (k + 1) = lq n m k + 1 ∧ lr n m (k + 1) = lr n m k + 2 * m - 2 * n) ∧ (lr n m k + 2 * m < 2 * n → lq n m (k + 1) = lq n m k ∧ lr n m (k + 1) = lr n m k + 2 * m) := by
  have e : 2 * (k + 1) * m + n = (2 * k * m + n) + 2 * m := by rw [Nat.mul_add, Nat.add_mul]; omega
  have hd := Nat.div_add_mod (2 * k * m + n) (2 * n)
  have hlt : (2 * k * m + n) % (2 * n) < 2 * n := Nat.mod_lt _ (by omega)
  unfold lq lr
  rw [e]
  constructor
  · intro h
    have e2 : 2 * k * m + n + 2 * m = ((2 * k * m + n) % (2 * n) + 2 * m - 2 * n) + 2 * n * ((2 * k * m + n) / (2 * n) + 1) := by rw [Nat.mul_add]; omega
    rw [e2, Nat.add_mul_div_left _ _ (by omega), Nat.add_mul_mod_self_left, Nat.div_eq_of_lt (by omega), Nat.mod_eq_of_lt (by omega)]
    omega
  · intro h
    have e2 : 2 * k * m + n + 2 * m = ((2 * k * m + n) % (2 * n) + 2 * m) + 2 * n * ((2 * k * m + n) / (2 * n)) := by omega
    rw [e2, Nat.add_mul_div_left _ _ (by omega), Nat.add_mul_mod_self_left, Nat.div_eq_of_lt (by omega), Nat.mod_eq_of_lt (by omega)]
    omega
theorem lq_zero (n m : Nat) : lq n m 0 = 0 := by
  unfold lq
  rcases Nat.eq_zero_or_pos n with rfl | h
  · simp
  · rw [Nat.mul_zero, Nat.zero_mul, Nat.zero_add]; exact Nat.div_eq_of_lt (by omega)
theorem lr_zero (n m : Nat) : lr n m 0 = n := by
  unfold lr
  rcases Nat.eq_zero_or_pos n with rfl | h
  · simp
  · rw [Nat.mul_zero, Nat.zero_mul, Nat.zero_add]; exact Nat.mod_eq_of_lt (by omega)
theorem lr_lt (n m k : Nat) (h : 0 < n) : lr n m k < 2 * n := Nat.mod_lt _ (by omega)
theorem lq_le (n m k : Nat) (hn : 0 < n) (hk : k ≤ n) : lq n m k ≤ m := by
  unfold lq
  have : 2 * k * m ≤ 2 * n * m := Nat.mul_le_mul_right _ (by omega)
  have : (2 * k * m + n) / (2 * n) < m + 1 := (Nat.div_lt_iff_lt_mul (by omega)).2 (by rw [Nat.add_mul, Nat.mul_comm m]; omega)
  omega
def lpt (a : Cel) (sx sy : Int) (X Y k : Nat) : Cel := if Y ≤ X then ⟨a.x + sx * k, a.y + sy * lq X Y k⟩ else ⟨a.x + sx * lq Y X k, a.y + sy * k⟩
def lpts (a : Cel) (sx sy : Int) (X Y n : Nat) : List Cel := (List.range (n + 1)).map (lpt a sx sy X Y)
theorem nearB_true {c : Cel} (h : nearB c = true) : -1000 ≤ c.x ∧ c.x ≤ 1000 ∧ -1000 ≤ c.y ∧ c.y ≤ 1000 := by simpa [nearB] using h
theorem lpts_snoc (a : Cel) (sx sy : Int) (X Y n : Nat) : lpts a sx sy X Y (n + 1) = lpts a sx sy X Y n ++ [lpt a sx sy X Y (n + 1)] := by simp [lpts, List.range_succ]
theorem lpts_len (a : Cel) (sx sy : Int) (X Y n : Nat) : (lpts a sx sy X Y n).length = n + 1 := by simp [lpts]
theorem lpt_zero (a : Cel) (sx sy : Int) (X Y : Nat) : lpt a sx sy X Y 0 = a := by simp [lpt, lq_zero]
theorem lpt_near (a : Cel) (sx sy : Int) (X Y k : Nat) (h1 : sx = -1 ∨ sx = 0 ∨ sx = 1) (h2 : sy = -1 ∨ sy = 0 ∨ sy = 1) (hX : X ≤ 2000) (hY : Y ≤ 2000) (hk : k ≤ max X Y) (ha : nearB a = true) :
    -3000 ≤ (lpt a sx sy X Y k).x ∧ (lpt a sx sy X Y k).x ≤ 3000 ∧ -3000 ≤ (lpt a sx sy X Y k).y ∧ (lpt a sx sy X Y k).y ≤ 3000 := by
  have hn := nearB_true ha
  have key : ∀ (s : Int) (q : Nat), (s = -1 ∨ s = 0 ∨ s = 1) → q ≤ 2000 → -2000 ≤ s * q ∧ s * q ≤ 2000 := by
    intro s q hs hq
    rcases hs with rfl | rfl | rfl <;> omega
  unfold lpt
  split
  · have hq : lq X Y k ≤ 2000 := by
      rcases Nat.eq_zero_or_pos X with rfl | h
      · obtain rfl : k = 0 := by omega
        rw [lq_zero]; omega
      · have := lq_le X Y k h (by omega); omega
    have a1 := key sx k h1 (by omega)
    have a2 := key sy _ h2 hq
    simp only; omega
  · have hq : lq Y X k ≤ 2000 := by have := lq_le Y X k (by omega) (by omega); omega
    have a1 := key sx _ h1 hq
    have a2 := key sy k h2 (by omega)
    simp only; omega
theorem lpt_stepX (a : Cel) (sx sy : Int) (X Y k : Nat) (h : Y ≤ X) (h0 : 0 < X) : lpt a sx sy X Y (k + 1) = ⟨(lpt a sx sy X Y k).x + sx, if 2 * X ≤ lr X Y k + 2 * Y then (lpt a sx sy X Y k).y + sy else (lpt a sx sy X Y k).y⟩ := by
  simp only [lpt, if_pos h]
  have hs := lq_step X Y k h0 h
  have e1 : a.x + sx * ((k + 1 : Nat) : Int) = a.x + sx * k + sx := by rw [Int.natCast_add, Int.mul_add]; omega
  rw [e1]
  by_cases hc : 2 * X ≤ lr X Y k + 2 * Y
  · rw [if_pos hc, (hs.1 hc).1, Int.natCast_add, Int.mul_add]; congr 1; omega
  · rw [if_neg hc, (hs.2 (by omega)).1]
theorem lpt_stepY (a : Cel) (sx sy : Int) (X Y k : Nat) (h : X < Y) : lpt a sx sy X Y (k + 1) = ⟨if 2 * Y ≤ lr Y X k + 2 * X then (lpt a sx sy X Y k).x + sx else (lpt a sx sy X Y k).x, (lpt a sx sy X Y k).y + sy⟩ := by
  simp only [lpt, if_neg (show ¬ Y ≤ X by omega)]
  have hs := lq_step Y X k (by omega) (by omega)
  have e1 : a.y + sy * ((k + 1 : Nat) : Int) = a.y + sy * k + sy := by rw [Int.natCast_add, Int.mul_add]; omega
  rw [e1]
  by_cases hc : 2 * Y ≤ lr Y X k + 2 * X
  · rw [if_pos hc, (hs.1 hc).1, Int.natCast_add, Int.mul_add]; congr 1; omega
  · rw [if_neg hc, (hs.2 (by omega)).1]
theorem mul_bound (n : Nat) (y : Int) (N Y : Nat) (hn : n ≤ N) (hy : -(Y : Int) ≤ y ∧ y ≤ Y) : -((N * Y : Nat) : Int) ≤ (n : Int) * y ∧ (n : Int) * y ≤ ((N * Y : Nat) : Int) := by
  have h1 : (n : Int) * y ≤ (n : Int) * Y := Int.mul_le_mul_of_nonneg_left hy.2 (by omega)
  have h2 : (n : Int) * (-(Y : Int)) ≤ (n : Int) * y := Int.mul_le_mul_of_nonneg_left hy.1 (by omega)
  have h3 : (n : Int) * Y ≤ ((N * Y : Nat) : Int) := by rw [Int.natCast_mul]; exact Int.mul_le_mul_of_nonneg_right (by omega) (by omega)
  rw [Int.mul_neg] at h2
  omega
def Beats (n T t z1 z2 : Int) : Prop := (n * z1 - T).natAbs < (n * z2 - T).natAbs ∨ ((n * z1 - T).natAbs = (n * z2 - T).natAbs ∧ (z1 - t).natAbs < (z2 - t).natAbs)
theorem best_beats (n m k : Nat) (f t s : Int) (hn : 0 < n) (_ : m ≤ n) (hk : k ≤ n) (hs : s = 1 ∨ s = -1) (ht : t = f + s * m) (z : Int) (_ : min f t ≤ z ∧ z ≤ max f t) (hne : z ≠ f + s * lq n m k) :
    Beats n (n * f + k * (t - f)) t (f + s * lq n m k) z := by
  have hq := lq_le n m k hn hk
  have hd := Nat.div_add_mod (2 * k * m + n) (2 * n)
  have hlt : (2 * k * m + n) % (2 * n) < 2 * n := Nat.mod_lt _ (by omega)
  have hq2 : lq n m k = (2 * k * m + n) / (2 * n) := rfl
  rw [← hq2] at hd
  generalize (2 * k * m + n) % (2 * n) = r at hd hlt
  generalize lq n m k = q at *
  have hd2 : 2 * ((n : Int) * q) + r = 2 * ((k : Int) * m) + n := by
    have : ((2 * n * q + r : Nat) : Int) = ((2 * k * m + n : Nat) : Int) := by rw [hd]
    simp only [Int.natCast_add, Int.natCast_mul] at this
    rw [Int.mul_assoc, Int.mul_assoc] at this
    exact this
  obtain ⟨e, he⟩ : ∃ e : Int, z = f + s * q + e := ⟨z - (f + s * q), by omega⟩
  have he0 : e ≠ 0 := by intro h; apply hne; rw [he, h]; omega
  have hE : (1 ≤ e → (n : Int) ≤ n * e) ∧ (e ≤ -1 → (n : Int) * e ≤ -n) := by
    constructor
    · intro h
      have := Int.mul_le_mul_of_nonneg_left (c := (n : Int)) h (by omega)
      omega
    · intro h
      have := Int.mul_le_mul_of_nonneg_left (c := (n : Int)) h (by omega)
      rw [Int.mul_neg] at this
      omega
  have e1 : (n : Int) * z = n * f + n * (s * q) + n * e := by rw [he, Int.mul_add, Int.mul_add]
  have e2 : (n : Int) * (f + s * q) = n * f + n * (s * q) := by rw [Int.mul_add]
  unfold Beats
  rw [e1, e2]
  rcases hs with rfl | rfl
  · simp only [Int.one_mul] at *
    have e3 : (k : Int) * (t - f) = k * m := by rw [ht]; congr 1; omega
    rw [e3]
    generalize (n : Int) * q = A at *
    generalize (k : Int) * m = B at *
    generalize (n : Int) * e = E at *
    generalize (n : Int) * f = F at *
    omega
  · have e4 : (n : Int) * (-1 * (q : Int)) = -(n * q) := by rw [Int.neg_one_mul, Int.mul_neg]
    have e3 : (k : Int) * (t - f) = -(k * m) := by rw [ht, ← Int.mul_neg]; congr 1; omega
    rw [e3, e4]
    generalize (n : Int) * q = A at *
    generalize (k : Int) * m = B at *
    generalize (n : Int) * e = E at *
    generalize (n : Int) * f = F at *
    omega
theorem aside_step (n T t Q f b y : Int) (A B C D : Nat) (hA : A = (n * y - T).natAbs) (hB : B = (n * b - T).natAbs) (hC : C = (y - t).natAbs) (hD : D = (b - t).natAbs) (HI : Q < y ∨ Q = f → b = Q) (HBy : y ≠ Q → Beats n T t Q y) (HBb : b ≠ Q → Beats n T t Q b) :
    ((A < B ∨ (A = B ∧ C < D)) → (Q < y + 1 ∨ Q = f → y = Q)) ∧ (¬ (A < B ∨ (A = B ∧ C < D)) → (Q < y + 1 ∨ Q = f → b = Q)) := by
  constructor
  · intro h1 h2
    refine Classical.byContradiction fun hne => ?_
    obtain rfl : b = Q := HI (by omega)
    have := HBy hne
    unfold Beats at this
    omega
  · intro h1 h2
    by_cases hq : Q < y ∨ Q = f
    · exact HI hq
    · refine Classical.byContradiction fun hne => ?_
      obtain rfl : Q = y := by omega
      have := HBb hne
      unfold Beats at this
      omega
theorem tdiv_step (k X : Nat) (d s : Int) (hs : d.sign = s) (hn : d.natAbs = X) (hX : X ≠ 0) : ((k : Int) * d).tdiv X = s * k := by
  have e : d = s * X := by rw [← hs, ← hn]; exact (Int.sign_mul_natAbs d).symm
  rw [e, ← Int.mul_assoc, Int.mul_tdiv_cancel _ (by omega), Int.mul_comm]
theorem aside_sign (n m k : Nat) (f t s : Int) (hs : (t - f).sign = s) (hm : (t - f).natAbs = m) : ∃ s', (s' = 1 ∨ s' = -1) ∧ t = f + s' * m ∧ s' * lq n m k = s * lq n m k := by
  rcases Int.lt_trichotomy (t - f) 0 with h | h | h
  · rw [Int.sign_eq_neg_one_of_neg h] at hs; subst hs; exact ⟨-1, .inr rfl, by omega, rfl⟩
  · have h0 : m = 0 := by omega
    subst h0
    have hq : lq n 0 k = 0 := by
      unfold lq
      rcases Nat.eq_zero_or_pos n with rfl | hn
      · simp
      · rw [Nat.mul_zero, Nat.zero_add]; exact Nat.div_eq_of_lt (by omega)
    exact ⟨1, .inl rfl, by omega, by rw [hq]; simp⟩
  · rw [Int.sign_eq_one_of_pos h] at hs; subst hs; exact ⟨1, .inl rfl, by omega, rfl⟩
end Go.Proofs.YthiddmncjafklaaGreat
namespace Go.Proofs.YthiddmncjafklaaGreat
set_option linter.all false
open Go.RowKit
set_option maxRecDepth 100000
set_option maxHeartbeats 2000000
theorem near_s (c : Cel) (hx : In64 c.x) (hy : In64 c.y) : Spec Tryz.prog 158 [celA c] [] (B (nearB c)) [] := by
  refine spec_am Tryz.func158 rfl rfl mix 23 rfl [.tmp 2] Tryz.results158 (Nat.le_of_ble_eq_true rfl) ?_
  (try simp (etaStruct := .none) only [push_cast, DrawG, Int.cast_ofNat_Int, seval]); (try simp (disch := omega) only [wrap_in, wk_self, tdv, tmd]); (repeat with_reducible refine obA ?_)
  refine ret0 rfl trivial (Wk.of ?_)
  simp (etaStruct := .none) only [push_cast, DrawG, Int.cast_ofNat_Int, seval]
  simp only [I, B, AV.c.injEq, PV.v.injEq, Value.bool.injEq, nearB, IntKind.wrap_i64]
  rw [Bool.eq_iff_iff]
  simp only [Bool.and_eq_true, decide_eq_true_eq]
  repeat' split
  all_goals omega
theorem sign_s (n : Int) (hn : In64 n) (h : n ≠ -9223372036854775808) : Spec Tryz.prog 159 [I .i64 n] [] (.tup [I .i64 n.sign, I .i64 n.natAbs]) [] := by
  refine spec_am Tryz.func159 rfl rfl mix 13 rfl [.tmp 2, .tmp 3] Tryz.results159 (Nat.le_of_ble_eq_true rfl) ?_
  (try simp (etaStruct := .none) only [push_cast, DrawG, Int.cast_ofNat_Int, seval]); (try simp (disch := omega) only [wrap_in, wk_self, tdv, tmd]); (repeat with_reducible refine obA ?_)
  refine cond_i (fun h1 => ?_) (fun h1 => ?_)
  · (try simp only [xa, xb, xc, xd, xe, xf, xg, xh, xi, xj, Bool.not_true, Bool.not_false, xk, xl] at h1)
    have e1 : n.sign = -1 := Int.sign_eq_neg_one_of_neg h1
    have e2 : (n.natAbs : Int) = -n := by omega
    (iterate 2 ((try simp (etaStruct := .none) only [push_cast, DrawG, Int.cast_ofNat_Int, seval, e1, e2]); (try simp (disch := omega) only [wrap_in, wk_self, tdv, tmd]); (repeat with_reducible refine obA ?_)))
    (first | (refine retA rfl (Wk.of ?_); (try simp (etaStruct := .none) only [push_cast, DrawG, Int.cast_ofNat_Int, seval]); first | done | (simp [*]; done) | (simp_all []; done)) | (refine retA rfl ?_; (try simp (etaStruct := .none) only [push_cast, DrawG, Int.cast_ofNat_Int, seval]); (try simp [*]); (try exact wkc)))
  · (try simp only [xa, xb, xc, xd, xe, xf, xg, xh, xi, xj, Bool.not_true, Bool.not_false, xk, xl] at h1)
    (try simp (etaStruct := .none) only [push_cast, DrawG, Int.cast_ofNat_Int, seval]); (try simp (disch := omega) only [wrap_in, wk_self, tdv, tmd]); (repeat with_reducible refine obA ?_)
    refine cond_i (fun h2 => ?_) (fun h2 => ?_)
    · (try simp only [xa, xb, xc, xd, xe, xf, xg, xh, xi, xj, Bool.not_true, Bool.not_false, xk, xl] at h2)
      have e1 : n.sign = 1 := Int.sign_eq_one_of_pos h2
      have e2 : (n.natAbs : Int) = n := by omega
      (try simp (etaStruct := .none) only [push_cast, DrawG, Int.cast_ofNat_Int, seval]); (try simp (disch := omega) only [wrap_in, wk_self, tdv, tmd]); (repeat with_reducible refine obA ?_)
      (first | (refine retA rfl (Wk.of ?_); (try simp (etaStruct := .none) only [push_cast, DrawG, Int.cast_ofNat_Int, seval]); first | done | (simp [*]; done) | (simp_all []; done)) | (refine retA rfl ?_; (try simp (etaStruct := .none) only [push_cast, DrawG, Int.cast_ofNat_Int, seval]); (try simp [*]); (try exact wkc)))
    · (try simp only [xa, xb, xc, xd, xe, xf, xg, xh, xi, xj, Bool.not_true, Bool.not_false, xk, xl] at h2)
      obtain rfl : n = 0 := by omega
      (try simp (etaStruct := .none) only [push_cast, DrawG, Int.cast_ofNat_Int, seval]); (try simp (disch := omega) only [wrap_in, wk_self, tdv, tmd]); (repeat with_reducible refine obA ?_)
      (first | (refine retA rfl (Wk.of ?_); (try simp (etaStruct := .none) only [push_cast, DrawG, Int.cast_ofNat_Int, seval]); first | done | (simp [*]; done) | (simp_all []; done)) | (refine retA rfl ?_; (try simp (etaStruct := .none) only [push_cast, DrawG, Int.cast_ofNat_Int, seval]); (try simp [*]); (try exact wkc)))
theorem cellNear_s (c : Cel) : Spec Tryz.prog 95 [celA c] [] (B (nearB c)) [] := by
  refine spec_am Tryz.func95 rfl rfl mix 11 rfl [.tmp 2] Tryz.results95 (Nat.le_of_ble_eq_true rfl) ?_
  (try simp (etaStruct := .none) only [push_cast, DrawG, Int.cast_ofNat_Int, seval]); (try simp (disch := omega) only [wrap_in, wk_self, tdv, tmd]); (repeat with_reducible refine obA ?_)
  refine callP (between_s c.x (-1000) 1000) (WkL.refl _) ?_
  (try simp (etaStruct := .none) only [push_cast, DrawG, Int.cast_ofNat_Int, seval]); (try simp (disch := omega) only [wrap_in, wk_self, tdv, tmd]); (repeat with_reducible refine obA ?_)
  refine gcallP (fun hcc => between_s c.y (-1000) 1000) (WkL.refl _) (by intro hc; (try simp (etaStruct := .none) only [push_cast, DrawG, Int.cast_ofNat_Int, seval]); (try simp_all)) ?_
  (try simp (etaStruct := .none) only [push_cast, DrawG, Int.cast_ofNat_Int, seval]); (try simp (disch := omega) only [wrap_in, wk_self, tdv, tmd]); (repeat with_reducible refine obA ?_)
  exact ret0 rfl trivial (Wk.of (congrArg B (by unfold nearB within; rw [Bool.eq_iff_iff]; simp; omega)))
theorem far_s (a b : Int) (ha : -4000000000000000000 ≤ a ∧ a ≤ 4000000000000000000) (hb : -4000000000000000000 ≤ b ∧ b ≤ 4000000000000000000) : Spec Tryz.prog 142 [I .i64 a, I .i64 b] [] (I .i64 (a - b).natAbs) [] := by
  refine spec_am Tryz.func142 rfl rfl mix 12 rfl [.tmp 4] Tryz.results142 (Nat.le_of_ble_eq_true rfl) ?_
  (try simp (etaStruct := .none) only [push_cast, DrawG, Int.cast_ofNat_Int, seval]); (try simp (disch := omega) only [wrap_in, wk_self, tdv, tmd]); (repeat with_reducible refine obA ?_)
  refine ret0 rfl trivial (Wk.of ?_)
  simp (etaStruct := .none) only [push_cast, DrawG, Int.cast_ofNat_Int, seval]
  simp only [I, AV.c.injEq, PV.v.injEq, Value.int.injEq, true_and]
  split <;> omega
theorem sg (d : Int) : d.sign = -1 ∨ d.sign = 0 ∨ d.sign = 1 := by
  rcases Int.lt_trichotomy d 0 with h | h | h
  · rw [Int.sign_eq_neg_one_of_neg h]; omega
  · rw [h]; simp
  · rw [Int.sign_eq_one_of_pos h]; omega
def lineV (a b : Cel) : List Cel := lpts a (b.x - a.x).sign (b.y - a.y).sign (b.x - a.x).natAbs (b.y - a.y).natAbs (max (b.x - a.x).natAbs (b.y - a.y).natAbs)
theorem aside_s (n m k : Nat) (f t s : Int) (hn : 0 < n) (hm : m ≤ n) (hk : k ≤ n) (hn2 : n ≤ 120) (hs : s = 1 ∨ s = -1) (ht : t = f + s * m) (hf : -1000 ≤ f ∧ f ≤ 1000) (htn : -1000 ≤ t ∧ t ≤ 1000) :
    Spec Tryz.prog 183 [I .i64 k, I .i64 n, I .i64 f, I .i64 t] [] (I .i64 (f + s * lq n m k)) [] := by
  have HB := fun z hz hne => best_beats n m k f t s hn hm hk hs ht z hz hne
  obtain ⟨Q, hQ⟩ : ∃ Q, Q = f + s * lq n m k := ⟨_, rfl⟩
  obtain ⟨T, hT⟩ : ∃ T : Int, T = n * f + k * (t - f) := ⟨_, rfl⟩
  rw [← hQ, ← hT] at HB
  rw [← hQ]
  have HQ : min f t ≤ Q ∧ Q ≤ max f t := by
    have hq := lq_le n m k hn hk
    rw [hQ, ht]
    generalize lq n m k = q at *
    rcases hs with rfl | rfl <;> omega
  have hb1 := mul_bound n f 120 1000 hn2 (by omega)
  have hb2 := mul_bound k (t - f) 120 2000 (by omega) (by omega)
  clear hs ht hQ
  have E1 : (if f > t then t else f) = min f t := by simp only [Int.min_def]; split <;> split <;> omega
  have E2 : (if t > f then t else f) = max f t := by simp only [Int.max_def]; split <;> split <;> omega
  have E3 : (if t < f then t else f) = min f t := by simp only [Int.min_def]; split <;> split <;> omega
  refine spec_am Tryz.func183 rfl rfl mix 69 rfl [.tmp 8] Tryz.results183 (Nat.le_of_ble_eq_true rfl) ?_
  (iterate 2 ((try simp (etaStruct := .none) only [push_cast, DrawG, Int.cast_ofNat_Int, seval, E1, E2, E3]); (try simp (disch := omega) only [wrap_in, wk_self, tdv, tmd]); (repeat with_reducible refine obA ?_)))
  refine loopI (fun p : Int × Int => ⟨[(10, I .i64 p.1), (9, I .i64 p.2), (3, I .i64 t), (2, I .i64 f), (1, I .i64 n), (0, I .i64 k)], [], 0⟩) (fun p : Int × Int => (min f t ≤ p.1 ∧ p.1 ≤ max f t + 1) ∧ (min f t ≤ p.2 ∧ p.2 ≤ max f t) ∧ (Q < p.1 ∨ Q = f → p.2 = Q)) (fun p : Int × Int => (max f t + 1 - p.1).toNat) ((min f t, f)) (⟨⟨by simp only; omega, by simp only; omega⟩, ⟨by simp only; omega, by simp only; omega⟩, fun h => by simp only at h ⊢; omega⟩) (To.mk [] rfl rfl List.nodup_nil trivial ?_) ?_
  · simp (etaStruct := .none) only [push_cast, DrawG, Int.cast_ofNat_Int, seval]
  rintro ⟨y, b⟩ ⟨hy, hb, HI⟩
  simp only at hy hb HI
  (iterate 2 ((try simp (etaStruct := .none) only [push_cast, DrawG, Int.cast_ofNat_Int, seval, E1, E2, E3]); (try simp (disch := omega) only [wrap_in, wk_self, tdv, tmd]); (repeat with_reducible refine obA ?_)))
  refine cond_i (fun h1 => ?_) (fun h1 => ?_)
  · (try simp only [xa, xb, xc, xd, xe, xf, xg, xh, xi, xj, Bool.not_true, Bool.not_false, xk, xl] at h1)
    have hb3 := mul_bound n y 120 1000 hn2 (by omega)
    have hb4 := mul_bound n b 120 1000 hn2 (by omega)
    (iterate 2 ((try simp (etaStruct := .none) only [push_cast, DrawG, Int.cast_ofNat_Int, seval, E1, E2, E3]); (try simp (disch := omega) only [wrap_in, wk_self, tdv, tmd]); (repeat with_reducible refine obA ?_)))
    have st := aside_step n T t Q f b y _ _ _ _ rfl rfl rfl rfl HI (fun h => HB y (by omega) h) (fun h => HB b (by omega) h)
    rw [hT] at st
    refine callP (far_s (n * y) (n * f + k * (t - f)) (by omega) (by omega)) (WkL.refl _) ?_
    (iterate 2 ((try simp (etaStruct := .none) only [push_cast, DrawG, Int.cast_ofNat_Int, seval, E1, E2, E3]); (try simp (disch := omega) only [wrap_in, wk_self, tdv, tmd]); (repeat with_reducible refine obA ?_)))
    refine callP (far_s (n * b) (n * f + k * (t - f)) (by omega) (by omega)) (WkL.refl _) ?_
    (iterate 2 ((try simp (etaStruct := .none) only [push_cast, DrawG, Int.cast_ofNat_Int, seval, E1, E2, E3]); (try simp (disch := omega) only [wrap_in, wk_self, tdv, tmd]); (repeat with_reducible refine obA ?_)))
    refine gcallP (fun hcc => far_s y t (by omega) (by omega)) (WkL.refl _) (by intro hc; (try simp (etaStruct := .none) only [push_cast, DrawG, Int.cast_ofNat_Int, seval]); (try simp_all)) ?_
    (iterate 2 ((try simp (etaStruct := .none) only [push_cast, DrawG, Int.cast_ofNat_Int, seval, E1, E2, E3]); (try simp (disch := omega) only [wrap_in, wk_self, tdv, tmd]); (repeat with_reducible refine obA ?_)))
    refine gcallP (fun hcc => far_s b t (by omega) (by omega)) (WkL.refl _) (by intro hc; (try simp (etaStruct := .none) only [push_cast, DrawG, Int.cast_ofNat_Int, seval]); (try simp_all)) ?_
    (iterate 2 ((try simp (etaStruct := .none) only [push_cast, DrawG, Int.cast_ofNat_Int, seval, E1, E2, E3]); (try simp (disch := omega) only [wrap_in, wk_self, tdv, tmd]); (repeat with_reducible refine obA ?_)))
    refine cond_i (fun h2 => ?_) (fun h2 => ?_)
    · (try simp only [xa, xb, xc, xd, xe, xf, xg, xh, xi, xj, Bool.not_true, Bool.not_false, xk, xl] at h2)
      (iterate 2 ((try simp (etaStruct := .none) only [push_cast, DrawG, Int.cast_ofNat_Int, seval, E1, E2, E3]); (try simp (disch := omega) only [wrap_in, wk_self, tdv, tmd]); (repeat with_reducible refine obA ?_)))
      refine ⟨(y + 1, y), ⟨⟨by simp only; omega, by simp only; omega⟩, ⟨by simp only; omega, by simp only; omega⟩, fun h => st.1 (by omega) h⟩, by simp only; omega, To.mk [] rfl rfl List.nodup_nil trivial ?_⟩
      · (iterate 2 ((try simp (etaStruct := .none) only [push_cast, DrawG, Int.cast_ofNat_Int, seval, E1, E2, E3]); (try simp (disch := omega) only [wrap_in, wk_self, tdv, tmd]); (repeat with_reducible refine obA ?_)))
    · (try simp only [xa, xb, xc, xd, xe, xf, xg, xh, xi, xj, Bool.not_true, Bool.not_false, xk, xl] at h2)
      (iterate 2 ((try simp (etaStruct := .none) only [push_cast, DrawG, Int.cast_ofNat_Int, seval, E1, E2, E3]); (try simp (disch := omega) only [wrap_in, wk_self, tdv, tmd]); (repeat with_reducible refine obA ?_)))
      refine ⟨(y + 1, b), ⟨⟨by simp only; omega, by simp only; omega⟩, ⟨by simp only; omega, by simp only; omega⟩, fun h => st.2 (by omega) h⟩, by simp only; omega, To.mk [] rfl rfl List.nodup_nil trivial ?_⟩
      · (iterate 2 ((try simp (etaStruct := .none) only [push_cast, DrawG, Int.cast_ofNat_Int, seval, E1, E2, E3]); (try simp (disch := omega) only [wrap_in, wk_self, tdv, tmd]); (repeat with_reducible refine obA ?_)))
  · (try simp only [xa, xb, xc, xd, xe, xf, xg, xh, xi, xj, Bool.not_true, Bool.not_false, xk, xl] at h1)
    (iterate 2 ((try simp (etaStruct := .none) only [push_cast, DrawG, Int.cast_ofNat_Int, seval, E1, E2, E3]); (try simp (disch := omega) only [wrap_in, wk_self, tdv, tmd]); (repeat with_reducible refine obA ?_)))
    exact ret0 rfl trivial (Wk.of (by rw [← HI (by omega)]; rfl))
end Go.Proofs.YthiddmncjafklaaGreat
namespace Go.Proofs.YthiddmncjafklaaGreat
set_option linter.all false
open Go.RowKit
set_option maxRecDepth 100000
set_option maxHeartbeats 2000000
def ordBad (o : Ord) : Bool := !within o.by_ 0 7 || !within o.kind 1 5 || !within o.who 0 1000000 || !nearB o.c || !within o.what 0 1000000
def ordForm (o : Ord) : Bool := decide (o.kind = 5 ∧ o.who ≠ 0) || decide (o.kind ≠ 2 ∧ o.kind ≠ 3 ∧ ¬ (o.c.x = 0 ∧ o.c.y = 0)) || decide (o.kind ≠ 1 ∧ o.kind ≠ 5 ∧ o.what ≠ 0)
def ordE (o : Ord) : Int := if ordBad o then 1 else if ordForm o then 4 else 0
theorem ordE_ok {o : Ord} (h : ordE o = 0) : (0 ≤ o.by_ ∧ o.by_ ≤ 7) ∧ (1 ≤ o.kind ∧ o.kind ≤ 5) ∧ (0 ≤ o.who ∧ o.who ≤ 1000000) ∧ (-1000 ≤ o.c.x ∧ o.c.x ≤ 1000 ∧ -1000 ≤ o.c.y ∧ o.c.y ≤ 1000) ∧ (0 ≤ o.what ∧ o.what ≤ 1000000) ∧
    (o.kind = 5 → o.who = 0) ∧ (o.kind ≠ 2 → o.kind ≠ 3 → o.c = ⟨0, 0⟩) ∧ (o.kind ≠ 1 → o.kind ≠ 5 → o.what = 0) := by
  unfold ordE at h
  split at h
  · simp at h
  · rename_i h1
    split at h
    · simp at h
    · rename_i h2
      simp only [ordBad, Bool.or_eq_true, Bool.not_eq_true', not_or, Bool.not_eq_false, within_iff, nearB, decide_eq_true_eq] at h1
      simp only [ordForm, Bool.or_eq_true, decide_eq_true_eq, not_or] at h2
      obtain ⟨⟨⟨⟨a1, a2⟩, a3⟩, a4⟩, a5⟩ := h1
      refine ⟨a1, a2, a3, a4, a5, fun h => by omega, fun h h' => ?_, fun h h' => by omega⟩
      have : o.c.x = 0 ∧ o.c.y = 0 := by omega
      cases hc : o.c; rw [hc] at this; simp at this; rw [this.1, this.2]
def firstE : List Ord → Int
  | [] => 0
  | o :: r => if ordE o ≠ 0 then ordE o else firstE r
theorem firstE_at : ∀ (l : List Ord) (k : Nat), k < l.length → firstE (l.drop k) = if ordE (l.getD k default) ≠ 0 then ordE (l.getD k default) else firstE (l.drop (k + 1)) := by
  intro l k hk
  rw [List.drop_eq_getElem_cons hk, getD_at _ _ hk]; rfl
theorem firstE_drop (l : List Ord) : ∀ k, k ≤ l.length → (∀ j, j < k → ordE (l.getD j default) = 0) → firstE l = firstE (l.drop k)
  | 0, _, _ => by simp
  | k + 1, hk, h => by
    rw [firstE_drop l k (by omega) fun j hj => h j (by omega), firstE_at l k (by omega), if_neg (fun h' => h' (h k (by omega)))]
theorem firstE_ok : ∀ (l : List Ord), firstE l = 0 → ∀ o ∈ l, ordE o = 0
  | [], _, o, ho => by simp at ho
  | a :: r, h, o, ho => by
    unfold firstE at h
    split at h
    · rename_i h1; exact absurd h h1
    · rename_i h1
      rcases List.mem_cons.1 ho with rfl | ho
      · exact Decidable.not_not.1 h1
      · exact firstE_ok r h o ho
def ordsE (l : List Ord) : Int := if 100 < l.length then 2 else firstE l
theorem ordsE_ok {l : List Ord} (h : ordsE l = 0) : l.length ≤ 100 ∧ ∀ o ∈ l, ordE o = 0 := by
  unfold ordsE at h
  split at h
  · simp at h
  · rename_i h1; exact ⟨by omega, firstE_ok l h⟩
def bareV (o : Ord) : Ord := ⟨o.by_, o.kind, if o.kind = 5 then 0 else o.who, if o.kind ≠ 2 ∧ o.kind ≠ 3 then ⟨0, 0⟩ else o.c, if o.kind ≠ 1 ∧ o.kind ≠ 5 then 0 else o.what⟩
theorem ord_dec (a b : Ord) : (decide (a.by_ = b.by_) && (decide (a.kind = b.kind) && (decide (a.who = b.who) && (decide (a.c.x = b.c.x) && (decide (a.c.y = b.c.y) && decide (a.what = b.what)))))) = decide (a = b) := by
  rw [Bool.eq_iff_iff]; obtain ⟨_, _, _, ⟨_, _⟩, _⟩ := a; obtain ⟨_, _, _, ⟨_, _⟩, _⟩ := b; simp [and_assoc]
theorem bare_form (o : Ord) : decide (bareV o = o) = !ordForm o := by
  obtain ⟨b, k, w, ⟨x, y⟩, t⟩ := o
  unfold bareV ordForm
  rw [Bool.eq_iff_iff]
  simp only [decide_eq_true_eq, Bool.not_eq_true', Bool.or_eq_false_iff, decide_eq_false_iff_not, Ord.mk.injEq, true_and]
  constructor
  · rintro ⟨h1, h2, h3⟩
    refine ⟨⟨fun h => ?_, fun h => ?_⟩, fun h => ?_⟩
    · rw [if_pos h.1] at h1; omega
    · rw [if_pos ⟨h.1, h.2.1⟩] at h2; simp at h2; omega
    · rw [if_pos ⟨h.1, h.2.1⟩] at h3; omega
  · rintro ⟨⟨h1, h2⟩, h3⟩
    refine ⟨?_, ?_, ?_⟩
    · split <;> omega
    · split
      · simp; omega
      · rfl
    · split <;> omega
theorem near_within (c : Cel) : (!within c.x (-1000) 1000 || !within c.y (-1000) 1000) = !nearB c := by
  unfold within nearB
  rw [Bool.eq_iff_iff]; simp; omega
theorem owithin_s (n a b : Int) : Spec Tryz.prog 124 [I .i64 n, I .i64 a, I .i64 b] [] (B (within n a b)) [] := by
  refine spec_am Tryz.func124 rfl rfl mix 15 rfl [.tmp 6] Tryz.results124 (Nat.le_of_ble_eq_true rfl) ?_
  (try simp (etaStruct := .none) only [push_cast, DrawG, Int.cast_ofNat_Int, seval]); (try simp (disch := omega) only [wrap_in, wk_self, tdv, tmd]); (repeat with_reducible refine obA ?_)
  exact ret0 rfl trivial (Wk.of (congrArg B (by unfold within; first | rfl | simp)))
theorem bare_o (o : Ord) : Spec Tryz.prog 125 [ordA o] [] (ordA (bareV o)) [] := by
  refine spec_am Tryz.func125 rfl rfl mix 27 rfl [.cell 2 96] Tryz.results125 (Nat.le_of_ble_eq_true rfl) ?_
  (try simp (etaStruct := .none) only [push_cast, DrawG, Int.cast_ofNat_Int, seval]); (try simp (disch := omega) only [wrap_in, wk_self, tdv, tmd]); (repeat with_reducible refine obA ?_)
  refine cond_i (fun h1 => ?_) (fun h1 => ?_)
  · (try simp only [xa, xb, xc, xd, xe, xf, xg, xh, xi, xj, Bool.not_true, Bool.not_false, xk, xl] at h1)
    (try simp (etaStruct := .none) only [push_cast, DrawG, Int.cast_ofNat_Int, seval]); (try simp (disch := omega) only [wrap_in, wk_self, tdv, tmd]); (repeat with_reducible refine obA ?_)
    refine cond_i (fun h2 => ?_) (fun h2 => ?_)
    · (try simp only [xa, xb, xc, xd, xe, xf, xg, xh, xi, xj, Bool.not_true, Bool.not_false, xk, xl] at h2)
      (try simp (etaStruct := .none) only [push_cast, DrawG, Int.cast_ofNat_Int, seval]); (try simp (disch := omega) only [wrap_in, wk_self, tdv, tmd]); (repeat with_reducible refine obA ?_)
      refine cond_i (fun h3 => ?_) (fun h3 => ?_)
      · (try simp only [xa, xb, xc, xd, xe, xf, xg, xh, xi, xj, Bool.not_true, Bool.not_false, xk, xl] at h3)
        (try simp (etaStruct := .none) only [push_cast, DrawG, Int.cast_ofNat_Int, seval]); (try simp (disch := omega) only [wrap_in, wk_self, tdv, tmd]); (repeat with_reducible refine obA ?_)
        (first | (refine retA rfl (Wk.of ?_); (try simp (etaStruct := .none) only [push_cast, DrawG, Int.cast_ofNat_Int, seval]); first | done | (simp [bareV, *]; done) | (simp_all [bareV]; done)) | (refine retA rfl ?_; (try simp (etaStruct := .none) only [push_cast, DrawG, Int.cast_ofNat_Int, seval]); (try simp [bareV, *]); (try exact wkc)))
      · (try simp only [xa, xb, xc, xd, xe, xf, xg, xh, xi, xj, Bool.not_true, Bool.not_false, xk, xl] at h3)
        have e2 : ¬ (o.kind ≠ 1 ∧ o.kind ≠ 5) := by omega
        (try simp (etaStruct := .none) only [push_cast, DrawG, Int.cast_ofNat_Int, seval]); (try simp (disch := omega) only [wrap_in, wk_self, tdv, tmd]); (repeat with_reducible refine obA ?_)
        (first | (refine retA rfl (Wk.of ?_); (try simp (etaStruct := .none) only [push_cast, DrawG, Int.cast_ofNat_Int, seval]); first | done | (simp [bareV, *]; done) | (simp_all [bareV]; done)) | (refine retA rfl ?_; (try simp (etaStruct := .none) only [push_cast, DrawG, Int.cast_ofNat_Int, seval]); (try simp [bareV, *]); (try exact wkc)))
    · (try simp only [xa, xb, xc, xd, xe, xf, xg, xh, xi, xj, Bool.not_true, Bool.not_false, xk, xl] at h2)
      have e1 : ¬ (o.kind ≠ 2 ∧ o.kind ≠ 3) := by omega
      (try simp (etaStruct := .none) only [push_cast, DrawG, Int.cast_ofNat_Int, seval]); (try simp (disch := omega) only [wrap_in, wk_self, tdv, tmd]); (repeat with_reducible refine obA ?_)
      refine cond_i (fun h4 => ?_) (fun h4 => ?_)
      · (try simp only [xa, xb, xc, xd, xe, xf, xg, xh, xi, xj, Bool.not_true, Bool.not_false, xk, xl] at h4)
        (try simp (etaStruct := .none) only [push_cast, DrawG, Int.cast_ofNat_Int, seval]); (try simp (disch := omega) only [wrap_in, wk_self, tdv, tmd]); (repeat with_reducible refine obA ?_)
        (first | (refine retA rfl (Wk.of ?_); (try simp (etaStruct := .none) only [push_cast, DrawG, Int.cast_ofNat_Int, seval]); first | done | (simp [bareV, *]; done) | (simp_all [bareV]; done)) | (refine retA rfl ?_; (try simp (etaStruct := .none) only [push_cast, DrawG, Int.cast_ofNat_Int, seval]); (try simp [bareV, *]); (try exact wkc)))
      · (try simp only [xa, xb, xc, xd, xe, xf, xg, xh, xi, xj, Bool.not_true, Bool.not_false, xk, xl] at h4)
        have e2 : ¬ (o.kind ≠ 1 ∧ o.kind ≠ 5) := by omega
        (try simp (etaStruct := .none) only [push_cast, DrawG, Int.cast_ofNat_Int, seval]); (try simp (disch := omega) only [wrap_in, wk_self, tdv, tmd]); (repeat with_reducible refine obA ?_)
        (first | (refine retA rfl (Wk.of ?_); (try simp (etaStruct := .none) only [push_cast, DrawG, Int.cast_ofNat_Int, seval]); first | done | (simp [bareV, *]; done) | (simp_all [bareV]; done)) | (refine retA rfl ?_; (try simp (etaStruct := .none) only [push_cast, DrawG, Int.cast_ofNat_Int, seval]); (try simp [bareV, *]); (try exact wkc)))
  · (try simp only [xa, xb, xc, xd, xe, xf, xg, xh, xi, xj, Bool.not_true, Bool.not_false, xk, xl] at h1)
    (try simp (etaStruct := .none) only [push_cast, DrawG, Int.cast_ofNat_Int, seval]); (try simp (disch := omega) only [wrap_in, wk_self, tdv, tmd]); (repeat with_reducible refine obA ?_)
    refine cond_i (fun h5 => ?_) (fun h5 => ?_)
    · (try simp only [xa, xb, xc, xd, xe, xf, xg, xh, xi, xj, Bool.not_true, Bool.not_false, xk, xl] at h5)
      (try simp (etaStruct := .none) only [push_cast, DrawG, Int.cast_ofNat_Int, seval]); (try simp (disch := omega) only [wrap_in, wk_self, tdv, tmd]); (repeat with_reducible refine obA ?_)
      refine cond_i (fun h6 => ?_) (fun h6 => ?_)
      · (try simp only [xa, xb, xc, xd, xe, xf, xg, xh, xi, xj, Bool.not_true, Bool.not_false, xk, xl] at h6)
        (try simp (etaStruct := .none) only [push_cast, DrawG, Int.cast_ofNat_Int, seval]); (try simp (disch := omega) only [wrap_in, wk_self, tdv, tmd]); (repeat with_reducible refine obA ?_)
        (first | (refine retA rfl (Wk.of ?_); (try simp (etaStruct := .none) only [push_cast, DrawG, Int.cast_ofNat_Int, seval]); first | done | (simp [bareV, *]; done) | (simp_all [bareV]; done)) | (refine retA rfl ?_; (try simp (etaStruct := .none) only [push_cast, DrawG, Int.cast_ofNat_Int, seval]); (try simp [bareV, *]); (try exact wkc)))
      · (try simp only [xa, xb, xc, xd, xe, xf, xg, xh, xi, xj, Bool.not_true, Bool.not_false, xk, xl] at h6)
        have e2 : o.kind = 1 := by omega
        (try simp (etaStruct := .none) only [push_cast, DrawG, Int.cast_ofNat_Int, seval]); (try simp (disch := omega) only [wrap_in, wk_self, tdv, tmd]); (repeat with_reducible refine obA ?_)
        (first | (refine retA rfl (Wk.of ?_); (try simp (etaStruct := .none) only [push_cast, DrawG, Int.cast_ofNat_Int, seval]); first | done | (simp [bareV, *]; done) | (simp_all [bareV]; done)) | (refine retA rfl ?_; (try simp (etaStruct := .none) only [push_cast, DrawG, Int.cast_ofNat_Int, seval]); (try simp [bareV, *]); (try exact wkc)))
    · (try simp only [xa, xb, xc, xd, xe, xf, xg, xh, xi, xj, Bool.not_true, Bool.not_false, xk, xl] at h5)
      have e1 : ¬ (o.kind ≠ 2 ∧ o.kind ≠ 3) := by omega
      (try simp (etaStruct := .none) only [push_cast, DrawG, Int.cast_ofNat_Int, seval]); (try simp (disch := omega) only [wrap_in, wk_self, tdv, tmd]); (repeat with_reducible refine obA ?_)
      refine cond_i (fun h7 => ?_) (fun h7 => ?_)
      · (try simp only [xa, xb, xc, xd, xe, xf, xg, xh, xi, xj, Bool.not_true, Bool.not_false, xk, xl] at h7)
        (try simp (etaStruct := .none) only [push_cast, DrawG, Int.cast_ofNat_Int, seval]); (try simp (disch := omega) only [wrap_in, wk_self, tdv, tmd]); (repeat with_reducible refine obA ?_)
        (first | (refine retA rfl (Wk.of ?_); (try simp (etaStruct := .none) only [push_cast, DrawG, Int.cast_ofNat_Int, seval]); first | done | (simp [bareV, *]; done) | (simp_all [bareV]; done)) | (refine retA rfl ?_; (try simp (etaStruct := .none) only [push_cast, DrawG, Int.cast_ofNat_Int, seval]); (try simp [bareV, *]); (try exact wkc)))
      · (try simp only [xa, xb, xc, xd, xe, xf, xg, xh, xi, xj, Bool.not_true, Bool.not_false, xk, xl] at h7)
        have e2 : ¬ (o.kind ≠ 1 ∧ o.kind ≠ 5) := by omega
        (try simp (etaStruct := .none) only [push_cast, DrawG, Int.cast_ofNat_Int, seval]); (try simp (disch := omega) only [wrap_in, wk_self, tdv, tmd]); (repeat with_reducible refine obA ?_)
        (first | (refine retA rfl (Wk.of ?_); (try simp (etaStruct := .none) only [push_cast, DrawG, Int.cast_ofNat_Int, seval]); first | done | (simp [bareV, *]; done) | (simp_all [bareV]; done)) | (refine retA rfl ?_; (try simp (etaStruct := .none) only [push_cast, DrawG, Int.cast_ofNat_Int, seval]); (try simp [bareV, *]); (try exact wkc)))
theorem ocheck_s (o : Ord) : Spec Tryz.prog 80 [ordA o] [] (I .i64 (ordE o)) [] := by
  refine spec_am Tryz.func80 rfl rfl mix 43 rfl [.tmp 2] Tryz.results80 (Nat.le_of_ble_eq_true rfl) ?_
  (iterate 2 ((try simp (etaStruct := .none) only [push_cast, DrawG, Int.cast_ofNat_Int, seval, ord_dec (bareV o) o, bare_form o]); (try simp (disch := omega) only [wrap_in, wk_self, tdv, tmd]); (repeat with_reducible refine obA ?_)))
  refine callP (owithin_s o.by_ 0 7) (WkL.refl _) ?_
  (iterate 2 ((try simp (etaStruct := .none) only [push_cast, DrawG, Int.cast_ofNat_Int, seval, ord_dec (bareV o) o, bare_form o]); (try simp (disch := omega) only [wrap_in, wk_self, tdv, tmd]); (repeat with_reducible refine obA ?_)))
  refine gcallP (fun hcc => owithin_s o.kind 1 5) (WkL.refl _) (by intro hc; (try simp (etaStruct := .none) only [push_cast, DrawG, Int.cast_ofNat_Int, seval]); (try simp_all)) ?_
  (iterate 2 ((try simp (etaStruct := .none) only [push_cast, DrawG, Int.cast_ofNat_Int, seval, ord_dec (bareV o) o, bare_form o]); (try simp (disch := omega) only [wrap_in, wk_self, tdv, tmd]); (repeat with_reducible refine obA ?_)))
  refine gcallP (fun hcc => owithin_s o.who 0 1000000) (WkL.refl _) (by intro hc; (try simp (etaStruct := .none) only [push_cast, DrawG, Int.cast_ofNat_Int, seval]); (try simp_all)) ?_
  (iterate 2 ((try simp (etaStruct := .none) only [push_cast, DrawG, Int.cast_ofNat_Int, seval, ord_dec (bareV o) o, bare_form o]); (try simp (disch := omega) only [wrap_in, wk_self, tdv, tmd]); (repeat with_reducible refine obA ?_)))
  refine gcallP (fun hcc => owithin_s o.c.x (-1000) 1000) (WkL.refl _) (by intro hc; (try simp (etaStruct := .none) only [push_cast, DrawG, Int.cast_ofNat_Int, seval]); (try simp_all)) ?_
  (iterate 2 ((try simp (etaStruct := .none) only [push_cast, DrawG, Int.cast_ofNat_Int, seval, ord_dec (bareV o) o, bare_form o]); (try simp (disch := omega) only [wrap_in, wk_self, tdv, tmd]); (repeat with_reducible refine obA ?_)))
  refine gcallP (fun hcc => owithin_s o.c.y (-1000) 1000) (WkL.refl _) (by intro hc; (try simp (etaStruct := .none) only [push_cast, DrawG, Int.cast_ofNat_Int, seval]); (try simp_all)) ?_
  (iterate 2 ((try simp (etaStruct := .none) only [push_cast, DrawG, Int.cast_ofNat_Int, seval, ord_dec (bareV o) o, bare_form o]); (try simp (disch := omega) only [wrap_in, wk_self, tdv, tmd]); (repeat with_reducible refine obA ?_)))
  refine gcallP (fun hcc => owithin_s o.what 0 1000000) (WkL.refl _) (by intro hc; (try simp (etaStruct := .none) only [push_cast, DrawG, Int.cast_ofNat_Int, seval]); (try simp_all)) ?_
  (iterate 2 ((try simp (etaStruct := .none) only [push_cast, DrawG, Int.cast_ofNat_Int, seval, ord_dec (bareV o) o, bare_form o]); (try simp (disch := omega) only [wrap_in, wk_self, tdv, tmd]); (repeat with_reducible refine obA ?_)))
  refine cond_i (fun h1 => ?_) (fun h1 => ?_)
  · (try simp only [xa, xb, xc, xd, xe, xf, xg, xh, xi, xj, Bool.not_true, Bool.not_false, xk, xl] at h1)
    have hb : ordBad o = true := by unfold ordBad; rw [← near_within]; simpa [or_assoc] using h1
    (iterate 2 ((try simp (etaStruct := .none) only [push_cast, DrawG, Int.cast_ofNat_Int, seval, ord_dec (bareV o) o, bare_form o]); (try simp (disch := omega) only [wrap_in, wk_self, tdv, tmd]); (repeat with_reducible refine obA ?_)))
    (first | (refine retA rfl (Wk.of ?_); (try simp (etaStruct := .none) only [push_cast, DrawG, Int.cast_ofNat_Int, seval]); first | done | (simp [ordE, hb, *]; done) | (simp_all [ordE, hb]; done)) | (refine retA rfl ?_; (try simp (etaStruct := .none) only [push_cast, DrawG, Int.cast_ofNat_Int, seval]); (try simp [ordE, hb, *]); (try exact wkc)))
  · (try simp only [xa, xb, xc, xd, xe, xf, xg, xh, xi, xj, Bool.not_true, Bool.not_false, xk, xl] at h1)
    have hb : ordBad o = false := by unfold ordBad; rw [← near_within]; simpa [and_assoc] using h1
    (iterate 2 ((try simp (etaStruct := .none) only [push_cast, DrawG, Int.cast_ofNat_Int, seval, ord_dec (bareV o) o, bare_form o]); (try simp (disch := omega) only [wrap_in, wk_self, tdv, tmd]); (repeat with_reducible refine obA ?_)))
    refine callP (bare_o o) (WkL.refl _) ?_
    (iterate 2 ((try simp (etaStruct := .none) only [push_cast, DrawG, Int.cast_ofNat_Int, seval, ord_dec (bareV o) o, bare_form o]); (try simp (disch := omega) only [wrap_in, wk_self, tdv, tmd]); (repeat with_reducible refine obA ?_)))
    (try (refine ⟨by kernel_rfl, ?_⟩))
    (iterate 2 ((try simp (etaStruct := .none) only [push_cast, DrawG, Int.cast_ofNat_Int, seval, ord_dec (bareV o) o, bare_form o]); (try simp (disch := omega) only [wrap_in, wk_self, tdv, tmd]); (repeat with_reducible refine obA ?_)))
    refine cond_i (fun h2 => ?_) (fun h2 => ?_)
    · (try simp only [xa, xb, xc, xd, xe, xf, xg, xh, xi, xj, Bool.not_true, Bool.not_false, xk, xl] at h2)
      (iterate 2 ((try simp (etaStruct := .none) only [push_cast, DrawG, Int.cast_ofNat_Int, seval, ord_dec (bareV o) o, bare_form o]); (try simp (disch := omega) only [wrap_in, wk_self, tdv, tmd]); (repeat with_reducible refine obA ?_)))
      (first | (refine retA rfl (Wk.of ?_); (try simp (etaStruct := .none) only [push_cast, DrawG, Int.cast_ofNat_Int, seval]); first | done | (simp [ordE, hb, *]; done) | (simp_all [ordE, hb]; done)) | (refine retA rfl ?_; (try simp (etaStruct := .none) only [push_cast, DrawG, Int.cast_ofNat_Int, seval]); (try simp [ordE, hb, *]); (try exact wkc)))
    · (try simp only [xa, xb, xc, xd, xe, xf, xg, xh, xi, xj, Bool.not_true, Bool.not_false, xk, xl] at h2)
      (iterate 2 ((try simp (etaStruct := .none) only [push_cast, DrawG, Int.cast_ofNat_Int, seval, ord_dec (bareV o) o, bare_form o]); (try simp (disch := omega) only [wrap_in, wk_self, tdv, tmd]); (repeat with_reducible refine obA ?_)))
      (first | (refine retA rfl (Wk.of ?_); (try simp (etaStruct := .none) only [push_cast, DrawG, Int.cast_ofNat_Int, seval]); first | done | (simp [ordE, hb, *]; done) | (simp_all [ordE, hb]; done)) | (refine retA rfl ?_; (try simp (etaStruct := .none) only [push_cast, DrawG, Int.cast_ofNat_Int, seval]); (try simp [ordE, hb, *]); (try exact wkc)))
theorem oright_s (o : Ord) : Spec Tryz.prog 61 [ordA o] [] (I .i64 (ordE o)) [] := by
  refine spec_am Tryz.func61 rfl rfl mix 85 rfl [.tmp 2] Tryz.results61 (Nat.le_of_ble_eq_true rfl) ?_
  (try simp (etaStruct := .none) only [push_cast, DrawG, Int.cast_ofNat_Int, seval]); (try simp (disch := omega) only [wrap_in, wk_self, tdv, tmd]); (repeat with_reducible refine obA ?_)
  refine callP (between_s o.by_ 0 7) (WkL.refl _) ?_
  (try simp (etaStruct := .none) only [push_cast, DrawG, Int.cast_ofNat_Int, seval]); (try simp (disch := omega) only [wrap_in, wk_self, tdv, tmd]); (repeat with_reducible refine obA ?_)
  refine gcallP (fun hcc => between_s o.kind 1 5) (WkL.refl _) (by intro hc; (try simp (etaStruct := .none) only [push_cast, DrawG, Int.cast_ofNat_Int, seval]); (try simp_all)) ?_
  (try simp (etaStruct := .none) only [push_cast, DrawG, Int.cast_ofNat_Int, seval]); (try simp (disch := omega) only [wrap_in, wk_self, tdv, tmd]); (repeat with_reducible refine obA ?_)
  refine gcallP (fun hcc => between_s o.who 0 1000000) (WkL.refl _) (by intro hc; (try simp (etaStruct := .none) only [push_cast, DrawG, Int.cast_ofNat_Int, seval]); (try simp_all)) ?_
  (try simp (etaStruct := .none) only [push_cast, DrawG, Int.cast_ofNat_Int, seval]); (try simp (disch := omega) only [wrap_in, wk_self, tdv, tmd]); (repeat with_reducible refine obA ?_)
  refine gcallP (fun hcc => cellNear_s o.c) (WkL.refl _) (by intro hc; (try simp (etaStruct := .none) only [push_cast, DrawG, Int.cast_ofNat_Int, seval]); (try simp_all)) ?_
  (try simp (etaStruct := .none) only [push_cast, DrawG, Int.cast_ofNat_Int, seval]); (try simp (disch := omega) only [wrap_in, wk_self, tdv, tmd]); (repeat with_reducible refine obA ?_)
  refine gcallP (fun hcc => between_s o.what 0 1000000) (WkL.refl _) (by intro hc; (try simp (etaStruct := .none) only [push_cast, DrawG, Int.cast_ofNat_Int, seval]); (try simp_all)) ?_
  (try simp (etaStruct := .none) only [push_cast, DrawG, Int.cast_ofNat_Int, seval]); (try simp (disch := omega) only [wrap_in, wk_self, tdv, tmd]); (repeat with_reducible refine obA ?_)
  refine cond_i (fun h1 => ?_) (fun h1 => ?_)
  · (try simp only [xa, xb, xc, xd, xe, xf, xg, xh, xi, xj, Bool.not_true, Bool.not_false, xk, xl] at h1)
    have hb : ordBad o = true := by unfold ordBad; simpa [or_assoc] using h1
    (try simp (etaStruct := .none) only [push_cast, DrawG, Int.cast_ofNat_Int, seval]); (try simp (disch := omega) only [wrap_in, wk_self, tdv, tmd]); (repeat with_reducible refine obA ?_)
    (first | (refine retA rfl (Wk.of ?_); (try simp (etaStruct := .none) only [push_cast, DrawG, Int.cast_ofNat_Int, seval]); first | done | (simp [ordE, hb, *]; done) | (simp_all [ordE, hb]; done)) | (refine retA rfl ?_; (try simp (etaStruct := .none) only [push_cast, DrawG, Int.cast_ofNat_Int, seval]); (try simp [ordE, hb, *]); (try exact wkc)))
  · (try simp only [xa, xb, xc, xd, xe, xf, xg, xh, xi, xj, Bool.not_true, Bool.not_false, xk, xl] at h1)
    have hb : ordBad o = false := by unfold ordBad; simpa [and_assoc] using h1
    (try simp (etaStruct := .none) only [push_cast, DrawG, Int.cast_ofNat_Int, seval]); (try simp (disch := omega) only [wrap_in, wk_self, tdv, tmd]); (repeat with_reducible refine obA ?_)
    refine cond_i (fun h2 => ?_) (fun h2 => ?_)
    · (try simp only [xa, xb, xc, xd, xe, xf, xg, xh, xi, xj, Bool.not_true, Bool.not_false, xk, xl] at h2)
      have hc : ordForm o = true := by unfold ordForm; simp; omega
      (try simp (etaStruct := .none) only [push_cast, DrawG, Int.cast_ofNat_Int, seval]); (try simp (disch := omega) only [wrap_in, wk_self, tdv, tmd]); (repeat with_reducible refine obA ?_)
      (first | (refine retA rfl (Wk.of ?_); (try simp (etaStruct := .none) only [push_cast, DrawG, Int.cast_ofNat_Int, seval]); first | done | (simp [ordE, hb, *]; done) | (simp_all [ordE, hb]; done)) | (refine retA rfl ?_; (try simp (etaStruct := .none) only [push_cast, DrawG, Int.cast_ofNat_Int, seval]); (try simp [ordE, hb, *]); (try exact wkc)))
    · (try simp only [xa, xb, xc, xd, xe, xf, xg, xh, xi, xj, Bool.not_true, Bool.not_false, xk, xl] at h2)
      have hc : ordForm o = false := by unfold ordForm; simp; omega
      (try simp (etaStruct := .none) only [push_cast, DrawG, Int.cast_ofNat_Int, seval]); (try simp (disch := omega) only [wrap_in, wk_self, tdv, tmd]); (repeat with_reducible refine obA ?_)
      (first | (refine retA rfl (Wk.of ?_); (try simp (etaStruct := .none) only [push_cast, DrawG, Int.cast_ofNat_Int, seval]); first | done | (simp [ordE, hb, *]; done) | (simp_all [ordE, hb]; done)) | (refine retA rfl ?_; (try simp (etaStruct := .none) only [push_cast, DrawG, Int.cast_ofNat_Int, seval]); (try simp [ordE, hb, *]); (try exact wkc)))
theorem oall_s (l : List Ord) (hl : l.length ≤ 9223372036854775807) : Spec Tryz.prog 52 [.c (.sl 6 (l.map ordP))] [] (I .i64 (ordsE l)) [] := by
  refine spec_am Tryz.func52 rfl rfl mix 21 rfl [.tmp 2] Tryz.results52 (Nat.le_of_ble_eq_true rfl) ?_
  (try simp (etaStruct := .none) only [push_cast, DrawG, Int.cast_ofNat_Int, seval]); (try simp (disch := omega) only [wrap_in, wk_self, tdv, tmd]); (repeat with_reducible refine obA ?_)
  refine cond_i (fun h1 => ?_) (fun h1 => ?_)
  · (try simp only [xa, xb, xc, xd, xe, xf, xg, xh, xi, xj, Bool.not_true, Bool.not_false, xk, xl] at h1)
    have h1' : 100 < l.length := by omega
    (try simp (etaStruct := .none) only [push_cast, DrawG, Int.cast_ofNat_Int, seval]); (try simp (disch := omega) only [wrap_in, wk_self, tdv, tmd]); (repeat with_reducible refine obA ?_)
    (first | (refine retA rfl (Wk.of ?_); (try simp (etaStruct := .none) only [push_cast, DrawG, Int.cast_ofNat_Int, seval]); first | done | (simp [ordsE, *]; done) | (simp_all [ordsE]; done)) | (refine retA rfl ?_; (try simp (etaStruct := .none) only [push_cast, DrawG, Int.cast_ofNat_Int, seval]); (try simp [ordsE, *]); (try exact wkc)))
  · (try simp only [xa, xb, xc, xd, xe, xf, xg, xh, xi, xj, Bool.not_true, Bool.not_false, xk, xl] at h1)
    (try simp (etaStruct := .none) only [push_cast, DrawG, Int.cast_ofNat_Int, seval]); (try simp (disch := omega) only [wrap_in, wk_self, tdv, tmd]); (repeat with_reducible refine obA ?_)
    refine loopI (fun k : Nat => ⟨[(11, I .i64 k), (10, I .i64 l.length), (9, .c (.sl 6 (l.map ordP)))], [], 0⟩) (fun k : Nat => k ≤ l.length ∧ ∀ j, j < k → ordE (l.getD j default) = 0) (fun k : Nat => l.length - k) (0) (⟨Nat.zero_le _, fun j h => by omega⟩) (To.mk [] rfl rfl List.nodup_nil trivial ?_) ?_
    · simp (etaStruct := .none) only [push_cast, DrawG, Int.cast_ofNat_Int, seval]
    rintro k ⟨hk, hn⟩
    (try simp (etaStruct := .none) only [push_cast, DrawG, Int.cast_ofNat_Int, seval]); (try simp (disch := omega) only [wrap_in, wk_self, tdv, tmd]); (repeat with_reducible refine obA ?_)
    refine cond_i (fun h2 => ?_) (fun h2 => ?_)
    · (try simp only [xa, xb, xc, xd, xe, xf, xg, xh, xi, xj, Bool.not_true, Bool.not_false, xk, xl] at h2)
      have hlt : k < l.length := by omega
      (iterate 2 ((try simp (etaStruct := .none) only [push_cast, DrawG, Int.cast_ofNat_Int, seval, getD_in _ _ _ hlt, ordP]); (try simp (disch := omega) only [wrap_in, wk_self, tdv, tmd]); (repeat with_reducible refine obA ?_)))
      refine callP (ocheck_s (l.getD k default)) (WkL.refl _) ?_
      (iterate 2 ((try simp (etaStruct := .none) only [push_cast, DrawG, Int.cast_ofNat_Int, seval, getD_in _ _ _ hlt, ordP]); (try simp (disch := omega) only [wrap_in, wk_self, tdv, tmd]); (repeat with_reducible refine obA ?_)))
      refine cond_i (fun h3 => ?_) (fun h3 => ?_)
      · (try simp only [xa, xb, xc, xd, xe, xf, xg, xh, xi, xj, Bool.not_true, Bool.not_false, xk, xl] at h3)
        have e : ordsE l = ordE (l.getD k default) := by
          unfold ordsE
          rw [if_neg (by omega), firstE_drop l k hk hn, firstE_at l k hlt, if_pos h3]
        (iterate 2 ((try simp (etaStruct := .none) only [push_cast, DrawG, Int.cast_ofNat_Int, seval, getD_in _ _ _ hlt, ordP]); (try simp (disch := omega) only [wrap_in, wk_self, tdv, tmd]); (repeat with_reducible refine obA ?_)))
        (first | (refine retA rfl (Wk.of ?_); (try simp (etaStruct := .none) only [push_cast, DrawG, Int.cast_ofNat_Int, seval]); first | done | (simp [e, *]; done) | (simp_all [e]; done)) | (refine retA rfl ?_; (try simp (etaStruct := .none) only [push_cast, DrawG, Int.cast_ofNat_Int, seval]); (try simp [e, *]); (try exact wkc)))
      · (try simp only [xa, xb, xc, xd, xe, xf, xg, xh, xi, xj, Bool.not_true, Bool.not_false, xk, xl] at h3)
        (iterate 2 ((try simp (etaStruct := .none) only [push_cast, DrawG, Int.cast_ofNat_Int, seval, getD_in _ _ _ hlt, ordP]); (try simp (disch := omega) only [wrap_in, wk_self, tdv, tmd]); (repeat with_reducible refine obA ?_)))
        refine ⟨k + 1, ⟨by omega, fun j hj => by rcases Nat.lt_or_ge j k with h | h; exact hn j h; rw [show j = k by omega]; exact h3⟩, by omega, To.mk [] rfl rfl List.nodup_nil trivial ?_⟩
        · (iterate 2 ((try simp (etaStruct := .none) only [push_cast, DrawG, Int.cast_ofNat_Int, seval, getD_in _ _ _ hlt, ordP]); (try simp (disch := omega) only [wrap_in, wk_self, tdv, tmd]); (repeat with_reducible refine obA ?_)))
    · (try simp only [xa, xb, xc, xd, xe, xf, xg, xh, xi, xj, Bool.not_true, Bool.not_false, xk, xl] at h2)
      have e : ordsE l = 0 := by
        unfold ordsE
        rw [if_neg (by omega), firstE_drop l k hk hn, List.drop_eq_nil_of_le (by omega)]; rfl
      (try simp (etaStruct := .none) only [push_cast, DrawG, Int.cast_ofNat_Int, seval]); (try simp (disch := omega) only [wrap_in, wk_self, tdv, tmd]); (repeat with_reducible refine obA ?_)
      (first | (refine retA rfl (Wk.of ?_); (try simp (etaStruct := .none) only [push_cast, DrawG, Int.cast_ofNat_Int, seval]); first | done | (simp [e, *]; done) | (simp_all [e]; done)) | (refine retA rfl ?_; (try simp (etaStruct := .none) only [push_cast, DrawG, Int.cast_ofNat_Int, seval]); (try simp [e, *]); (try exact wkc)))
theorem orights_s (l : List Ord) (hl : l.length ≤ 9223372036854775807) : Spec Tryz.prog 28 [.c (.sl 6 (l.map ordP))] [] (I .i64 (ordsE l)) [] := by
  refine spec_am Tryz.func28 rfl rfl mix 25 rfl [.tmp 2] Tryz.results28 (Nat.le_of_ble_eq_true rfl) ?_
  (try simp (etaStruct := .none) only [push_cast, DrawG, Int.cast_ofNat_Int, seval]); (try simp (disch := omega) only [wrap_in, wk_self, tdv, tmd]); (repeat with_reducible refine obA ?_)
  refine cond_i (fun h1 => ?_) (fun h1 => ?_)
  · (try simp only [xa, xb, xc, xd, xe, xf, xg, xh, xi, xj, Bool.not_true, Bool.not_false, xk, xl] at h1)
    have h1' : 100 < l.length := by omega
    (try simp (etaStruct := .none) only [push_cast, DrawG, Int.cast_ofNat_Int, seval]); (try simp (disch := omega) only [wrap_in, wk_self, tdv, tmd]); (repeat with_reducible refine obA ?_)
    (first | (refine retA rfl (Wk.of ?_); (try simp (etaStruct := .none) only [push_cast, DrawG, Int.cast_ofNat_Int, seval]); first | done | (simp [ordsE, *]; done) | (simp_all [ordsE]; done)) | (refine retA rfl ?_; (try simp (etaStruct := .none) only [push_cast, DrawG, Int.cast_ofNat_Int, seval]); (try simp [ordsE, *]); (try exact wkc)))
  · (try simp only [xa, xb, xc, xd, xe, xf, xg, xh, xi, xj, Bool.not_true, Bool.not_false, xk, xl] at h1)
    have h1' : ¬ 100 < l.length := by omega
    (try simp (etaStruct := .none) only [push_cast, DrawG, Int.cast_ofNat_Int, seval]); (try simp (disch := omega) only [wrap_in, wk_self, tdv, tmd]); (repeat with_reducible refine obA ?_)
    refine loopI (fun k : Nat => ⟨[(4, I .i64 ((k : Int) - 1)), (3, I .i64 (firstE (l.drop k))), (0, .c (.sl 6 (l.map ordP)))], [], 0⟩) (fun k : Nat => k ≤ l.length) (fun k : Nat => k) (l.length) (Nat.le_refl _) (To.mk [] rfl rfl List.nodup_nil trivial ?_) ?_
    · simp (etaStruct := .none) only [push_cast, DrawG, Int.cast_ofNat_Int, seval, List.drop_length, firstE]
    rintro k hk
    (try simp (etaStruct := .none) only [push_cast, DrawG, Int.cast_ofNat_Int, seval]); (try simp (disch := omega) only [wrap_in, wk_self, tdv, tmd]); (repeat with_reducible refine obA ?_)
    refine cond_i (fun h2 => ?_) (fun h2 => ?_)
    · (try simp only [xa, xb, xc, xd, xe, xf, xg, xh, xi, xj, Bool.not_true, Bool.not_false, xk, xl] at h2)
      have hlt : k - 1 < l.length := by omega
      have ek : ((k : Int) - 1).toNat = k - 1 := by omega
      have ek2 : ((k - 1 : Nat) : Int) = (k : Int) - 1 := by omega
      have fe := firstE_at l (k - 1) hlt
      rw [show k - 1 + 1 = k by omega] at fe
      (iterate 2 ((try simp (etaStruct := .none) only [push_cast, DrawG, Int.cast_ofNat_Int, seval, ek, getD_in _ _ _ hlt, ordP]); (try simp (disch := omega) only [wrap_in, wk_self, tdv, tmd]); (repeat with_reducible refine obA ?_)))
      refine callP (oright_s (l.getD (k - 1) default)) (WkL.refl _) ?_
      (iterate 2 ((try simp (etaStruct := .none) only [push_cast, DrawG, Int.cast_ofNat_Int, seval, ek, getD_in _ _ _ hlt, ordP]); (try simp (disch := omega) only [wrap_in, wk_self, tdv, tmd]); (repeat with_reducible refine obA ?_)))
      refine cond_i (fun h3 => ?_) (fun h3 => ?_)
      · (try simp only [xa, xb, xc, xd, xe, xf, xg, xh, xi, xj, Bool.not_true, Bool.not_false, xk, xl] at h3)
        rw [if_pos h3] at fe
        (iterate 2 ((try simp (etaStruct := .none) only [push_cast, DrawG, Int.cast_ofNat_Int, seval, ek, getD_in _ _ _ hlt, ordP]); (try simp (disch := omega) only [wrap_in, wk_self, tdv, tmd]); (repeat with_reducible refine obA ?_)))
        refine ⟨k - 1, by omega, by omega, To.mk [] rfl rfl List.nodup_nil trivial ?_⟩
        · (iterate 2 ((try simp (etaStruct := .none) only [push_cast, DrawG, Int.cast_ofNat_Int, seval, fe, ek2]); (try simp (disch := omega) only [wrap_in, wk_self, tdv, tmd]); (repeat with_reducible refine obA ?_)))
      · (try simp only [xa, xb, xc, xd, xe, xf, xg, xh, xi, xj, Bool.not_true, Bool.not_false, xk, xl] at h3)
        rw [if_neg (by simpa using h3)] at fe
        (iterate 2 ((try simp (etaStruct := .none) only [push_cast, DrawG, Int.cast_ofNat_Int, seval, ek, getD_in _ _ _ hlt, ordP]); (try simp (disch := omega) only [wrap_in, wk_self, tdv, tmd]); (repeat with_reducible refine obA ?_)))
        refine ⟨k - 1, by omega, by omega, To.mk [] rfl rfl List.nodup_nil trivial ?_⟩
        · (iterate 2 ((try simp (etaStruct := .none) only [push_cast, DrawG, Int.cast_ofNat_Int, seval, fe, ek2]); (try simp (disch := omega) only [wrap_in, wk_self, tdv, tmd]); (repeat with_reducible refine obA ?_)))
    · (try simp only [xa, xb, xc, xd, xe, xf, xg, xh, xi, xj, Bool.not_true, Bool.not_false, xk, xl] at h2)
      obtain rfl : k = 0 := by omega
      (try simp (etaStruct := .none) only [push_cast, DrawG, Int.cast_ofNat_Int, seval]); (try simp (disch := omega) only [wrap_in, wk_self, tdv, tmd]); (repeat with_reducible refine obA ?_)
      (first | (refine retA rfl (Wk.of ?_); (try simp (etaStruct := .none) only [push_cast, DrawG, Int.cast_ofNat_Int, seval]); first | done | (simp [ordsE, *]; done) | (simp_all [ordsE]; done)) | (refine retA rfl ?_; (try simp (etaStruct := .none) only [push_cast, DrawG, Int.cast_ofNat_Int, seval]); (try simp [ordsE, *]); (try exact wkc)))
end Go.Proofs.YthiddmncjafklaaGreat
namespace Go.Proofs.YthiddmncjafklaaGreat
set_option linter.all false
open Go.RowKit
set_option maxRecDepth 100000
set_option maxHeartbeats 2000000
structure Sea where
  waits : List Ord
  late : Int
  gone : Bool
  deriving DecidableEq, Inhabited
end Go.Proofs.YthiddmncjafklaaGreat
namespace Go.Proofs.YthiddmncjafklaaGreat
set_option linter.all false
open Go.RowKit
def lateS (s : Sea) : Sea := ⟨s.waits, if 0 < s.waits.length then 0 else if s.gone then s.late else min (s.late + 1) 1000000, s.gone⟩
end Go.Proofs.YthiddmncjafklaaGreat
namespace Go.Proofs.YthiddmncjafklaaGreat
set_option linter.all false
open Go.RowKit
set_option maxRecDepth 100000
set_option maxHeartbeats 1000000
def wldL (w : Wld) : Prop := w.f.p.length ≤ 9223372036854775807 ∧ w.bases.length ≤ 9223372036854775807 ∧ w.stocks.length ≤ 9223372036854775807 ∧ w.mines.length ≤ 9223372036854775807 ∧ w.troops.length ≤ 9223372036854775807
abbrev wldC (w : Wld) : List AV := [I .i64 w.f.w, I .i64 w.f.h, .c (.sl 1 (w.f.p.map i64P)), .c (.sl 2 (w.bases.map celP)), .c (.sl 1 (w.stocks.map i64P)), .c (.sl 1 (w.mines.map i64P)), .c (.sl 7 (w.troops.map trpP)), I .i64 w.next, I .i64 w.now]
abbrev trpA (t : Trp) : AV := .agg [I .i64 t.id, I .i64 t.owner, I .i64 t.kind, I .i64 t.c.x, I .i64 t.c.y, I .i64 t.life, I .i64 t.load]
abbrev trpC (t : Trp) : List AV := [I .i64 t.id, I .i64 t.owner, I .i64 t.kind, I .i64 t.c.x, I .i64 t.c.y, I .i64 t.life, I .i64 t.load]
theorem worldE_form {w : Wld} (hf : fldE w.f = 0) (hb : ¬ (8 < w.bases.length ∨ 100 < w.troops.length)) (h : worldF w = false) : worldE w = 4 := by
  unfold worldE; rw [if_neg (by simp [hf]), if_neg hb, h]; rfl
theorem worldE_bad {w : Wld} (hf : fldE w.f = 0) (hb : ¬ (8 < w.bases.length ∨ 100 < w.troops.length)) (h : worldB w = false) : worldE w = 4 := by
  unfold worldE; rw [if_neg (by simp [hf]), if_neg hb, h]; simp
theorem worldE_fine {w : Wld} (hf : fldE w.f = 0) (hb : ¬ (8 < w.bases.length ∨ 100 < w.troops.length)) (h1 : worldF w = true) (h : worldB w = true) : worldE w = 0 := by
  unfold worldE; rw [if_neg (by simp [hf]), if_neg hb, h1, h]; rfl
theorem worldB_kind {w : Wld} {k : Nat} (hk : k < w.troops.length) (h : within (w.troops.getD k default).kind 1 2 = false) : worldB w = false := by
  have : allN (troopB w) w.troops.length = false := by
    rw [← Bool.not_eq_true, allN_iff]; intro hh
    have := hh k hk
    unfold troopB at this; rw [h] at this; simp at this
  unfold worldB; rw [this]; simp
theorem cel_neq (a b : Cel) : (!(decide (a.x = b.x) && decide (a.y = b.y))) = !decide (a = b) := by rw [cel_dec]
theorem wright_s (w : Wld) (hl : wldL w) : Spec Tryz.prog 22 [wldA w] [] (I .i64 (worldE w)) [] := by
  obtain ⟨l1, l2, l3, l4, l5⟩ := hl
  refine spec_am Tryz.func22 rfl rfl mix 213 rfl [.tmp 2] Tryz.results22 (Nat.le_of_ble_eq_true rfl) ?_
  (try simp (etaStruct := .none) only [push_cast, DrawG, Int.cast_ofNat_Int, seval]); (try simp (disch := omega) only [wrap_in, wk_self, tdv, tmd]); (repeat with_reducible refine obA ?_)
  refine callP (fright_s w.f l1) (WkL.refl _) ?_
  (try simp (etaStruct := .none) only [push_cast, DrawG, Int.cast_ofNat_Int, seval]); (try simp (disch := omega) only [wrap_in, wk_self, tdv, tmd]); (repeat with_reducible refine obA ?_)
  refine cond_i (fun h1 => ?_) (fun h1 => ?_)
  · (try simp only [xa, xb, xc, xd, xe, xf, xg, xh, xi, xj, Bool.not_true, Bool.not_false, xk, xl] at h1)
    have e : worldE w = fldE w.f := by unfold worldE; rw [if_pos (by simpa using h1)]
    (try simp (etaStruct := .none) only [push_cast, DrawG, Int.cast_ofNat_Int, seval]); (try simp (disch := omega) only [wrap_in, wk_self, tdv, tmd]); (repeat with_reducible refine obA ?_)
    (first | (refine retA rfl (Wk.of ?_); (try simp (etaStruct := .none) only [push_cast, DrawG, Int.cast_ofNat_Int, seval]); first | done | (simp [e, *]; done) | (simp_all [e]; done)) | (refine retA rfl ?_; (try simp (etaStruct := .none) only [push_cast, DrawG, Int.cast_ofNat_Int, seval]); (try simp [e, *]); (try exact wkc)))
  · (try simp only [xa, xb, xc, xd, xe, xf, xg, xh, xi, xj, Bool.not_true, Bool.not_false, xk, xl] at h1)
    have hf : fldE w.f = 0 := by simpa using h1
    have hfo := fldE_ok hf
    (try simp (etaStruct := .none) only [push_cast, DrawG, Int.cast_ofNat_Int, seval]); (try simp (disch := omega) only [wrap_in, wk_self, tdv, tmd]); (repeat with_reducible refine obA ?_)
    refine cond_i (fun h2 => ?_) (fun h2 => ?_)
    · (try simp only [xa, xb, xc, xd, xe, xf, xg, xh, xi, xj, Bool.not_true, Bool.not_false, xk, xl] at h2)
      have e : worldE w = 2 := by unfold worldE; rw [if_neg (by simp [hf]), if_pos (by omega)]
      (try simp (etaStruct := .none) only [push_cast, DrawG, Int.cast_ofNat_Int, seval]); (try simp (disch := omega) only [wrap_in, wk_self, tdv, tmd]); (repeat with_reducible refine obA ?_)
      (first | (refine retA rfl (Wk.of ?_); (try simp (etaStruct := .none) only [push_cast, DrawG, Int.cast_ofNat_Int, seval]); first | done | (simp [e, *]; done) | (simp_all [e]; done)) | (refine retA rfl ?_; (try simp (etaStruct := .none) only [push_cast, DrawG, Int.cast_ofNat_Int, seval]); (try simp [e, *]); (try exact wkc)))
    · (try simp only [xa, xb, xc, xd, xe, xf, xg, xh, xi, xj, Bool.not_true, Bool.not_false, xk, xl] at h2)
      have hb : ¬ (8 < w.bases.length ∨ 100 < w.troops.length) := by omega
      (try simp (etaStruct := .none) only [push_cast, DrawG, Int.cast_ofNat_Int, seval]); (try simp (disch := omega) only [wrap_in, wk_self, tdv, tmd]); (repeat with_reducible refine obA ?_)
      refine gcallP (fun hcc => between_s _ _ _) (WkL.refl _) (by intro hc; (try simp (etaStruct := .none) only [push_cast, DrawG, Int.cast_ofNat_Int, seval]); (try simp_all)) ?_
      (try simp (etaStruct := .none) only [push_cast, DrawG, Int.cast_ofNat_Int, seval]); (try simp (disch := omega) only [wrap_in, wk_self, tdv, tmd]); (repeat with_reducible refine obA ?_)
      refine gcallP (fun hcc => between_s _ _ _) (WkL.refl _) (by intro hc; (try simp (etaStruct := .none) only [push_cast, DrawG, Int.cast_ofNat_Int, seval]); (try simp_all)) ?_
      (try simp (etaStruct := .none) only [push_cast, DrawG, Int.cast_ofNat_Int, seval]); (try simp (disch := omega) only [wrap_in, wk_self, tdv, tmd]); (repeat with_reducible refine obA ?_)
      refine cond_i (fun h3 => ?_) (fun h3 => ?_)
      · (try simp only [xa, xb, xc, xd, xe, xf, xg, xh, xi, xj, Bool.not_true, Bool.not_false, xk, xl] at h3)
        have e : worldE w = 4 := by
          refine worldE_form hf hb ?_
          unfold worldF
          simp only [Bool.and_eq_false_iff, decide_eq_false_iff_not]
          rcases h3 with ((h | h) | h) | h
          · exact .inl (.inl (.inl (by omega)))
          · exact .inl (.inl (.inr (by omega)))
          · exact .inl (.inr h)
          · exact .inr h
        (try simp (etaStruct := .none) only [push_cast, DrawG, Int.cast_ofNat_Int, seval]); (try simp (disch := omega) only [wrap_in, wk_self, tdv, tmd]); (repeat with_reducible refine obA ?_)
        (first | (refine retA rfl (Wk.of ?_); (try simp (etaStruct := .none) only [push_cast, DrawG, Int.cast_ofNat_Int, seval]); first | done | (simp [e, *]; done) | (simp_all [e]; done)) | (refine retA rfl ?_; (try simp (etaStruct := .none) only [push_cast, DrawG, Int.cast_ofNat_Int, seval]); (try simp [e, *]); (try exact wkc)))
      · (try simp only [xa, xb, xc, xd, xe, xf, xg, xh, xi, xj, Bool.not_true, Bool.not_false, xk, xl] at h3)
        have hwf : worldF w = true := by
          unfold worldF
          simp only [Bool.and_eq_true, decide_eq_true_eq]
          exact ⟨⟨⟨by omega, by omega⟩, h3.1.2⟩, h3.2⟩
        have hnx := within_iff.1 h3.1.2
        have hls : w.stocks.length = w.bases.length := by omega
        have hlm : w.mines.length = w.f.p.length := by omega
        (try simp (etaStruct := .none) only [push_cast, DrawG, Int.cast_ofNat_Int, seval]); (try simp (disch := omega) only [wrap_in, wk_self, tdv, tmd]); (repeat with_reducible refine obA ?_)
        refine loopI (fun k : Nat => ⟨[(61, I .i64 k), (60, I .i64 w.bases.length), (4, B (allN (baseB w) k)), (1, .ptr 0 0 0)], [(0, .blk 28 (wldC w))], 1⟩) (fun k : Nat => k ≤ w.bases.length) (fun k : Nat => w.bases.length - k) (0) (Nat.zero_le _) (To.mk [0] rfl rfl (by decide) ?_ ?_) ?_
        · simp (etaStruct := .none) only [push_cast, DrawG, Int.cast_ofNat_Int, seval]
        · simp (etaStruct := .none) only [push_cast, DrawG, Int.cast_ofNat_Int, seval, allN]
        rintro k hk
        (try simp (etaStruct := .none) only [push_cast, DrawG, Int.cast_ofNat_Int, seval]); (try simp (disch := omega) only [wrap_in, wk_self, tdv, tmd]); (repeat with_reducible refine obA ?_)
        refine cond_i (fun h4 => ?_) (fun h4 => ?_)
        · (try simp only [xa, xb, xc, xd, xe, xf, xg, xh, xi, xj, Bool.not_true, Bool.not_false, xk, xl] at h4)
          have hlt : k < w.bases.length := by omega
          have hlt2 : k < w.stocks.length := by omega
          (iterate 2 ((try simp (etaStruct := .none) only [push_cast, DrawG, Int.cast_ofNat_Int, seval, getD_in _ _ _ hlt, celP, getD_in _ _ _ hlt2, i64P]); (try simp (disch := omega) only [wrap_in, wk_self, tdv, tmd]); (repeat with_reducible refine obA ?_)))
          refine gcallP (fun hcc => ground_s w.f (w.bases.getD k default) hf) (WkL.refl _) (by intro hc; (try simp (etaStruct := .none) only [push_cast, DrawG, Int.cast_ofNat_Int, seval]); (try simp_all)) ?_
          (iterate 2 ((try simp (etaStruct := .none) only [push_cast, DrawG, Int.cast_ofNat_Int, seval, getD_in _ _ _ hlt, celP, getD_in _ _ _ hlt2, i64P]); (try simp (disch := omega) only [wrap_in, wk_self, tdv, tmd]); (repeat with_reducible refine obA ?_)))
          refine gcallP (fun hcc => between_s (w.stocks.getD k default) 0 1000000) (WkL.refl _) (by intro hc; (try simp (etaStruct := .none) only [push_cast, DrawG, Int.cast_ofNat_Int, seval]); (try simp_all)) ?_
          (iterate 2 ((try simp (etaStruct := .none) only [push_cast, DrawG, Int.cast_ofNat_Int, seval, getD_in _ _ _ hlt, celP, getD_in _ _ _ hlt2, i64P]); (try simp (disch := omega) only [wrap_in, wk_self, tdv, tmd]); (repeat with_reducible refine obA ?_)))
          (try (refine ⟨by kernel_rfl, ?_⟩))
          (iterate 2 ((try simp (etaStruct := .none) only [push_cast, DrawG, Int.cast_ofNat_Int, seval, getD_in _ _ _ hlt, celP, getD_in _ _ _ hlt2, i64P]); (try simp (disch := omega) only [wrap_in, wk_self, tdv, tmd]); (repeat with_reducible refine obA ?_)))
          refine loopI (fun j : Nat => ⟨[(84, I .i64 j), (83, I .i64 k), (61, I .i64 k), (60, I .i64 w.bases.length), (5, I .i64 k), (4, B (((allN (baseB w) k && groundV w.f (w.bases.getD k default)) && within (w.stocks.getD k default) 0 1000000) && allN (fun j => !decide (w.bases.getD j default = w.bases.getD k default)) j)), (1, .ptr 0 0 0)], [(0, .blk 28 (wldC w))], 1⟩) (fun j : Nat => j ≤ k) (fun j : Nat => k - j) (0) (Nat.zero_le _) (To.mk [0] rfl rfl (by decide) ?_ ?_) ?_
          · simp (etaStruct := .none) only [push_cast, DrawG, Int.cast_ofNat_Int, seval]
          · simp (etaStruct := .none) only [push_cast, DrawG, Int.cast_ofNat_Int, seval, allN, Bool.and_true]
          rintro j hj
          (iterate 2 ((try simp (etaStruct := .none) only [push_cast, DrawG, Int.cast_ofNat_Int, seval, getD_in _ _ _ hlt, celP, getD_in _ _ _ hlt2, i64P]); (try simp (disch := omega) only [wrap_in, wk_self, tdv, tmd]); (repeat with_reducible refine obA ?_)))
          refine cond_i (fun h5 => ?_) (fun h5 => ?_)
          · (try simp only [xa, xb, xc, xd, xe, xf, xg, xh, xi, xj, Bool.not_true, Bool.not_false, xk, xl] at h5)
            have hltj : j < w.bases.length := by omega
            (iterate 2 ((try simp (etaStruct := .none) only [push_cast, DrawG, Int.cast_ofNat_Int, seval, getD_in _ _ _ hlt, celP, getD_in _ _ _ hlt2, i64P, getD_in _ _ _ hltj, cel_neq, cel_dec]); (try simp (disch := omega) only [wrap_in, wk_self, tdv, tmd]); (repeat with_reducible refine obA ?_)))
            (try (refine ⟨by kernel_rfl, ?_⟩))
            (iterate 2 ((try simp (etaStruct := .none) only [push_cast, DrawG, Int.cast_ofNat_Int, seval, getD_in _ _ _ hlt, celP, getD_in _ _ _ hlt2, i64P, getD_in _ _ _ hltj, cel_neq, cel_dec]); (try simp (disch := omega) only [wrap_in, wk_self, tdv, tmd]); (repeat with_reducible refine obA ?_)))
            refine ⟨j + 1, by omega, by omega, To.mk [0] rfl rfl (by decide) ?_ ?_⟩
            · (iterate 2 ((try simp (etaStruct := .none) only [push_cast, DrawG, Int.cast_ofNat_Int, seval, getD_in _ _ _ hlt, celP, getD_in _ _ _ hlt2, i64P, getD_in _ _ _ hltj, cel_neq, cel_dec]); (try simp (disch := omega) only [wrap_in, wk_self, tdv, tmd]); (repeat with_reducible refine obA ?_)))
            · (iterate 2 ((try simp (etaStruct := .none) only [push_cast, DrawG, Int.cast_ofNat_Int, seval, allN, ← Bool.and_assoc]); (try simp (disch := omega) only [wrap_in, wk_self, tdv, tmd]); (repeat with_reducible refine obA ?_)))
          · (try simp only [xa, xb, xc, xd, xe, xf, xg, xh, xi, xj, Bool.not_true, Bool.not_false, xk, xl] at h5)
            obtain rfl : k = j := by omega
            (iterate 2 ((try simp (etaStruct := .none) only [push_cast, DrawG, Int.cast_ofNat_Int, seval, getD_in _ _ _ hlt, celP, getD_in _ _ _ hlt2, i64P]); (try simp (disch := omega) only [wrap_in, wk_self, tdv, tmd]); (repeat with_reducible refine obA ?_)))
            refine ⟨k + 1, by omega, by omega, To.mk [0] rfl rfl (by decide) ?_ ?_⟩
            · (iterate 2 ((try simp (etaStruct := .none) only [push_cast, DrawG, Int.cast_ofNat_Int, seval, getD_in _ _ _ hlt, celP, getD_in _ _ _ hlt2, i64P]); (try simp (disch := omega) only [wrap_in, wk_self, tdv, tmd]); (repeat with_reducible refine obA ?_)))
            · (iterate 2 ((try simp (etaStruct := .none) only [push_cast, DrawG, Int.cast_ofNat_Int, seval, allN, baseB, ← Bool.and_assoc]); (try simp (disch := omega) only [wrap_in, wk_self, tdv, tmd]); (repeat with_reducible refine obA ?_)))
        · (try simp only [xa, xb, xc, xd, xe, xf, xg, xh, xi, xj, Bool.not_true, Bool.not_false, xk, xl] at h4)
          obtain rfl : k = w.bases.length := by omega
          (try simp (etaStruct := .none) only [push_cast, DrawG, Int.cast_ofNat_Int, seval]); (try simp (disch := omega) only [wrap_in, wk_self, tdv, tmd]); (repeat with_reducible refine obA ?_)
          refine loopI (fun k : Nat => ⟨[(106, I .i64 k), (105, I .i64 w.mines.length), (104, .c (.sl 1 (w.mines.map i64P))), (4, B (allN (baseB w) w.bases.length && allN (mineB w) k)), (1, .ptr 0 0 0)], [(0, .blk 28 (wldC w))], 1⟩) (fun k : Nat => k ≤ w.mines.length) (fun k : Nat => w.mines.length - k) (0) (Nat.zero_le _) (To.mk [0] rfl rfl (by decide) ?_ ?_) ?_
          · simp (etaStruct := .none) only [push_cast, DrawG, Int.cast_ofNat_Int, seval]
          · simp (etaStruct := .none) only [push_cast, DrawG, Int.cast_ofNat_Int, seval, allN, Bool.and_true]
          rintro k hk
          (try simp (etaStruct := .none) only [push_cast, DrawG, Int.cast_ofNat_Int, seval]); (try simp (disch := omega) only [wrap_in, wk_self, tdv, tmd]); (repeat with_reducible refine obA ?_)
          refine cond_i (fun h6 => ?_) (fun h6 => ?_)
          · (try simp only [xa, xb, xc, xd, xe, xf, xg, xh, xi, xj, Bool.not_true, Bool.not_false, xk, xl] at h6)
            have hlt : k < w.mines.length := by omega
            have hlt2 : k < w.f.p.length := by omega
            (iterate 2 ((try simp (etaStruct := .none) only [push_cast, DrawG, Int.cast_ofNat_Int, seval, getD_in _ _ _ hlt, getD_in _ _ _ hlt2, i64P]); (try simp (disch := omega) only [wrap_in, wk_self, tdv, tmd]); (repeat with_reducible refine obA ?_)))
            refine gcallP (fun hcc => between_s (w.mines.getD k default) 0 1000000) (WkL.refl _) (by intro hc; (try simp (etaStruct := .none) only [push_cast, DrawG, Int.cast_ofNat_Int, seval]); (try simp_all)) ?_
            (iterate 2 ((try simp (etaStruct := .none) only [push_cast, DrawG, Int.cast_ofNat_Int, seval, getD_in _ _ _ hlt, getD_in _ _ _ hlt2, i64P]); (try simp (disch := omega) only [wrap_in, wk_self, tdv, tmd]); (repeat with_reducible refine obA ?_)))
            refine ⟨k + 1, by omega, by omega, To.mk [0] rfl rfl (by decide) ?_ ?_⟩
            · (iterate 2 ((try simp (etaStruct := .none) only [push_cast, DrawG, Int.cast_ofNat_Int, seval, getD_in _ _ _ hlt, getD_in _ _ _ hlt2, i64P]); (try simp (disch := omega) only [wrap_in, wk_self, tdv, tmd]); (repeat with_reducible refine obA ?_)))
            · (iterate 2 ((try simp (etaStruct := .none) only [push_cast, DrawG, Int.cast_ofNat_Int, seval, allN, mineB, ← Bool.and_assoc]); (try simp (disch := omega) only [wrap_in, wk_self, tdv, tmd]); (repeat with_reducible refine obA ?_)))
          · (try simp only [xa, xb, xc, xd, xe, xf, xg, xh, xi, xj, Bool.not_true, Bool.not_false, xk, xl] at h6)
            obtain rfl : k = w.mines.length := by omega
            (try simp (etaStruct := .none) only [push_cast, DrawG, Int.cast_ofNat_Int, seval]); (try simp (disch := omega) only [wrap_in, wk_self, tdv, tmd]); (repeat with_reducible refine obA ?_)
            refine loopI (fun k : Nat => ⟨[(133, I .i64 k), (132, I .i64 w.troops.length), (131, .c (.sl 7 (w.troops.map trpP))), (4, B ((allN (baseB w) w.bases.length && allN (mineB w) w.mines.length) && allN (troopB w) k)), (1, .ptr 0 0 0)], [(0, .blk 28 (wldC w))], 1⟩) (fun k : Nat => k ≤ w.troops.length) (fun k : Nat => w.troops.length - k) (0) (Nat.zero_le _) (To.mk [0] rfl rfl (by decide) ?_ ?_) ?_
            · simp (etaStruct := .none) only [push_cast, DrawG, Int.cast_ofNat_Int, seval]
            · simp (etaStruct := .none) only [push_cast, DrawG, Int.cast_ofNat_Int, seval, allN, Bool.and_true]
            rintro k hk
            (try simp (etaStruct := .none) only [push_cast, DrawG, Int.cast_ofNat_Int, seval]); (try simp (disch := omega) only [wrap_in, wk_self, tdv, tmd]); (repeat with_reducible refine obA ?_)
            refine cond_i (fun h7 => ?_) (fun h7 => ?_)
            · (try simp only [xa, xb, xc, xd, xe, xf, xg, xh, xi, xj, Bool.not_true, Bool.not_false, xk, xl] at h7)
              have hlt : k < w.troops.length := by omega
              (iterate 2 ((try simp (etaStruct := .none) only [push_cast, DrawG, Int.cast_ofNat_Int, seval, getD_in _ _ _ hlt, trpP]); (try simp (disch := omega) only [wrap_in, wk_self, tdv, tmd]); (repeat with_reducible refine obA ?_)))
              refine callP (between_s (w.troops.getD k default).kind 1 2) (WkL.refl _) ?_
              (iterate 2 ((try simp (etaStruct := .none) only [push_cast, DrawG, Int.cast_ofNat_Int, seval, getD_in _ _ _ hlt, trpP]); (try simp (disch := omega) only [wrap_in, wk_self, tdv, tmd]); (repeat with_reducible refine obA ?_)))
              refine cond_i (fun h8 => ?_) (fun h8 => ?_)
              · (try simp only [xa, xb, xc, xd, xe, xf, xg, xh, xi, xj, Bool.not_true, Bool.not_false, xk, xl] at h8)
                have e : worldE w = 4 := worldE_bad hf hb (worldB_kind hlt (by simpa using h8))
                (iterate 2 ((try simp (etaStruct := .none) only [push_cast, DrawG, Int.cast_ofNat_Int, seval, getD_in _ _ _ hlt, trpP]); (try simp (disch := omega) only [wrap_in, wk_self, tdv, tmd]); (repeat with_reducible refine obA ?_)))
                (first | (refine retA rfl (Wk.of ?_); (try simp (etaStruct := .none) only [push_cast, DrawG, Int.cast_ofNat_Int, seval]); first | done | (simp [e, *]; done) | (simp_all [e]; done)) | (refine retA rfl ?_; (try simp (etaStruct := .none) only [push_cast, DrawG, Int.cast_ofNat_Int, seval]); (try simp [e, *]); (try exact wkc)))
              · (try simp only [xa, xb, xc, xd, xe, xf, xg, xh, xi, xj, Bool.not_true, Bool.not_false, xk, xl] at h8)
                have hkd0 : within (w.troops.getD k default).kind 1 2 = true := by simpa using h8
                have hkd := within_iff.1 hkd0
                have lk : (List.take k (List.map trpP w.troops)).length = k := by rw [List.length_take, List.length_map]; omega
                have hkd2 : (w.troops.getD k default).kind = 1 ∨ (w.troops.getD k default).kind = 2 := by omega
                (iterate 2 ((try simp (etaStruct := .none) only [push_cast, DrawG, Int.cast_ofNat_Int, seval, getD_in _ _ _ hlt, trpP]); (try simp (disch := omega) only [wrap_in, wk_self, tdv, tmd]); (repeat with_reducible refine obA ?_)))
                refine gcallP (fun hcc => between_s (w.troops.getD k default).id 1 (w.next - 1)) (WkL.refl _) (by intro hc; (try simp (etaStruct := .none) only [push_cast, DrawG, Int.cast_ofNat_Int, seval]); (try simp_all)) ?_
                (iterate 2 ((try simp (etaStruct := .none) only [push_cast, DrawG, Int.cast_ofNat_Int, seval, getD_in _ _ _ hlt, trpP]); (try simp (disch := omega) only [wrap_in, wk_self, tdv, tmd]); (repeat with_reducible refine obA ?_)))
                refine gcallP (fun hcc => between_s (w.troops.getD k default).owner 0 ((w.bases.length : Int) - 1)) (WkL.refl _) (by intro hc; (try simp (etaStruct := .none) only [push_cast, DrawG, Int.cast_ofNat_Int, seval]); (try simp_all)) ?_
                (iterate 2 ((try simp (etaStruct := .none) only [push_cast, DrawG, Int.cast_ofNat_Int, seval, getD_in _ _ _ hlt, trpP]); (try simp (disch := omega) only [wrap_in, wk_self, tdv, tmd]); (repeat with_reducible refine obA ?_)))
                refine gcallP (fun hcc => ground_s w.f (w.troops.getD k default).c hf) (WkL.refl _) (by intro hc; (try simp (etaStruct := .none) only [push_cast, DrawG, Int.cast_ofNat_Int, seval]); (try simp_all)) ?_
                (iterate 2 ((try simp (etaStruct := .none) only [push_cast, DrawG, Int.cast_ofNat_Int, seval, getD_in _ _ _ hlt, trpP]); (try simp (disch := omega) only [wrap_in, wk_self, tdv, tmd]); (repeat with_reducible refine obA ?_)))
                refine gcallP (fun hcc => kindOf_s (w.troops.getD k default).kind hkd2) (WkL.refl _) (by intro hc; (try simp (etaStruct := .none) only [push_cast, DrawG, Int.cast_ofNat_Int, seval]); (try simp_all)) ?_
                (iterate 2 ((try simp (etaStruct := .none) only [push_cast, DrawG, Int.cast_ofNat_Int, seval, getD_in _ _ _ hlt, trpP]); (try simp (disch := omega) only [wrap_in, wk_self, tdv, tmd]); (repeat with_reducible refine obA ?_)))
                refine gcallP (fun hcc => between_s (w.troops.getD k default).life 1 (kindV (w.troops.getD k default).kind).life) (WkL.refl _) (by intro hc; (try simp (etaStruct := .none) only [push_cast, DrawG, Int.cast_ofNat_Int, seval]); (try simp_all)) ?_
                (iterate 2 ((try simp (etaStruct := .none) only [push_cast, DrawG, Int.cast_ofNat_Int, seval, getD_in _ _ _ hlt, trpP]); (try simp (disch := omega) only [wrap_in, wk_self, tdv, tmd]); (repeat with_reducible refine obA ?_)))
                refine gcallP (fun hcc => between_s (w.troops.getD k default).load 0 (5 * (2 - (w.troops.getD k default).kind))) (WkL.refl _) (by intro hc; (try simp (etaStruct := .none) only [push_cast, DrawG, Int.cast_ofNat_Int, seval]); (try simp_all)) ?_
                (iterate 2 ((try simp (etaStruct := .none) only [push_cast, DrawG, Int.cast_ofNat_Int, seval, getD_in _ _ _ hlt, trpP]); (try simp (disch := omega) only [wrap_in, wk_self, tdv, tmd]); (repeat with_reducible refine obA ?_)))
                (try (refine ⟨by kernel_rfl, ?_⟩))
                (iterate 2 ((try simp (etaStruct := .none) only [push_cast, DrawG, Int.cast_ofNat_Int, seval, getD_in _ _ _ hlt, trpP]); (try simp (disch := omega) only [wrap_in, wk_self, tdv, tmd]); (repeat with_reducible refine obA ?_)))
                refine loopI (fun j : Nat => ⟨[(190, I .i64 j), (189, I .i64 k), (188, .c (.sl 7 ((w.troops.map trpP).take k))), (133, I .i64 k), (132, I .i64 w.troops.length), (131, .c (.sl 7 (w.troops.map trpP))), (10, .ptr 1 0 0), (4, B (((allN (baseB w) w.bases.length && allN (mineB w) w.mines.length) && (allN (troopB w) k && trp1 w (w.troops.getD k default))) && allN (fun j => decide ((w.troops.getD j default).id < (w.troops.getD k default).id) && !decide ((w.troops.getD j default).c = (w.troops.getD k default).c)) j)), (1, .ptr 0 0 0)], [(0, .blk 28 (wldC w)), (1, .blk 89 (trpC (w.troops.getD k default)))], 2⟩) (fun j : Nat => j ≤ k) (fun j : Nat => k - j) (0) (Nat.zero_le _) (To.mk [0, 1] rfl rfl (by decide) ?_ ?_) ?_
                · simp (etaStruct := .none) only [push_cast, DrawG, Int.cast_ofNat_Int, seval]
                · simp (etaStruct := .none) only [push_cast, DrawG, Int.cast_ofNat_Int, seval, allN, lk, trp1, Bool.and_true, ← Bool.and_assoc]
                rintro j hj
                (iterate 2 ((try simp (etaStruct := .none) only [push_cast, DrawG, Int.cast_ofNat_Int, seval, getD_in _ _ _ hlt, trpP]); (try simp (disch := omega) only [wrap_in, wk_self, tdv, tmd]); (repeat with_reducible refine obA ?_)))
                refine cond_i (fun h9 => ?_) (fun h9 => ?_)
                · (try simp only [xa, xb, xc, xd, xe, xf, xg, xh, xi, xj, Bool.not_true, Bool.not_false, xk, xl] at h9)
                  have hltj : j < w.troops.length := by omega
                  have hltk : j < (w.troops.take k).length := by rw [List.length_take]; omega
                  have et : (w.troops.map trpP).take k = (w.troops.take k).map trpP := by rw [List.map_take]
                  have eg : (w.troops.take k).getD j default = w.troops.getD j default := by simp [List.getD_eq_getElem?_getD, List.getElem?_take, show j < k by omega]
                  (iterate 2 ((try simp (etaStruct := .none) only [push_cast, DrawG, Int.cast_ofNat_Int, seval, getD_in _ _ _ hlt, trpP, et, getD_in _ _ _ hltk, eg, trpP, cel_neq, cel_dec]); (try simp (disch := omega) only [wrap_in, wk_self, tdv, tmd]); (repeat with_reducible refine obA ?_)))
                  refine ⟨j + 1, by omega, by omega, To.mk [0, 1] rfl rfl (by decide) ?_ ?_⟩
                  · (iterate 2 ((try simp (etaStruct := .none) only [push_cast, DrawG, Int.cast_ofNat_Int, seval, getD_in _ _ _ hlt, trpP, et, getD_in _ _ _ hltk, eg, trpP, cel_neq, cel_dec]); (try simp (disch := omega) only [wrap_in, wk_self, tdv, tmd]); (repeat with_reducible refine obA ?_)))
                  · (iterate 2 ((try simp (etaStruct := .none) only [push_cast, DrawG, Int.cast_ofNat_Int, seval, allN, ← Bool.and_assoc]); (try simp (disch := omega) only [wrap_in, wk_self, tdv, tmd]); (repeat with_reducible refine obA ?_)))
                · (try simp only [xa, xb, xc, xd, xe, xf, xg, xh, xi, xj, Bool.not_true, Bool.not_false, xk, xl] at h9)
                  obtain rfl : k = j := by omega
                  (iterate 2 ((try simp (etaStruct := .none) only [push_cast, DrawG, Int.cast_ofNat_Int, seval, getD_in _ _ _ hlt, trpP]); (try simp (disch := omega) only [wrap_in, wk_self, tdv, tmd]); (repeat with_reducible refine obA ?_)))
                  refine ⟨k + 1, by omega, by omega, To.mk [0] rfl rfl (by decide) ?_ ?_⟩
                  · (iterate 2 ((try simp (etaStruct := .none) only [push_cast, DrawG, Int.cast_ofNat_Int, seval, getD_in _ _ _ hlt, trpP]); (try simp (disch := omega) only [wrap_in, wk_self, tdv, tmd]); (repeat with_reducible refine obA ?_)))
                  · (iterate 2 ((try simp (etaStruct := .none) only [push_cast, DrawG, Int.cast_ofNat_Int, seval, allN, troopB, trp2, hkd0, Bool.true_and, ← Bool.and_assoc]); (try simp (disch := omega) only [wrap_in, wk_self, tdv, tmd]); (repeat with_reducible refine obA ?_)))
            · (try simp only [xa, xb, xc, xd, xe, xf, xg, xh, xi, xj, Bool.not_true, Bool.not_false, xk, xl] at h7)
              obtain rfl : k = w.troops.length := by omega
              (try simp (etaStruct := .none) only [push_cast, DrawG, Int.cast_ofNat_Int, seval]); (try simp (disch := omega) only [wrap_in, wk_self, tdv, tmd]); (repeat with_reducible refine obA ?_)
              refine cond_i (fun h10 => ?_) (fun h10 => ?_)
              · (try simp only [xa, xb, xc, xd, xe, xf, xg, xh, xi, xj, Bool.not_true, Bool.not_false, xk, xl] at h10)
                have e : worldE w = 4 := worldE_bad hf hb (by unfold worldB; simpa only [Bool.and_eq_false_iff] using h10)
                (try simp (etaStruct := .none) only [push_cast, DrawG, Int.cast_ofNat_Int, seval]); (try simp (disch := omega) only [wrap_in, wk_self, tdv, tmd]); (repeat with_reducible refine obA ?_)
                (first | (refine retA rfl (Wk.of ?_); (try simp (etaStruct := .none) only [push_cast, DrawG, Int.cast_ofNat_Int, seval]); first | done | (simp [e, *]; done) | (simp_all [e]; done)) | (refine retA rfl ?_; (try simp (etaStruct := .none) only [push_cast, DrawG, Int.cast_ofNat_Int, seval]); (try simp [e, *]); (try exact wkc)))
              · (try simp only [xa, xb, xc, xd, xe, xf, xg, xh, xi, xj, Bool.not_true, Bool.not_false, xk, xl] at h10)
                have e : worldE w = 0 := worldE_fine hf hb hwf (by unfold worldB; simpa using h10)
                (try simp (etaStruct := .none) only [push_cast, DrawG, Int.cast_ofNat_Int, seval]); (try simp (disch := omega) only [wrap_in, wk_self, tdv, tmd]); (repeat with_reducible refine obA ?_)
                (first | (refine retA rfl (Wk.of ?_); (try simp (etaStruct := .none) only [push_cast, DrawG, Int.cast_ofNat_Int, seval]); first | done | (simp [e, *]; done) | (simp_all [e]; done)) | (refine retA rfl ?_; (try simp (etaStruct := .none) only [push_cast, DrawG, Int.cast_ofNat_Int, seval]); (try simp [e, *]); (try exact wkc)))
end Go.Proofs.YthiddmncjafklaaGreat
namespace Go.Proofs.YthiddmncjafklaaGreat
set_option linter.all false
open Go.RowKit
set_option maxRecDepth 100000
set_option maxHeartbeats 1000000
theorem cel_index (l : List Cel) (v : Cel) (hl : l.length ≤ 9223372036854775807) : Spec Tryz.prog 157 [.c (.sl 2 (l.map celP)), celA v] [] (I .i64 (ixOf (fun x => decide (v = x)) l)) [] := by
  refine spec_am Tryz.func157 rfl rfl mix 19 rfl [.tmp 4] Tryz.results157 (Nat.le_of_ble_eq_true rfl) ?_
  (try simp (etaStruct := .none) only [push_cast, DrawG, Int.cast_ofNat_Int, seval]); (try simp (disch := omega) only [wrap_in, wk_self, tdv, tmd]); (repeat with_reducible refine obA ?_)
  refine loopI (fun k : Nat => ⟨[(8, I .i64 k), (7, I .i64 l.length), (3, .ptr 0 0 0), (0, .c (.sl 2 (l.map celP)))], [(0, .blk 85 [I .i64 v.x, I .i64 v.y])], 1⟩) (fun k : Nat => k ≤ l.length ∧ ∀ j (hj : j < l.length), j < k → decide (v = l[j]) = false) (fun k : Nat => l.length - k) (0) (⟨Nat.zero_le _, fun j _ h => by omega⟩) (To.mk [0] rfl rfl (by decide) ?_ ?_) ?_
  · simp (etaStruct := .none) only [push_cast, DrawG, Int.cast_ofNat_Int, seval]
  · simp (etaStruct := .none) only [push_cast, DrawG, Int.cast_ofNat_Int, seval]
  rintro k ⟨hk, hn⟩
  (try simp (etaStruct := .none) only [push_cast, DrawG, Int.cast_ofNat_Int, seval]); (try simp (disch := omega) only [wrap_in, wk_self, tdv, tmd]); (repeat with_reducible refine obA ?_)
  refine cond_i (fun h1 => ?_) (fun h1 => ?_)
  · (try simp only [xa, xb, xc, xd, xe, xf, xg, xh, xi, xj, Bool.not_true, Bool.not_false, xk, xl] at h1)
    have hlt : k < l.length := by omega
    (iterate 2 ((try simp (etaStruct := .none) only [push_cast, DrawG, Int.cast_ofNat_Int, seval, getD_in _ _ _ hlt, celP, cel_dec]); (try simp (disch := omega) only [wrap_in, wk_self, tdv, tmd]); (repeat with_reducible refine obA ?_)))
    (try (refine ⟨by kernel_rfl, ?_⟩))
    (iterate 2 ((try simp (etaStruct := .none) only [push_cast, DrawG, Int.cast_ofNat_Int, seval, getD_in _ _ _ hlt, celP, cel_dec]); (try simp (disch := omega) only [wrap_in, wk_self, tdv, tmd]); (repeat with_reducible refine obA ?_)))
    refine cond_i (fun h2 => ?_) (fun h2 => ?_)
    · (try simp only [xa, xb, xc, xd, xe, xf, xg, xh, xi, xj, Bool.not_true, Bool.not_false, xk, xl] at h2)
      (iterate 2 ((try simp (etaStruct := .none) only [push_cast, DrawG, Int.cast_ofNat_Int, seval, getD_in _ _ _ hlt, celP, cel_dec]); (try simp (disch := omega) only [wrap_in, wk_self, tdv, tmd]); (repeat with_reducible refine obA ?_)))
      exact ret0 rfl trivial (Wk.of (by rw [ixOf_hit (fun x => decide (v = x)) l k hlt (by rw [← getD_at _ _ hlt]; simpa using h2) hn]; rfl))
    · (try simp only [xa, xb, xc, xd, xe, xf, xg, xh, xi, xj, Bool.not_true, Bool.not_false, xk, xl] at h2)
      (iterate 2 ((try simp (etaStruct := .none) only [push_cast, DrawG, Int.cast_ofNat_Int, seval, getD_in _ _ _ hlt, celP, cel_dec]); (try simp (disch := omega) only [wrap_in, wk_self, tdv, tmd]); (repeat with_reducible refine obA ?_)))
      refine ⟨k + 1, ⟨by omega, fun j hj hjk => by
  rcases Nat.lt_or_ge j k with h | h
  · simpa using hn j hj h
  · obtain rfl : j = k := by omega
    rw [← getD_at _ _ hj]; simpa using h2⟩, by omega, To.mk [0] rfl rfl (by decide) ?_ ?_⟩
      · (iterate 2 ((try simp (etaStruct := .none) only [push_cast, DrawG, Int.cast_ofNat_Int, seval, getD_in _ _ _ hlt, celP, cel_dec]); (try simp (disch := omega) only [wrap_in, wk_self, tdv, tmd]); (repeat with_reducible refine obA ?_)))
      · (iterate 2 ((try simp (etaStruct := .none) only [push_cast, DrawG, Int.cast_ofNat_Int, seval, getD_in _ _ _ hlt, celP, cel_dec]); (try simp (disch := omega) only [wrap_in, wk_self, tdv, tmd]); (repeat with_reducible refine obA ?_)))
  · (try simp only [xa, xb, xc, xd, xe, xf, xg, xh, xi, xj, Bool.not_true, Bool.not_false, xk, xl] at h1)
    (try simp (etaStruct := .none) only [push_cast, DrawG, Int.cast_ofNat_Int, seval]); (try simp (disch := omega) only [wrap_in, wk_self, tdv, tmd]); (repeat with_reducible refine obA ?_)
    exact ret0 rfl trivial (Wk.of (by rw [ixOf_miss (fun x => decide (v = x)) l (fun j hj => hn j hj (by omega))]; rfl))
theorem cel_contains (l : List Cel) (v : Cel) (hl : l.length ≤ 9223372036854775807) : Spec Tryz.prog 130 [.c (.sl 2 (l.map celP)), celA v] [] (B (l.any (fun x => decide (v = x)))) [] := by
  refine spec_am Tryz.func130 rfl rfl mix 9 rfl [.tmp 4] Tryz.results130 (Nat.le_of_ble_eq_true rfl) ?_
  (iterate 2 ((try simp (etaStruct := .none) only [push_cast, DrawG, Int.cast_ofNat_Int, seval, ixOf_any]); (try simp (disch := omega) only [wrap_in, wk_self, tdv, tmd]); (repeat with_reducible refine obA ?_)))
  refine callP (cel_index l v hl) (WkL.refl _) ?_
  (iterate 2 ((try simp (etaStruct := .none) only [push_cast, DrawG, Int.cast_ofNat_Int, seval, ixOf_any]); (try simp (disch := omega) only [wrap_in, wk_self, tdv, tmd]); (repeat with_reducible refine obA ?_)))
  (first | (refine retA rfl (Wk.of ?_); (try simp (etaStruct := .none) only [push_cast, DrawG, Int.cast_ofNat_Int, seval]); first | done | (simp [*]; done) | (simp_all []; done)) | (refine retA rfl ?_; (try simp (etaStruct := .none) only [push_cast, DrawG, Int.cast_ofNat_Int, seval]); (try simp [*]); (try exact wkc)))
theorem tground_s (f : Fld) (c : Cel) (h : fldE f = 0) (hl : f.p.length ≤ 9223372036854775807) : Spec Tryz.prog 129 [fldA f, celA c] [] (B (groundV f c)) [] := by
  refine spec_am Tryz.func129 rfl rfl mix 19 rfl [.tmp 4] Tryz.results129 (Nat.le_of_ble_eq_true rfl) ?_
  (try simp (etaStruct := .none) only [push_cast, DrawG, Int.cast_ofNat_Int, seval]); (try simp (disch := omega) only [wrap_in, wk_self, tdv, tmd]); (repeat with_reducible refine obA ?_)
  refine callP (at_s f c hl) (WkL.refl _) ?_
  (try simp (etaStruct := .none) only [push_cast, DrawG, Int.cast_ofNat_Int, seval]); (try simp (disch := omega) only [wrap_in, wk_self, tdv, tmd]); (repeat with_reducible refine obA ?_)
  exact ret0 rfl trivial (Wk.of (congrArg B (by unfold atV groundV; rw [if_neg (by simp [h])]; cases inF f c <;> simp)))
theorem twithin_s (n a b : Int) : Spec Tryz.prog 131 [I .i64 n, I .i64 a, I .i64 b] [] (B (within n a b)) [] := by
  refine spec_am Tryz.func131 rfl rfl mix 15 rfl [.tmp 6] Tryz.results131 (Nat.le_of_ble_eq_true rfl) ?_
  (try simp (etaStruct := .none) only [push_cast, DrawG, Int.cast_ofNat_Int, seval]); (try simp (disch := omega) only [wrap_in, wk_self, tdv, tmd]); (repeat with_reducible refine obA ?_)
  exact ret0 rfl trivial (Wk.of (congrArg B (by unfold within; first | rfl | simp)))
def kindE (k : Int) : Int := if k = 1 ∨ k = 2 then 0 else 1
theorem tkind_s (k : Int) : Spec Tryz.prog 86 [I .i64 k] [] (.tup [kndA (kindV k), I .i64 (kindE k)]) [] := by
  refine spec_am Tryz.func86 rfl rfl mix 12 rfl [.cell 2 105, .tmp 3] Tryz.results86 (Nat.le_of_ble_eq_true rfl) ?_
  (try simp (etaStruct := .none) only [push_cast, DrawG, Int.cast_ofNat_Int, seval]); (try simp (disch := omega) only [wrap_in, wk_self, tdv, tmd]); (repeat with_reducible refine obA ?_)
  refine cond_i (fun h1 => ?_) (fun h1 => ?_)
  · (try simp only [xa, xb, xc, xd, xe, xf, xg, xh, xi, xj, Bool.not_true, Bool.not_false, xk, xl] at h1)
    (try simp (etaStruct := .none) only [push_cast, DrawG, Int.cast_ofNat_Int, seval]); (try simp (disch := omega) only [wrap_in, wk_self, tdv, tmd]); (repeat with_reducible refine obA ?_)
    (first | (refine retA rfl (Wk.of ?_); (try simp (etaStruct := .none) only [push_cast, DrawG, Int.cast_ofNat_Int, seval]); first | done | (simp [kindV, kindE, *]; done) | (simp_all [kindV, kindE]; done)) | (refine retA rfl ?_; (try simp (etaStruct := .none) only [push_cast, DrawG, Int.cast_ofNat_Int, seval]); (try simp [kindV, kindE, *]); (try exact wkc)))
  · (try simp only [xa, xb, xc, xd, xe, xf, xg, xh, xi, xj, Bool.not_true, Bool.not_false, xk, xl] at h1)
    (try simp (etaStruct := .none) only [push_cast, DrawG, Int.cast_ofNat_Int, seval]); (try simp (disch := omega) only [wrap_in, wk_self, tdv, tmd]); (repeat with_reducible refine obA ?_)
    refine cond_i (fun h2 => ?_) (fun h2 => ?_)
    · (try simp only [xa, xb, xc, xd, xe, xf, xg, xh, xi, xj, Bool.not_true, Bool.not_false, xk, xl] at h2)
      (try simp (etaStruct := .none) only [push_cast, DrawG, Int.cast_ofNat_Int, seval]); (try simp (disch := omega) only [wrap_in, wk_self, tdv, tmd]); (repeat with_reducible refine obA ?_)
      (first | (refine retA rfl (Wk.of ?_); (try simp (etaStruct := .none) only [push_cast, DrawG, Int.cast_ofNat_Int, seval]); first | done | (simp [kindV, kindE, *]; done) | (simp_all [kindV, kindE]; done)) | (refine retA rfl ?_; (try simp (etaStruct := .none) only [push_cast, DrawG, Int.cast_ofNat_Int, seval]); (try simp [kindV, kindE, *]); (try exact wkc)))
    · (try simp only [xa, xb, xc, xd, xe, xf, xg, xh, xi, xj, Bool.not_true, Bool.not_false, xk, xl] at h2)
      (try simp (etaStruct := .none) only [push_cast, DrawG, Int.cast_ofNat_Int, seval]); (try simp (disch := omega) only [wrap_in, wk_self, tdv, tmd]); (repeat with_reducible refine obA ?_)
      (first | (refine retA rfl (Wk.of ?_); (try simp (etaStruct := .none) only [push_cast, DrawG, Int.cast_ofNat_Int, seval]); first | done | (simp [kindV, kindE, *]; done) | (simp_all [kindV, kindE]; done)) | (refine retA rfl ?_; (try simp (etaStruct := .none) only [push_cast, DrawG, Int.cast_ofNat_Int, seval]); (try simp [kindV, kindE, *]); (try exact wkc)))
theorem base_any (w : Wld) (i : Nat) (hi : i < w.bases.length) : ((w.bases.take i).any fun x => decide (w.bases.getD i default = x)) = !allN (fun j => !decide (w.bases.getD j default = w.bases.getD i default)) i := by
  rw [Bool.eq_iff_iff, Bool.not_eq_true', ← Bool.not_eq_true, allN_iff, List.any_eq_true]
  constructor
  · rintro ⟨x, hx, h⟩ hh
    obtain ⟨j, hj, rfl⟩ := List.getElem_of_mem hx
    rw [List.length_take] at hj
    have := hh j (by omega)
    rw [List.getElem_take] at h
    rw [getD_at _ _ (by omega)] at this
    simp only [decide_eq_true_eq] at h
    simp only [Bool.not_eq_true', decide_eq_false_iff_not] at this
    exact this h.symm
  · intro hh
    apply Classical.byContradiction
    intro hn
    apply hh
    intro j hj
    simp only [Bool.not_eq_true', decide_eq_false_iff_not]
    intro he
    apply hn
    refine ⟨w.bases.getD j default, ?_, decide_eq_true he.symm⟩
    rw [getD_at _ _ (by omega)]
    exact List.mem_take_iff_getElem.2 ⟨j, by omega, rfl⟩
def playersV (w : Wld) : Bool := decide (w.stocks.length = w.bases.length) && allN (baseB w) w.bases.length
def minesV (w : Wld) : Bool := decide (w.mines.length = w.f.p.length) && allN (mineB w) w.mines.length
def troopsV (w : Wld) : Bool := within w.next 1 1000000 && within w.now 0 1000000 && allN (troopB w) w.troops.length
theorem ptm (w : Wld) : (playersV w && minesV w && troopsV w) = (worldF w && worldB w) := by
  unfold playersV minesV troopsV worldF worldB
  cases decide (w.stocks.length = w.bases.length) <;> cases decide (w.mines.length = w.f.p.length) <;> cases within w.next 1 1000000 <;> cases within w.now 0 1000000 <;> simp
theorem allN_not {p : Nat → Bool} {n k : Nat} (h : k < n) (hp : p k = false) : allN p n = false := by
  rw [← Bool.not_eq_true, allN_iff]; intro hh
  have := hh k h
  rw [hp] at this; simp at this
theorem tplayers_s (w : Wld) (hl : wldL w) (hf : fldE w.f = 0) : Spec Tryz.prog 82 [wldA w] [] (B (playersV w)) [] := by
  obtain ⟨l1, l2, l3, l4, l5⟩ := hl
  refine spec_am Tryz.func82 rfl rfl mix 43 rfl [.tmp 2] Tryz.results82 (Nat.le_of_ble_eq_true rfl) ?_
  (try simp (etaStruct := .none) only [push_cast, DrawG, Int.cast_ofNat_Int, seval]); (try simp (disch := omega) only [wrap_in, wk_self, tdv, tmd]); (repeat with_reducible refine obA ?_)
  refine cond_i (fun h1 => ?_) (fun h1 => ?_)
  · (try simp only [xa, xb, xc, xd, xe, xf, xg, xh, xi, xj, Bool.not_true, Bool.not_false, xk, xl] at h1)
    have e : playersV w = false := by unfold playersV; rw [decide_eq_false (by omega)]; rfl
    (try simp (etaStruct := .none) only [push_cast, DrawG, Int.cast_ofNat_Int, seval]); (try simp (disch := omega) only [wrap_in, wk_self, tdv, tmd]); (repeat with_reducible refine obA ?_)
    (first | (refine retA rfl (Wk.of ?_); (try simp (etaStruct := .none) only [push_cast, DrawG, Int.cast_ofNat_Int, seval]); first | done | (simp [e, *]; done) | (simp_all [e]; done)) | (refine retA rfl ?_; (try simp (etaStruct := .none) only [push_cast, DrawG, Int.cast_ofNat_Int, seval]); (try simp [e, *]); (try exact wkc)))
  · (try simp only [xa, xb, xc, xd, xe, xf, xg, xh, xi, xj, Bool.not_true, Bool.not_false, xk, xl] at h1)
    have hls : w.stocks.length = w.bases.length := by omega
    (try simp (etaStruct := .none) only [push_cast, DrawG, Int.cast_ofNat_Int, seval]); (try simp (disch := omega) only [wrap_in, wk_self, tdv, tmd]); (repeat with_reducible refine obA ?_)
    refine loopI (fun k : Nat => ⟨[(15, I .i64 k), (14, I .i64 w.bases.length), (13, .c (.sl 2 (w.bases.map celP))), (1, .ptr 0 0 0)], [(0, .blk 28 (wldC w))], 1⟩) (fun k : Nat => k ≤ w.bases.length ∧ allN (baseB w) k = true) (fun k : Nat => w.bases.length - k) (0) (⟨Nat.zero_le _, rfl⟩) (To.mk [0] rfl rfl (by decide) ?_ ?_) ?_
    · simp (etaStruct := .none) only [push_cast, DrawG, Int.cast_ofNat_Int, seval]
    · simp (etaStruct := .none) only [push_cast, DrawG, Int.cast_ofNat_Int, seval]
    rintro k ⟨hk, hn⟩
    (try simp (etaStruct := .none) only [push_cast, DrawG, Int.cast_ofNat_Int, seval]); (try simp (disch := omega) only [wrap_in, wk_self, tdv, tmd]); (repeat with_reducible refine obA ?_)
    refine cond_i (fun h2 => ?_) (fun h2 => ?_)
    · (try simp only [xa, xb, xc, xd, xe, xf, xg, xh, xi, xj, Bool.not_true, Bool.not_false, xk, xl] at h2)
      have hlt : k < w.bases.length := by omega
      have hlt2 : k < w.stocks.length := by omega
      have et : (w.bases.map celP).take k = (w.bases.take k).map celP := by rw [List.map_take]
      have ba := base_any w k hlt
      (iterate 2 ((try simp (etaStruct := .none) only [push_cast, DrawG, Int.cast_ofNat_Int, seval, getD_in _ _ _ hlt, celP, getD_in _ _ _ hlt2, i64P, et]); (try simp (disch := omega) only [wrap_in, wk_self, tdv, tmd]); (repeat with_reducible refine obA ?_)))
      refine callP (tground_s w.f (w.bases.getD k default) hf l1) (WkL.refl _) ?_
      (iterate 2 ((try simp (etaStruct := .none) only [push_cast, DrawG, Int.cast_ofNat_Int, seval, getD_in _ _ _ hlt, celP, getD_in _ _ _ hlt2, i64P, et]); (try simp (disch := omega) only [wrap_in, wk_self, tdv, tmd]); (repeat with_reducible refine obA ?_)))
      refine gcallP (fun hcc => cel_contains (w.bases.take k) (w.bases.getD k default) (by rw [List.length_take]; omega)) (WkL.refl _) (by intro hc; (try simp (etaStruct := .none) only [push_cast, DrawG, Int.cast_ofNat_Int, seval]); (try simp_all)) ?_
      (iterate 2 ((try simp (etaStruct := .none) only [push_cast, DrawG, Int.cast_ofNat_Int, seval, getD_in _ _ _ hlt, celP, getD_in _ _ _ hlt2, i64P, et]); (try simp (disch := omega) only [wrap_in, wk_self, tdv, tmd]); (repeat with_reducible refine obA ?_)))
      refine gcallP (fun hcc => twithin_s (w.stocks.getD k default) 0 1000000) (WkL.refl _) (by intro hc; (try simp (etaStruct := .none) only [push_cast, DrawG, Int.cast_ofNat_Int, seval]); (try simp_all)) ?_
      (iterate 2 ((try simp (etaStruct := .none) only [push_cast, DrawG, Int.cast_ofNat_Int, seval, getD_in _ _ _ hlt, celP, getD_in _ _ _ hlt2, i64P, et]); (try simp (disch := omega) only [wrap_in, wk_self, tdv, tmd]); (repeat with_reducible refine obA ?_)))
      (try (refine ⟨by kernel_rfl, ?_⟩))
      (iterate 2 ((try simp (etaStruct := .none) only [push_cast, DrawG, Int.cast_ofNat_Int, seval, getD_in _ _ _ hlt, celP, getD_in _ _ _ hlt2, i64P, et]); (try simp (disch := omega) only [wrap_in, wk_self, tdv, tmd]); (repeat with_reducible refine obA ?_)))
      refine cond_i (fun h3 => ?_) (fun h3 => ?_)
      · (try simp only [xa, xb, xc, xd, xe, xf, xg, xh, xi, xj, Bool.not_true, Bool.not_false, xk, xl] at h3)
        have e0 : baseB w k = false := by
          unfold baseB
          rw [ba] at h3
          rcases h3 with (h | h) | h
          · rw [h]; rfl
          · have h' : allN (fun j => !decide (w.bases.getD j default = w.bases.getD k default)) k = false := by simpa using h
            rw [h']; simp
          · rw [h]; simp
        have e : playersV w = false := by unfold playersV; rw [allN_not hlt e0]; simp
        (iterate 2 ((try simp (etaStruct := .none) only [push_cast, DrawG, Int.cast_ofNat_Int, seval, getD_in _ _ _ hlt, celP, getD_in _ _ _ hlt2, i64P, et]); (try simp (disch := omega) only [wrap_in, wk_self, tdv, tmd]); (repeat with_reducible refine obA ?_)))
        (first | (refine retA rfl (Wk.of ?_); (try simp (etaStruct := .none) only [push_cast, DrawG, Int.cast_ofNat_Int, seval]); first | done | (simp [e, *]; done) | (simp_all [e]; done)) | (refine retA rfl ?_; (try simp (etaStruct := .none) only [push_cast, DrawG, Int.cast_ofNat_Int, seval]); (try simp [e, *]); (try exact wkc)))
      · (try simp only [xa, xb, xc, xd, xe, xf, xg, xh, xi, xj, Bool.not_true, Bool.not_false, xk, xl] at h3)
        have e0 : baseB w k = true := by
          unfold baseB
          rw [ba] at h3
          rw [h3.1.1, h3.2]
          simpa using h3.1.2
        (iterate 2 ((try simp (etaStruct := .none) only [push_cast, DrawG, Int.cast_ofNat_Int, seval, getD_in _ _ _ hlt, celP, getD_in _ _ _ hlt2, i64P, et]); (try simp (disch := omega) only [wrap_in, wk_self, tdv, tmd]); (repeat with_reducible refine obA ?_)))
        refine ⟨k + 1, ⟨by omega, by rw [allN, hn, e0]; rfl⟩, by omega, To.mk [0] rfl rfl (by decide) ?_ ?_⟩
        · (iterate 2 ((try simp (etaStruct := .none) only [push_cast, DrawG, Int.cast_ofNat_Int, seval, getD_in _ _ _ hlt, celP, getD_in _ _ _ hlt2, i64P, et]); (try simp (disch := omega) only [wrap_in, wk_self, tdv, tmd]); (repeat with_reducible refine obA ?_)))
        · (iterate 2 ((try simp (etaStruct := .none) only [push_cast, DrawG, Int.cast_ofNat_Int, seval, getD_in _ _ _ hlt, celP, getD_in _ _ _ hlt2, i64P, et]); (try simp (disch := omega) only [wrap_in, wk_self, tdv, tmd]); (repeat with_reducible refine obA ?_)))
    · (try simp only [xa, xb, xc, xd, xe, xf, xg, xh, xi, xj, Bool.not_true, Bool.not_false, xk, xl] at h2)
      obtain rfl : k = w.bases.length := by omega
      have e : playersV w = true := by unfold playersV; rw [decide_eq_true hls, hn]; rfl
      (try simp (etaStruct := .none) only [push_cast, DrawG, Int.cast_ofNat_Int, seval]); (try simp (disch := omega) only [wrap_in, wk_self, tdv, tmd]); (repeat with_reducible refine obA ?_)
      (first | (refine retA rfl (Wk.of ?_); (try simp (etaStruct := .none) only [push_cast, DrawG, Int.cast_ofNat_Int, seval]); first | done | (simp [e, *]; done) | (simp_all [e]; done)) | (refine retA rfl ?_; (try simp (etaStruct := .none) only [push_cast, DrawG, Int.cast_ofNat_Int, seval]); (try simp [e, *]); (try exact wkc)))
theorem tmines_s (w : Wld) (hl : wldL w) : Spec Tryz.prog 83 [wldA w] [] (B (minesV w)) [] := by
  obtain ⟨l1, l2, l3, l4, l5⟩ := hl
  refine spec_am Tryz.func83 rfl rfl mix 38 rfl [.tmp 2] Tryz.results83 (Nat.le_of_ble_eq_true rfl) ?_
  (try simp (etaStruct := .none) only [push_cast, DrawG, Int.cast_ofNat_Int, seval]); (try simp (disch := omega) only [wrap_in, wk_self, tdv, tmd]); (repeat with_reducible refine obA ?_)
  refine cond_i (fun h1 => ?_) (fun h1 => ?_)
  · (try simp only [xa, xb, xc, xd, xe, xf, xg, xh, xi, xj, Bool.not_true, Bool.not_false, xk, xl] at h1)
    have e : minesV w = false := by unfold minesV; rw [decide_eq_false (by omega)]; rfl
    (try simp (etaStruct := .none) only [push_cast, DrawG, Int.cast_ofNat_Int, seval]); (try simp (disch := omega) only [wrap_in, wk_self, tdv, tmd]); (repeat with_reducible refine obA ?_)
    (first | (refine retA rfl (Wk.of ?_); (try simp (etaStruct := .none) only [push_cast, DrawG, Int.cast_ofNat_Int, seval]); first | done | (simp [e, *]; done) | (simp_all [e]; done)) | (refine retA rfl ?_; (try simp (etaStruct := .none) only [push_cast, DrawG, Int.cast_ofNat_Int, seval]); (try simp [e, *]); (try exact wkc)))
  · (try simp only [xa, xb, xc, xd, xe, xf, xg, xh, xi, xj, Bool.not_true, Bool.not_false, xk, xl] at h1)
    have hls : w.mines.length = w.f.p.length := by omega
    (try simp (etaStruct := .none) only [push_cast, DrawG, Int.cast_ofNat_Int, seval]); (try simp (disch := omega) only [wrap_in, wk_self, tdv, tmd]); (repeat with_reducible refine obA ?_)
    refine loopI (fun k : Nat => ⟨[(16, I .i64 k), (15, I .i64 w.mines.length), (14, .c (.sl 1 (w.mines.map i64P))), (1, .ptr 0 0 0)], [(0, .blk 28 (wldC w))], 1⟩) (fun k : Nat => k ≤ w.mines.length ∧ allN (mineB w) k = true) (fun k : Nat => w.mines.length - k) (0) (⟨Nat.zero_le _, rfl⟩) (To.mk [0] rfl rfl (by decide) ?_ ?_) ?_
    · simp (etaStruct := .none) only [push_cast, DrawG, Int.cast_ofNat_Int, seval]
    · simp (etaStruct := .none) only [push_cast, DrawG, Int.cast_ofNat_Int, seval]
    rintro k ⟨hk, hn⟩
    (try simp (etaStruct := .none) only [push_cast, DrawG, Int.cast_ofNat_Int, seval]); (try simp (disch := omega) only [wrap_in, wk_self, tdv, tmd]); (repeat with_reducible refine obA ?_)
    refine cond_i (fun h2 => ?_) (fun h2 => ?_)
    · (try simp only [xa, xb, xc, xd, xe, xf, xg, xh, xi, xj, Bool.not_true, Bool.not_false, xk, xl] at h2)
      have hlt : k < w.mines.length := by omega
      have hlt2 : k < w.f.p.length := by omega
      (iterate 2 ((try simp (etaStruct := .none) only [push_cast, DrawG, Int.cast_ofNat_Int, seval, getD_in _ _ _ hlt, getD_in _ _ _ hlt2, i64P]); (try simp (disch := omega) only [wrap_in, wk_self, tdv, tmd]); (repeat with_reducible refine obA ?_)))
      refine callP (twithin_s (w.mines.getD k default) 0 1000000) (WkL.refl _) ?_
      (iterate 2 ((try simp (etaStruct := .none) only [push_cast, DrawG, Int.cast_ofNat_Int, seval, getD_in _ _ _ hlt, getD_in _ _ _ hlt2, i64P]); (try simp (disch := omega) only [wrap_in, wk_self, tdv, tmd]); (repeat with_reducible refine obA ?_)))
      refine cond_i (fun h3 => ?_) (fun h3 => ?_)
      · (try simp only [xa, xb, xc, xd, xe, xf, xg, xh, xi, xj, Bool.not_true, Bool.not_false, xk, xl] at h3)
        have e0 : mineB w k = false := by
          unfold mineB
          rcases h3 with h | ⟨h, h'⟩
          · rw [h]; rfl
          · rw [decide_eq_false (by omega), decide_eq_false (by omega)]; simp
        have e : minesV w = false := by unfold minesV; rw [allN_not hlt e0]; simp
        (iterate 2 ((try simp (etaStruct := .none) only [push_cast, DrawG, Int.cast_ofNat_Int, seval, getD_in _ _ _ hlt, getD_in _ _ _ hlt2, i64P]); (try simp (disch := omega) only [wrap_in, wk_self, tdv, tmd]); (repeat with_reducible refine obA ?_)))
        (first | (refine retA rfl (Wk.of ?_); (try simp (etaStruct := .none) only [push_cast, DrawG, Int.cast_ofNat_Int, seval]); first | done | (simp [e, *]; done) | (simp_all [e]; done)) | (refine retA rfl ?_; (try simp (etaStruct := .none) only [push_cast, DrawG, Int.cast_ofNat_Int, seval]); (try simp [e, *]); (try exact wkc)))
      · (try simp only [xa, xb, xc, xd, xe, xf, xg, xh, xi, xj, Bool.not_true, Bool.not_false, xk, xl] at h3)
        have e0 : mineB w k = true := by
          unfold mineB
          rw [h3.1]
          have := within_iff.1 h3.1
          simp only [Bool.true_and, Bool.or_eq_true, decide_eq_true_eq]
          omega
        (iterate 2 ((try simp (etaStruct := .none) only [push_cast, DrawG, Int.cast_ofNat_Int, seval, getD_in _ _ _ hlt, getD_in _ _ _ hlt2, i64P]); (try simp (disch := omega) only [wrap_in, wk_self, tdv, tmd]); (repeat with_reducible refine obA ?_)))
        refine ⟨k + 1, ⟨by omega, by rw [allN, hn, e0]; rfl⟩, by omega, To.mk [0] rfl rfl (by decide) ?_ ?_⟩
        · (iterate 2 ((try simp (etaStruct := .none) only [push_cast, DrawG, Int.cast_ofNat_Int, seval, getD_in _ _ _ hlt, getD_in _ _ _ hlt2, i64P]); (try simp (disch := omega) only [wrap_in, wk_self, tdv, tmd]); (repeat with_reducible refine obA ?_)))
        · (iterate 2 ((try simp (etaStruct := .none) only [push_cast, DrawG, Int.cast_ofNat_Int, seval, getD_in _ _ _ hlt, getD_in _ _ _ hlt2, i64P]); (try simp (disch := omega) only [wrap_in, wk_self, tdv, tmd]); (repeat with_reducible refine obA ?_)))
    · (try simp only [xa, xb, xc, xd, xe, xf, xg, xh, xi, xj, Bool.not_true, Bool.not_false, xk, xl] at h2)
      obtain rfl : k = w.mines.length := by omega
      have e : minesV w = true := by unfold minesV; rw [decide_eq_true hls, hn]; rfl
      (try simp (etaStruct := .none) only [push_cast, DrawG, Int.cast_ofNat_Int, seval]); (try simp (disch := omega) only [wrap_in, wk_self, tdv, tmd]); (repeat with_reducible refine obA ?_)
      (first | (refine retA rfl (Wk.of ?_); (try simp (etaStruct := .none) only [push_cast, DrawG, Int.cast_ofNat_Int, seval]); first | done | (simp [e, *]; done) | (simp_all [e]; done)) | (refine retA rfl ?_; (try simp (etaStruct := .none) only [push_cast, DrawG, Int.cast_ofNat_Int, seval]); (try simp [e, *]); (try exact wkc)))
end Go.Proofs.YthiddmncjafklaaGreat
