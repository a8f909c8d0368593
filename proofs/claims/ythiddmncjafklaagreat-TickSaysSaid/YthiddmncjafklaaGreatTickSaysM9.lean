/- Lemmas for the proof of tickSays.proved. -/
import Derived.Test.YthiddmncjafklaaGreatTickSaysM8
namespace Go.Proofs.YthiddmncjafklaaGreat
set_option linter.all false
open Go.RowKit
set_option maxRecDepth 100000
set_option maxHeartbeats 2000000
theorem gown_s (w : Wld) (hw : Right w) : Spec Tryz.prog 59 [wldA w] [] (.agg [I .i64 w.f.w, I .i64 w.f.h, .c (.sl 1 (w.f.p.map i64P)), .c (.sl 2 (w.bases.map celP)), .own 0, .own 1, .own 2, I .i64 w.next, I .i64 w.now]) [stR w, miR w, trR w] := by
  have h1 := hw.places
  have h2 := hw.nb
  have h3 := hw.sl
  have h4 := hw.ml
  have h5 := hw.nt
  refine spec_am Tryz.func59 rfl rfl mix 26 rfl [.cell 2 28] Tryz.results59 (Nat.le_of_ble_eq_true rfl) ?_
  (try simp (etaStruct := .none) only [push_cast, DrawG, Int.cast_ofNat_Int, seval]); (try simp (disch := omega) only [wrap_in, wk_self, tdv, tmd]); (repeat with_reducible refine obA ?_)
  refine callP (int_copy w.f.p (by omega)) (WkL.refl _) ?_
  (try simp (etaStruct := .none) only [push_cast, DrawG, Int.cast_ofNat_Int, seval]); (try simp (disch := omega) only [wrap_in, wk_self, tdv, tmd]); (repeat with_reducible refine obA ?_)
  refine callP (cel_copy w.bases (by omega)) (WkL.refl _) ?_
  (try simp (etaStruct := .none) only [push_cast, DrawG, Int.cast_ofNat_Int, seval]); (try simp (disch := omega) only [wrap_in, wk_self, tdv, tmd]); (repeat with_reducible refine obA ?_)
  refine callM [] (int_clone w.stocks (by omega)) (WkL.refl _) rfl (by decide) (by simp [lookC_c]) ?_
  (try simp (etaStruct := .none) only [push_cast, DrawG, Int.cast_ofNat_Int, seval]); (try simp (disch := omega) only [wrap_in, wk_self, tdv, tmd]); (repeat with_reducible refine obA ?_)
  (try (refine ⟨by kernel_rfl, ?_⟩))
  (try simp (etaStruct := .none) only [push_cast, DrawG, Int.cast_ofNat_Int, seval]); (try simp (disch := omega) only [wrap_in, wk_self, tdv, tmd]); (repeat with_reducible refine obA ?_)
  refine callM [] (int_clone w.mines (by omega)) (WkL.refl _) rfl (by decide) (by simp [lookC_c]) ?_
  (try simp (etaStruct := .none) only [push_cast, DrawG, Int.cast_ofNat_Int, seval]); (try simp (disch := omega) only [wrap_in, wk_self, tdv, tmd]); (repeat with_reducible refine obA ?_)
  refine callM [] (trp_clone w.troops (by omega)) (WkL.refl _) rfl (by decide) (by simp [lookC_c]) ?_
  (try simp (etaStruct := .none) only [push_cast, DrawG, Int.cast_ofNat_Int, seval]); (try simp (disch := omega) only [wrap_in, wk_self, tdv, tmd]); (repeat with_reducible refine obA ?_)
  (try (refine ⟨by kernel_rfl, ?_⟩))
  (try simp (etaStruct := .none) only [push_cast, DrawG, Int.cast_ofNat_Int, seval]); (try simp (disch := omega) only [wrap_in, wk_self, tdv, tmd]); (repeat with_reducible refine obA ?_)
  refine retM [22, 50, 62] rfl rfl (by decide) ⟨?_, ?_, ?_, trivial⟩ ?_ ?_ <;> first | exact Wk.refl _ | (try simp (etaStruct := .none) only [push_cast, DrawG, Int.cast_ofNat_Int, seval])
theorem do_k (w : Wld) (l : List Ded) (hw : Right w) (hll : l.length ≤ 200) : Spec Tryz.prog 27 [wldA w, .c (.sl 5 (l.map dedP))] [] (.tup [wldA (deedsA w l).1, .c (.sl 1 ((deedsA w l).2.map boolP)), I .i64 0]) [] := by
  have he := hw.e
  refine spec_am Tryz.func27 rfl rfl mix 40 rfl [.cell 4 28, .tmp 5, .tmp 6] Tryz.results27 (Nat.le_of_ble_eq_true rfl) ?_
  (try simp (etaStruct := .none) only [push_cast, DrawG, Int.cast_ofNat_Int, seval]); (try simp (disch := omega) only [wrap_in, wk_self, tdv, tmd]); (repeat with_reducible refine obA ?_)
  refine callP (tcheck_s w hw.l) (WkL.refl _) ?_
  (try simp (etaStruct := .none) only [push_cast, DrawG, Int.cast_ofNat_Int, seval]); (try simp (disch := omega) only [wrap_in, wk_self, tdv, tmd]); (repeat with_reducible refine obA ?_)
  refine cond_i (fun h1 => ?_) (fun h1 => ?_)
  · (try simp only [xa, xb, xc, xd, xe, xf, xg, xh, xi, xj, Bool.not_true, Bool.not_false, xk, xl] at h1)
    exact absurd he h1
  · (try simp only [xa, xb, xc, xd, xe, xf, xg, xh, xi, xj, Bool.not_true, Bool.not_false, xk, xl] at h1)
    (try simp (etaStruct := .none) only [push_cast, DrawG, Int.cast_ofNat_Int, seval]); (try simp (disch := omega) only [wrap_in, wk_self, tdv, tmd]); (repeat with_reducible refine obA ?_)
    refine cond_i (fun h2 => ?_) (fun h2 => ?_)
    · (try simp only [xa, xb, xc, xd, xe, xf, xg, xh, xi, xj, Bool.not_true, Bool.not_false, xk, xl] at h2)
      omega
    · (try simp only [xa, xb, xc, xd, xe, xf, xg, xh, xi, xj, Bool.not_true, Bool.not_false, xk, xl] at h2)
      (try simp (etaStruct := .none) only [push_cast, DrawG, Int.cast_ofNat_Int, seval]); (try simp (disch := omega) only [wrap_in, wk_self, tdv, tmd]); (repeat with_reducible refine obA ?_)
      refine callM [] (gown_s w hw) (WkL.refl _) rfl (by decide) (by simp [lookC_c]) ?_
      (try simp (etaStruct := .none) only [push_cast, DrawG, Int.cast_ofNat_Int, seval]); (try simp (disch := omega) only [wrap_in, wk_self, tdv, tmd]); (repeat with_reducible refine obA ?_)
      refine loopI (fun k : Nat => ⟨[(27, I .i64 k), (26, I .i64 l.length), (25, .c (.sl 5 (l.map dedP))), (9, .own 5), (8, .ptr 1 0 0), (4, .ptr 0 0 0)], [(0, .blk 28 [I .i64 0, I .i64 0, .c (.v (.slice none 0 0)), .c (.v (.slice none 0 0)), .c (.v (.slice none 0 0)), .c (.v (.slice none 0 0)), .c (.v (.slice none 0 0)), I .i64 0, I .i64 0]), (1, .blk 117 (shpC (deedsA w (l.take k)).1 2 3 4)), (2, stR (deedsA w (l.take k)).1), (3, miR (deedsA w (l.take k)).1), (4, trR (deedsA w (l.take k)).1), (5, .row 4 1 ((deedsA w (l.take k)).2.map boolP))], 6⟩) (fun k : Nat => k ≤ l.length) (fun k : Nat => l.length - k) (0) (Nat.zero_le _) ((To.nil 9 4 1 rfl).trans (To.mk [1, 5, 2, 3, 4, 6] rfl rfl (by decide) ?_ ?_)) ?_
      · simp (etaStruct := .none) only [push_cast, DrawG, Int.cast_ofNat_Int, seval, List.take_zero, deedsA]
      · simp (etaStruct := .none) only [push_cast, DrawG, Int.cast_ofNat_Int, seval]
      rintro k hk
      (try simp (etaStruct := .none) only [push_cast, DrawG, Int.cast_ofNat_Int, seval]); (try simp (disch := omega) only [wrap_in, wk_self, tdv, tmd]); (repeat with_reducible refine obA ?_)
      refine cond_i (fun h3 => ?_) (fun h3 => ?_)
      · (try simp only [xa, xb, xc, xd, xe, xf, xg, xh, xi, xj, Bool.not_true, Bool.not_false, xk, xl] at h3)
        have hlt : k < l.length := by omega
        obtain ⟨d, hd⟩ : ∃ d, d = l.getD k default := ⟨_, rfl⟩
        have hst : deedsA w (l.take (k + 1)) = ((deedV (deedsA w (l.take k)).1 d).1, (deedsA w (l.take k)).2 ++ [(deedV (deedsA w (l.take k)).1 d).2]) := by rw [take_snoc _ _ hlt, ← hd, deedsA_snoc]
        have hR := right_deeds (l.take k) hw
        have hbl := deedsA_len (l.take k) w
        rw [List.length_take] at hbl
        generalize (deedsA w (l.take k)).1 = W at *
        generalize (deedsA w (l.take k)).2 = bs at *
        (iterate 2 ((try simp (etaStruct := .none) only [push_cast, DrawG, Int.cast_ofNat_Int, seval, getD_in _ _ _ hlt, ← hd, dedP]); (try simp (disch := omega) only [wrap_in, wk_self, tdv, tmd]); (repeat with_reducible refine obA ?_)))
        rcases gdeed_s W d hR with M | M
        · refine callM [1, 2, 3, 4] M (WkL.refl _) rfl (by decide) (by simp [lookC_c]) ?_
          (iterate 2 ((try simp (etaStruct := .none) only [push_cast, DrawG, Int.cast_ofNat_Int, seval, boolP]); (try simp (disch := omega) only [wrap_in, wk_self, tdv, tmd]); (repeat with_reducible refine obA ?_)))
          refine ⟨k + 1, by omega, by omega, To.mk [0, 1, 2, 3, 4, 8] rfl rfl (by decide) ?_ ?_⟩
          · (iterate 2 ((try simp (etaStruct := .none) only [push_cast, DrawG, Int.cast_ofNat_Int, seval, hst, List.map_append, boolP]); (try simp (disch := omega) only [wrap_in, wk_self, tdv, tmd]); (repeat with_reducible refine obA ?_)))
          · (try simp (etaStruct := .none) only [push_cast, DrawG, Int.cast_ofNat_Int, seval]); (try simp (disch := omega) only [wrap_in, wk_self, tdv, tmd]); (repeat with_reducible refine obA ?_)
        · refine callM [1, 2, 3, 4] M (WkL.refl _) rfl (by decide) (by simp [lookC_c]) ?_
          (iterate 2 ((try simp (etaStruct := .none) only [push_cast, DrawG, Int.cast_ofNat_Int, seval, boolP]); (try simp (disch := omega) only [wrap_in, wk_self, tdv, tmd]); (repeat with_reducible refine obA ?_)))
          refine ⟨k + 1, by omega, by omega, To.mk [0, 1, 2, 3, 7, 9] rfl rfl (by decide) ?_ ?_⟩
          · (iterate 2 ((try simp (etaStruct := .none) only [push_cast, DrawG, Int.cast_ofNat_Int, seval, hst, List.map_append, boolP]); (try simp (disch := omega) only [wrap_in, wk_self, tdv, tmd]); (repeat with_reducible refine obA ?_)))
          · (try simp (etaStruct := .none) only [push_cast, DrawG, Int.cast_ofNat_Int, seval]); (try simp (disch := omega) only [wrap_in, wk_self, tdv, tmd]); (repeat with_reducible refine obA ?_)
      · (try simp only [xa, xb, xc, xd, xe, xf, xg, xh, xi, xj, Bool.not_true, Bool.not_false, xk, xl] at h3)
        obtain rfl : k = l.length := by omega
        (iterate 2 ((try simp (etaStruct := .none) only [push_cast, DrawG, Int.cast_ofNat_Int, seval, List.take_length]); (try simp (disch := omega) only [wrap_in, wk_self, tdv, tmd]); (repeat with_reducible refine obA ?_)))
        (first | (refine retA rfl (Wk.of ?_); (try simp (etaStruct := .none) only [push_cast, DrawG, Int.cast_ofNat_Int, seval]); first | done | (simp [*]; done) | (simp_all []; done)) | (refine retA rfl ?_; (try simp (etaStruct := .none) only [push_cast, DrawG, Int.cast_ofNat_Int, seval]); (try simp [*]); (try exact wkc)))
end Go.Proofs.YthiddmncjafklaaGreat
namespace Go.Proofs.YthiddmncjafklaaGreat
set_option linter.all false
open Go.RowKit
set_option maxRecDepth 100000
set_option maxHeartbeats 1000000
theorem add_blow (o : Ord) (b : List Blw) (g : List Gop) (d : List Ded) (h : o.kind = 1) (hb : b.length ≤ 1000) :
    Spec Tryz.prog 54 [.ptr 0 0 0, ordA o] [.blk 109 [.own 1, .own 2, .own 3], .row 124 2 (b.map blwP), .row 126 3 (g.map gopP), .row 119 5 (d.map dedP)] (.tup [])
      [.blk 109 [.own 4, .own 2, .own 3], .dead, .row 126 3 (g.map gopP), .row 119 5 (d.map dedP), .row 124 2 ((b ++ [(⟨o.who, o.what⟩ : Blw)]).map blwP)] := by
  refine spec_am Tryz.func54 rfl rfl mix 84 rfl [] Tryz.results54 (Nat.le_of_ble_eq_true rfl) ?_
  (try simp (etaStruct := .none) only [push_cast, DrawG, Int.cast_ofNat_Int, seval]); (try simp (disch := omega) only [wrap_in, wk_self, tdv, tmd]); (repeat with_reducible refine obA ?_)
  refine cond_i (fun h1 => ?_) (fun h1 => ?_)
  · (try simp only [xa, xb, xc, xd, xe, xf, xg, xh, xi, xj, Bool.not_true, Bool.not_false, xk, xl] at h1)
    (try simp (etaStruct := .none) only [push_cast, DrawG, Int.cast_ofNat_Int, seval]); (try simp (disch := omega) only [wrap_in, wk_self, tdv, tmd]); (repeat with_reducible refine obA ?_)
    (try (refine ⟨by kernel_rfl, ?_⟩))
    (try simp (etaStruct := .none) only [push_cast, DrawG, Int.cast_ofNat_Int, seval]); (try simp (disch := omega) only [wrap_in, wk_self, tdv, tmd]); (repeat with_reducible refine obA ?_)
    refine retM [0, 1, 2, 3, 49] rfl rfl (by decide) ⟨?_, ?_, ?_, ?_, ?_, trivial⟩ trivial ?_
    · simp (etaStruct := .none) only [push_cast, DrawG, Int.cast_ofNat_Int, seval]
    · simp (etaStruct := .none) only [push_cast, DrawG, Int.cast_ofNat_Int, seval]
    · simp (etaStruct := .none) only [push_cast, DrawG, Int.cast_ofNat_Int, seval]
    · simp (etaStruct := .none) only [push_cast, DrawG, Int.cast_ofNat_Int, seval]
    · simp (etaStruct := .none) only [push_cast, DrawG, Int.cast_ofNat_Int, seval, List.map_append, blwP]
    · simp (etaStruct := .none) only [push_cast, DrawG, Int.cast_ofNat_Int, seval]
  · (try simp only [xa, xb, xc, xd, xe, xf, xg, xh, xi, xj, Bool.not_true, Bool.not_false, xk, xl] at h1)
    omega
theorem add_go (o : Ord) (b : List Blw) (g : List Gop) (d : List Ded) (h : o.kind = 2) (hb : g.length ≤ 1000) :
    Spec Tryz.prog 54 [.ptr 0 0 0, ordA o] [.blk 109 [.own 1, .own 2, .own 3], .row 124 2 (b.map blwP), .row 126 3 (g.map gopP), .row 119 5 (d.map dedP)] (.tup [])
      [.blk 109 [.own 1, .own 4, .own 3], .row 124 2 (b.map blwP), .dead, .row 119 5 (d.map dedP), .row 126 3 ((g ++ [(⟨o.who, o.c⟩ : Gop)]).map gopP)] := by
  refine spec_am Tryz.func54 rfl rfl mix 84 rfl [] Tryz.results54 (Nat.le_of_ble_eq_true rfl) ?_
  (try simp (etaStruct := .none) only [push_cast, DrawG, Int.cast_ofNat_Int, seval]); (try simp (disch := omega) only [wrap_in, wk_self, tdv, tmd]); (repeat with_reducible refine obA ?_)
  refine cond_i (fun h1 => ?_) (fun h1 => ?_)
  · (try simp only [xa, xb, xc, xd, xe, xf, xg, xh, xi, xj, Bool.not_true, Bool.not_false, xk, xl] at h1)
    omega
  · (try simp only [xa, xb, xc, xd, xe, xf, xg, xh, xi, xj, Bool.not_true, Bool.not_false, xk, xl] at h1)
    (try simp (etaStruct := .none) only [push_cast, DrawG, Int.cast_ofNat_Int, seval]); (try simp (disch := omega) only [wrap_in, wk_self, tdv, tmd]); (repeat with_reducible refine obA ?_)
    refine cond_i (fun h2 => ?_) (fun h2 => ?_)
    · (try simp only [xa, xb, xc, xd, xe, xf, xg, xh, xi, xj, Bool.not_true, Bool.not_false, xk, xl] at h2)
      (try simp (etaStruct := .none) only [push_cast, DrawG, Int.cast_ofNat_Int, seval]); (try simp (disch := omega) only [wrap_in, wk_self, tdv, tmd]); (repeat with_reducible refine obA ?_)
      (try (refine ⟨by kernel_rfl, ?_⟩))
      (try simp (etaStruct := .none) only [push_cast, DrawG, Int.cast_ofNat_Int, seval]); (try simp (disch := omega) only [wrap_in, wk_self, tdv, tmd]); (repeat with_reducible refine obA ?_)
      refine retM [0, 1, 2, 3, 49] rfl rfl (by decide) ⟨?_, ?_, ?_, ?_, ?_, trivial⟩ trivial ?_
      · simp (etaStruct := .none) only [push_cast, DrawG, Int.cast_ofNat_Int, seval]
      · simp (etaStruct := .none) only [push_cast, DrawG, Int.cast_ofNat_Int, seval]
      · simp (etaStruct := .none) only [push_cast, DrawG, Int.cast_ofNat_Int, seval]
      · simp (etaStruct := .none) only [push_cast, DrawG, Int.cast_ofNat_Int, seval]
      · simp (etaStruct := .none) only [push_cast, DrawG, Int.cast_ofNat_Int, seval, List.map_append, gopP]
      · simp (etaStruct := .none) only [push_cast, DrawG, Int.cast_ofNat_Int, seval]
    · (try simp only [xa, xb, xc, xd, xe, xf, xg, xh, xi, xj, Bool.not_true, Bool.not_false, xk, xl] at h2)
      omega
theorem add_mine (o : Ord) (b : List Blw) (g : List Gop) (d : List Ded) (h : o.kind = 3) (hb : d.length ≤ 1000) :
    Spec Tryz.prog 54 [.ptr 0 0 0, ordA o] [.blk 109 [.own 1, .own 2, .own 3], .row 124 2 (b.map blwP), .row 126 3 (g.map gopP), .row 119 5 (d.map dedP)] (.tup [])
      [.blk 109 [.own 1, .own 2, .own 4], .row 124 2 (b.map blwP), .row 126 3 (g.map gopP), .dead, .row 119 5 ((d ++ [(⟨1, o.who, o.c, 0⟩ : Ded)]).map dedP)] := by
  refine spec_am Tryz.func54 rfl rfl mix 84 rfl [] Tryz.results54 (Nat.le_of_ble_eq_true rfl) ?_
  (try simp (etaStruct := .none) only [push_cast, DrawG, Int.cast_ofNat_Int, seval]); (try simp (disch := omega) only [wrap_in, wk_self, tdv, tmd]); (repeat with_reducible refine obA ?_)
  refine cond_i (fun h1 => ?_) (fun h1 => ?_)
  · (try simp only [xa, xb, xc, xd, xe, xf, xg, xh, xi, xj, Bool.not_true, Bool.not_false, xk, xl] at h1)
    omega
  · (try simp only [xa, xb, xc, xd, xe, xf, xg, xh, xi, xj, Bool.not_true, Bool.not_false, xk, xl] at h1)
    (try simp (etaStruct := .none) only [push_cast, DrawG, Int.cast_ofNat_Int, seval]); (try simp (disch := omega) only [wrap_in, wk_self, tdv, tmd]); (repeat with_reducible refine obA ?_)
    refine cond_i (fun h2 => ?_) (fun h2 => ?_)
    · (try simp only [xa, xb, xc, xd, xe, xf, xg, xh, xi, xj, Bool.not_true, Bool.not_false, xk, xl] at h2)
      omega
    · (try simp only [xa, xb, xc, xd, xe, xf, xg, xh, xi, xj, Bool.not_true, Bool.not_false, xk, xl] at h2)
      (try simp (etaStruct := .none) only [push_cast, DrawG, Int.cast_ofNat_Int, seval]); (try simp (disch := omega) only [wrap_in, wk_self, tdv, tmd]); (repeat with_reducible refine obA ?_)
      refine cond_i (fun h3 => ?_) (fun h3 => ?_)
      · (try simp only [xa, xb, xc, xd, xe, xf, xg, xh, xi, xj, Bool.not_true, Bool.not_false, xk, xl] at h3)
        (try simp (etaStruct := .none) only [push_cast, DrawG, Int.cast_ofNat_Int, seval]); (try simp (disch := omega) only [wrap_in, wk_self, tdv, tmd]); (repeat with_reducible refine obA ?_)
        (try (refine ⟨by kernel_rfl, ?_⟩))
        (try simp (etaStruct := .none) only [push_cast, DrawG, Int.cast_ofNat_Int, seval]); (try simp (disch := omega) only [wrap_in, wk_self, tdv, tmd]); (repeat with_reducible refine obA ?_)
        refine retM [0, 1, 2, 3, 49] rfl rfl (by decide) ⟨?_, ?_, ?_, ?_, ?_, trivial⟩ trivial ?_
        · simp (etaStruct := .none) only [push_cast, DrawG, Int.cast_ofNat_Int, seval]
        · simp (etaStruct := .none) only [push_cast, DrawG, Int.cast_ofNat_Int, seval]
        · simp (etaStruct := .none) only [push_cast, DrawG, Int.cast_ofNat_Int, seval]
        · simp (etaStruct := .none) only [push_cast, DrawG, Int.cast_ofNat_Int, seval]
        · simp (etaStruct := .none) only [push_cast, DrawG, Int.cast_ofNat_Int, seval, List.map_append, dedP]
        · simp (etaStruct := .none) only [push_cast, DrawG, Int.cast_ofNat_Int, seval]
      · (try simp only [xa, xb, xc, xd, xe, xf, xg, xh, xi, xj, Bool.not_true, Bool.not_false, xk, xl] at h3)
        omega
theorem add_drop (o : Ord) (b : List Blw) (g : List Gop) (d : List Ded) (h : o.kind = 4) (hb : d.length ≤ 1000) :
    Spec Tryz.prog 54 [.ptr 0 0 0, ordA o] [.blk 109 [.own 1, .own 2, .own 3], .row 124 2 (b.map blwP), .row 126 3 (g.map gopP), .row 119 5 (d.map dedP)] (.tup [])
      [.blk 109 [.own 1, .own 2, .own 4], .row 124 2 (b.map blwP), .row 126 3 (g.map gopP), .dead, .row 119 5 ((d ++ [(⟨2, o.who, ⟨0, 0⟩, 0⟩ : Ded)]).map dedP)] := by
  refine spec_am Tryz.func54 rfl rfl mix 84 rfl [] Tryz.results54 (Nat.le_of_ble_eq_true rfl) ?_
  (try simp (etaStruct := .none) only [push_cast, DrawG, Int.cast_ofNat_Int, seval]); (try simp (disch := omega) only [wrap_in, wk_self, tdv, tmd]); (repeat with_reducible refine obA ?_)
  refine cond_i (fun h1 => ?_) (fun h1 => ?_)
  · (try simp only [xa, xb, xc, xd, xe, xf, xg, xh, xi, xj, Bool.not_true, Bool.not_false, xk, xl] at h1)
    omega
  · (try simp only [xa, xb, xc, xd, xe, xf, xg, xh, xi, xj, Bool.not_true, Bool.not_false, xk, xl] at h1)
    (try simp (etaStruct := .none) only [push_cast, DrawG, Int.cast_ofNat_Int, seval]); (try simp (disch := omega) only [wrap_in, wk_self, tdv, tmd]); (repeat with_reducible refine obA ?_)
    refine cond_i (fun h2 => ?_) (fun h2 => ?_)
    · (try simp only [xa, xb, xc, xd, xe, xf, xg, xh, xi, xj, Bool.not_true, Bool.not_false, xk, xl] at h2)
      omega
    · (try simp only [xa, xb, xc, xd, xe, xf, xg, xh, xi, xj, Bool.not_true, Bool.not_false, xk, xl] at h2)
      (try simp (etaStruct := .none) only [push_cast, DrawG, Int.cast_ofNat_Int, seval]); (try simp (disch := omega) only [wrap_in, wk_self, tdv, tmd]); (repeat with_reducible refine obA ?_)
      refine cond_i (fun h3 => ?_) (fun h3 => ?_)
      · (try simp only [xa, xb, xc, xd, xe, xf, xg, xh, xi, xj, Bool.not_true, Bool.not_false, xk, xl] at h3)
        omega
      · (try simp only [xa, xb, xc, xd, xe, xf, xg, xh, xi, xj, Bool.not_true, Bool.not_false, xk, xl] at h3)
        (try simp (etaStruct := .none) only [push_cast, DrawG, Int.cast_ofNat_Int, seval]); (try simp (disch := omega) only [wrap_in, wk_self, tdv, tmd]); (repeat with_reducible refine obA ?_)
        refine cond_i (fun h4 => ?_) (fun h4 => ?_)
        · (try simp only [xa, xb, xc, xd, xe, xf, xg, xh, xi, xj, Bool.not_true, Bool.not_false, xk, xl] at h4)
          (try simp (etaStruct := .none) only [push_cast, DrawG, Int.cast_ofNat_Int, seval]); (try simp (disch := omega) only [wrap_in, wk_self, tdv, tmd]); (repeat with_reducible refine obA ?_)
          (try (refine ⟨by kernel_rfl, ?_⟩))
          (try simp (etaStruct := .none) only [push_cast, DrawG, Int.cast_ofNat_Int, seval]); (try simp (disch := omega) only [wrap_in, wk_self, tdv, tmd]); (repeat with_reducible refine obA ?_)
          refine retM [0, 1, 2, 3, 41] rfl rfl (by decide) ⟨?_, ?_, ?_, ?_, ?_, trivial⟩ trivial ?_
          · simp (etaStruct := .none) only [push_cast, DrawG, Int.cast_ofNat_Int, seval]
          · simp (etaStruct := .none) only [push_cast, DrawG, Int.cast_ofNat_Int, seval]
          · simp (etaStruct := .none) only [push_cast, DrawG, Int.cast_ofNat_Int, seval]
          · simp (etaStruct := .none) only [push_cast, DrawG, Int.cast_ofNat_Int, seval]
          · simp (etaStruct := .none) only [push_cast, DrawG, Int.cast_ofNat_Int, seval, List.map_append, dedP]
          · simp (etaStruct := .none) only [push_cast, DrawG, Int.cast_ofNat_Int, seval]
        · (try simp only [xa, xb, xc, xd, xe, xf, xg, xh, xi, xj, Bool.not_true, Bool.not_false, xk, xl] at h4)
          omega
theorem add_make (o : Ord) (b : List Blw) (g : List Gop) (d : List Ded) (h : o.kind = 5) (hb : d.length ≤ 1000) :
    Spec Tryz.prog 54 [.ptr 0 0 0, ordA o] [.blk 109 [.own 1, .own 2, .own 3], .row 124 2 (b.map blwP), .row 126 3 (g.map gopP), .row 119 5 (d.map dedP)] (.tup [])
      [.blk 109 [.own 1, .own 2, .own 4], .row 124 2 (b.map blwP), .row 126 3 (g.map gopP), .dead, .row 119 5 ((d ++ [(⟨3, o.by_, ⟨0, 0⟩, o.what⟩ : Ded)]).map dedP)] := by
  refine spec_am Tryz.func54 rfl rfl mix 84 rfl [] Tryz.results54 (Nat.le_of_ble_eq_true rfl) ?_
  (try simp (etaStruct := .none) only [push_cast, DrawG, Int.cast_ofNat_Int, seval]); (try simp (disch := omega) only [wrap_in, wk_self, tdv, tmd]); (repeat with_reducible refine obA ?_)
  refine cond_i (fun h1 => ?_) (fun h1 => ?_)
  · (try simp only [xa, xb, xc, xd, xe, xf, xg, xh, xi, xj, Bool.not_true, Bool.not_false, xk, xl] at h1)
    omega
  · (try simp only [xa, xb, xc, xd, xe, xf, xg, xh, xi, xj, Bool.not_true, Bool.not_false, xk, xl] at h1)
    (try simp (etaStruct := .none) only [push_cast, DrawG, Int.cast_ofNat_Int, seval]); (try simp (disch := omega) only [wrap_in, wk_self, tdv, tmd]); (repeat with_reducible refine obA ?_)
    refine cond_i (fun h2 => ?_) (fun h2 => ?_)
    · (try simp only [xa, xb, xc, xd, xe, xf, xg, xh, xi, xj, Bool.not_true, Bool.not_false, xk, xl] at h2)
      omega
    · (try simp only [xa, xb, xc, xd, xe, xf, xg, xh, xi, xj, Bool.not_true, Bool.not_false, xk, xl] at h2)
      (try simp (etaStruct := .none) only [push_cast, DrawG, Int.cast_ofNat_Int, seval]); (try simp (disch := omega) only [wrap_in, wk_self, tdv, tmd]); (repeat with_reducible refine obA ?_)
      refine cond_i (fun h3 => ?_) (fun h3 => ?_)
      · (try simp only [xa, xb, xc, xd, xe, xf, xg, xh, xi, xj, Bool.not_true, Bool.not_false, xk, xl] at h3)
        omega
      · (try simp only [xa, xb, xc, xd, xe, xf, xg, xh, xi, xj, Bool.not_true, Bool.not_false, xk, xl] at h3)
        (try simp (etaStruct := .none) only [push_cast, DrawG, Int.cast_ofNat_Int, seval]); (try simp (disch := omega) only [wrap_in, wk_self, tdv, tmd]); (repeat with_reducible refine obA ?_)
        refine cond_i (fun h4 => ?_) (fun h4 => ?_)
        · (try simp only [xa, xb, xc, xd, xe, xf, xg, xh, xi, xj, Bool.not_true, Bool.not_false, xk, xl] at h4)
          omega
        · (try simp only [xa, xb, xc, xd, xe, xf, xg, xh, xi, xj, Bool.not_true, Bool.not_false, xk, xl] at h4)
          (try simp (etaStruct := .none) only [push_cast, DrawG, Int.cast_ofNat_Int, seval]); (try simp (disch := omega) only [wrap_in, wk_self, tdv, tmd]); (repeat with_reducible refine obA ?_)
          refine cond_i (fun h5 => ?_) (fun h5 => ?_)
          · (try simp only [xa, xb, xc, xd, xe, xf, xg, xh, xi, xj, Bool.not_true, Bool.not_false, xk, xl] at h5)
            (try simp (etaStruct := .none) only [push_cast, DrawG, Int.cast_ofNat_Int, seval]); (try simp (disch := omega) only [wrap_in, wk_self, tdv, tmd]); (repeat with_reducible refine obA ?_)
            (try (refine ⟨by kernel_rfl, ?_⟩))
            (try simp (etaStruct := .none) only [push_cast, DrawG, Int.cast_ofNat_Int, seval]); (try simp (disch := omega) only [wrap_in, wk_self, tdv, tmd]); (repeat with_reducible refine obA ?_)
            refine retM [0, 1, 2, 3, 49] rfl rfl (by decide) ⟨?_, ?_, ?_, ?_, ?_, trivial⟩ trivial ?_
            · simp (etaStruct := .none) only [push_cast, DrawG, Int.cast_ofNat_Int, seval]
            · simp (etaStruct := .none) only [push_cast, DrawG, Int.cast_ofNat_Int, seval]
            · simp (etaStruct := .none) only [push_cast, DrawG, Int.cast_ofNat_Int, seval]
            · simp (etaStruct := .none) only [push_cast, DrawG, Int.cast_ofNat_Int, seval]
            · simp (etaStruct := .none) only [push_cast, DrawG, Int.cast_ofNat_Int, seval, List.map_append, dedP]
            · simp (etaStruct := .none) only [push_cast, DrawG, Int.cast_ofNat_Int, seval]
          · (try simp only [xa, xb, xc, xd, xe, xf, xg, xh, xi, xj, Bool.not_true, Bool.not_false, xk, xl] at h5)
            omega
end Go.Proofs.YthiddmncjafklaaGreat
namespace Go.Proofs.YthiddmncjafklaaGreat
set_option linter.all false
open Go.RowKit
set_option maxRecDepth 100000
set_option maxHeartbeats 1000000
def OwnM (w : Wld) (k : Nat) (es : List (List Int × Int)) : Prop := (∀ i : Int, mhas [i] es = (w.troops.take k).any fun t => decide (t.id = i)) ∧ ∀ j, j < k → mget [(w.troops.getD j default).id] es = (w.troops.getD j default).owner
theorem OwnM.step {w : Wld} (hw : worldE w = 0) {k : Nat} {es : List (List Int × Int)} (h : OwnM w k es) (hk : k < w.troops.length) : OwnM w (k + 1) (mput [(w.troops.getD k default).id] (w.troops.getD k default).owner es) := by
  refine ⟨fun i => ?_, fun j hj => ?_⟩
  · rw [mhas_put_if, take_snoc _ _ hk, List.any_append, h.1 i]
    simp only [List.any_cons, List.any_nil, Bool.or_false, List.cons.injEq, and_true]
    by_cases hi : i = (w.troops.getD k default).id
    · rw [if_pos hi, decide_eq_true hi.symm, Bool.or_true]
    · rw [if_neg hi, decide_eq_false (Ne.symm hi), Bool.or_false]
  · rw [mget_put_if]
    by_cases hjk : j = k
    · subst hjk; rw [if_pos rfl]
    · have h2 := (troop_ok hw hk).2
      unfold trp2 at h2
      rw [and_all, Bool.and_eq_true] at h2
      have := (allN_iff _ _).1 h2.1 j (by omega)
      rw [decide_eq_true_eq] at this
      rw [if_neg (fun h => by have := (List.cons.inj h).1; omega)]
      exact h.2 j (by omega)
theorem OwnM.find {w : Wld} {es : List (List Int × Int)} (h : OwnM w w.troops.length es) (i b : Int) : (mhas [i] es && decide (mget [i] es = b)) = match findT w i with | some t => decide (t.owner = b) | none => false := by
  have h1 := h.1 i
  rw [List.take_length] at h1
  unfold findT
  cases hf : w.troops.find? (fun t => decide (t.id = i)) with
  | none =>
    have : (w.troops.any fun t => decide (t.id = i)) = false := by
      rw [List.any_eq_false]; intro x hx; simpa using List.find?_eq_none.1 hf x hx
    rw [h1, this]; rfl
  | some t =>
    have hm := List.mem_of_find?_eq_some hf
    have hp := List.find?_some hf
    rw [decide_eq_true_eq] at hp
    have : (w.troops.any fun t => decide (t.id = i)) = true := by
      rw [List.any_eq_true]; exact ⟨t, hm, by simpa using hp⟩
    obtain ⟨j, hj, rfl⟩ := List.getElem_of_mem hm
    have h2 := h.2 j hj
    rw [getD_at _ _ hj, hp] at h2
    rw [h1, this, h2]; rfl
def splitE (l : List Ord) (w : Wld) : Int := if ordsE l ≠ 0 then ordsE l else worldE w
theorem addB_of {o : Ord} (h : o.kind ≠ 1) : addB o = [] := by unfold addB; rw [if_neg h]
theorem addG_of {o : Ord} (h : o.kind ≠ 2) : addG o = [] := by unfold addG; rw [if_neg h]
theorem addD_of {o : Ord} (h : ¬ 2 < o.kind) : addD o = [] := by unfold addD; rw [if_neg h]
theorem addB_1 {o : Ord} (h : o.kind = 1) : addB o = [⟨o.who, o.what⟩] := by unfold addB; rw [if_pos h]
theorem addG_2 {o : Ord} (h : o.kind = 2) : addG o = [⟨o.who, o.c⟩] := by unfold addG; rw [if_pos h]
theorem addD_3 {o : Ord} (ho : ordE o = 0) (h : o.kind = 3) : addD o = [⟨1, o.who, o.c, 0⟩] := by
  have := ordE_ok ho
  unfold addD dedOf; rw [if_pos (by omega), h, if_neg (by decide), this.2.2.2.2.2.2.2 (by omega) (by omega)]; rfl
theorem addD_4 {o : Ord} (ho : ordE o = 0) (h : o.kind = 4) : addD o = [⟨2, o.who, ⟨0, 0⟩, 0⟩] := by
  have := ordE_ok ho
  unfold addD dedOf; rw [if_pos (by omega), h, if_neg (by decide), this.2.2.2.2.2.2.2 (by omega) (by omega), this.2.2.2.2.2.2.1 (by omega) (by omega)]; rfl
theorem addD_5 {o : Ord} (ho : ordE o = 0) (h : o.kind = 5) : addD o = [⟨3, o.by_, ⟨0, 0⟩, o.what⟩] := by
  have := ordE_ok ho
  unfold addD dedOf; rw [if_pos (by omega), h, if_pos rfl, this.2.2.2.2.2.2.1 (by omega) (by omega)]; rfl
theorem split_bad (l : List Ord) (w : Wld) (hll : l.length ≤ 9223372036854775807) (hl : wldL w) (h : splitE l w ≠ 0) : Spec Tryz.prog 24 [.c (.sl 6 (l.map ordP)), wldA w] [] (.tup [.c (.v (.slice none 0 0)), .c (.v (.slice none 0 0)), .c (.v (.slice none 0 0)), I .i64 (splitE l w)]) [] := by
  refine spec_am Tryz.func24 rfl rfl mix 82 rfl [.tmp 4, .tmp 5, .tmp 6, .tmp 7] Tryz.results24 (Nat.le_of_ble_eq_true rfl) ?_
  (try simp (etaStruct := .none) only [push_cast, DrawG, Int.cast_ofNat_Int, seval]); (try simp (disch := omega) only [wrap_in, wk_self, tdv, tmd]); (repeat with_reducible refine obA ?_)
  refine callP (oall_s l hll) (WkL.refl _) ?_
  (try simp (etaStruct := .none) only [push_cast, DrawG, Int.cast_ofNat_Int, seval]); (try simp (disch := omega) only [wrap_in, wk_self, tdv, tmd]); (repeat with_reducible refine obA ?_)
  refine cond_i (fun h1 => ?_) (fun h1 => ?_)
  · (try simp only [xa, xb, xc, xd, xe, xf, xg, xh, xi, xj, Bool.not_true, Bool.not_false, xk, xl] at h1)
    have e : splitE l w = ordsE l := by unfold splitE; rw [if_pos h1]
    (try simp (etaStruct := .none) only [push_cast, DrawG, Int.cast_ofNat_Int, seval]); (try simp (disch := omega) only [wrap_in, wk_self, tdv, tmd]); (repeat with_reducible refine obA ?_)
    (first | (refine retA rfl (Wk.of ?_); (try simp (etaStruct := .none) only [push_cast, DrawG, Int.cast_ofNat_Int, seval]); first | done | (simp [e, *]; done) | (simp_all [e]; done)) | (refine retA rfl ?_; (try simp (etaStruct := .none) only [push_cast, DrawG, Int.cast_ofNat_Int, seval]); (try simp [e, *]); (try exact wkc)))
  · (try simp only [xa, xb, xc, xd, xe, xf, xg, xh, xi, xj, Bool.not_true, Bool.not_false, xk, xl] at h1)
    (try simp (etaStruct := .none) only [push_cast, DrawG, Int.cast_ofNat_Int, seval]); (try simp (disch := omega) only [wrap_in, wk_self, tdv, tmd]); (repeat with_reducible refine obA ?_)
    refine callP (tcheck_s w hl) (WkL.refl _) ?_
    (try simp (etaStruct := .none) only [push_cast, DrawG, Int.cast_ofNat_Int, seval]); (try simp (disch := omega) only [wrap_in, wk_self, tdv, tmd]); (repeat with_reducible refine obA ?_)
    refine cond_i (fun h2 => ?_) (fun h2 => ?_)
    · (try simp only [xa, xb, xc, xd, xe, xf, xg, xh, xi, xj, Bool.not_true, Bool.not_false, xk, xl] at h2)
      have e : splitE l w = worldE w := by unfold splitE; rw [if_neg (by simpa using h1)]
      (try simp (etaStruct := .none) only [push_cast, DrawG, Int.cast_ofNat_Int, seval]); (try simp (disch := omega) only [wrap_in, wk_self, tdv, tmd]); (repeat with_reducible refine obA ?_)
      (first | (refine retA rfl (Wk.of ?_); (try simp (etaStruct := .none) only [push_cast, DrawG, Int.cast_ofNat_Int, seval]); first | done | (simp [e, *]; done) | (simp_all [e]; done)) | (refine retA rfl ?_; (try simp (etaStruct := .none) only [push_cast, DrawG, Int.cast_ofNat_Int, seval]); (try simp [e, *]); (try exact wkc)))
    · (try simp only [xa, xb, xc, xd, xe, xf, xg, xh, xi, xj, Bool.not_true, Bool.not_false, xk, xl] at h2)
      exact absurd (by unfold splitE; rw [if_neg (by simpa using h1)]; exact h2) h
theorem split_s (l : List Ord) (w : Wld) (hll : l.length ≤ 9223372036854775807) (hl : wldL w) (ho : ordsE l = 0) (hw : worldE w = 0) : Spec Tryz.prog 24 [.c (.sl 6 (l.map ordP)), wldA w] [] (.tup [.c (.sl 2 ((blowsV l w).map blwP)), .c (.sl 3 ((goesV l w).map gopP)), .c (.sl 5 ((deedsV l w).map dedP)), I .i64 0]) [] := by
  obtain ⟨ho1, ho2⟩ := ordsE_ok ho
  obtain ⟨w1, w2, w3, w4, w5⟩ := worldE_ok hw
  refine spec_am Tryz.func24 rfl rfl mix 82 rfl [.tmp 4, .tmp 5, .tmp 6, .tmp 7] Tryz.results24 (Nat.le_of_ble_eq_true rfl) ?_
  (try simp (etaStruct := .none) only [push_cast, DrawG, Int.cast_ofNat_Int, seval]); (try simp (disch := omega) only [wrap_in, wk_self, tdv, tmd]); (repeat with_reducible refine obA ?_)
  refine callP (oall_s l hll) (WkL.refl _) ?_
  (try simp (etaStruct := .none) only [push_cast, DrawG, Int.cast_ofNat_Int, seval]); (try simp (disch := omega) only [wrap_in, wk_self, tdv, tmd]); (repeat with_reducible refine obA ?_)
  refine cond_i (fun h1 => ?_) (fun h1 => ?_)
  · (try simp only [xa, xb, xc, xd, xe, xf, xg, xh, xi, xj, Bool.not_true, Bool.not_false, xk, xl] at h1)
    exact absurd ho h1
  · (try simp only [xa, xb, xc, xd, xe, xf, xg, xh, xi, xj, Bool.not_true, Bool.not_false, xk, xl] at h1)
    (try simp (etaStruct := .none) only [push_cast, DrawG, Int.cast_ofNat_Int, seval]); (try simp (disch := omega) only [wrap_in, wk_self, tdv, tmd]); (repeat with_reducible refine obA ?_)
    refine callP (tcheck_s w hl) (WkL.refl _) ?_
    (try simp (etaStruct := .none) only [push_cast, DrawG, Int.cast_ofNat_Int, seval]); (try simp (disch := omega) only [wrap_in, wk_self, tdv, tmd]); (repeat with_reducible refine obA ?_)
    refine cond_i (fun h2 => ?_) (fun h2 => ?_)
    · (try simp only [xa, xb, xc, xd, xe, xf, xg, xh, xi, xj, Bool.not_true, Bool.not_false, xk, xl] at h2)
      exact absurd hw h2
    · (try simp only [xa, xb, xc, xd, xe, xf, xg, xh, xi, xj, Bool.not_true, Bool.not_false, xk, xl] at h2)
      (try simp (etaStruct := .none) only [push_cast, DrawG, Int.cast_ofNat_Int, seval]); (try simp (disch := omega) only [wrap_in, wk_self, tdv, tmd]); (repeat with_reducible refine obA ?_)
      refine loopI (fun x : Nat × List (List Int × Int) => ⟨[(32, I .i64 x.1), (31, I .i64 w.troops.length), (30, .c (.sl 7 (w.troops.map trpP))), (10, .map 1), (3, .ptr 0 0 0), (0, .c (.sl 6 (l.map ordP)))], [(0, .blk 28 (wldC w)), (1, .mp false 1 x.2)], 2⟩) (fun x : Nat × List (List Int × Int) => x.1 ≤ w.troops.length ∧ OwnM w x.1 x.2) (fun x : Nat × List (List Int × Int) => w.troops.length - x.1) ((0, [])) (⟨Nat.zero_le _, fun i => rfl, fun j h => absurd h (Nat.not_lt_zero _)⟩) (To.mk [0, 1] rfl rfl (by decide) ?_ ?_) ?_
      · simp (etaStruct := .none) only [push_cast, DrawG, Int.cast_ofNat_Int, seval]
      · simp (etaStruct := .none) only [push_cast, DrawG, Int.cast_ofNat_Int, seval]
      rintro ⟨k, es⟩ ⟨hk, hn⟩
      simp only at hk hn
      (try simp (etaStruct := .none) only [push_cast, DrawG, Int.cast_ofNat_Int, seval]); (try simp (disch := omega) only [wrap_in, wk_self, tdv, tmd]); (repeat with_reducible refine obA ?_)
      refine cond_i (fun h3 => ?_) (fun h3 => ?_)
      · (try simp only [xa, xb, xc, xd, xe, xf, xg, xh, xi, xj, Bool.not_true, Bool.not_false, xk, xl] at h3)
        have hlt : k < w.troops.length := by omega
        (iterate 2 ((try simp (etaStruct := .none) only [push_cast, DrawG, Int.cast_ofNat_Int, seval, getD_in _ _ _ hlt, trpP]); (try simp (disch := omega) only [wrap_in, wk_self, tdv, tmd]); (repeat with_reducible refine obA ?_)))
        refine ⟨(k + 1, mput [(w.troops.getD k default).id] (w.troops.getD k default).owner es), ⟨by simp only; omega, hn.step hw hlt⟩, by simp only; omega, To.mk [0, 1] rfl rfl (by decide) ?_ ?_⟩
        · (iterate 2 ((try simp (etaStruct := .none) only [push_cast, DrawG, Int.cast_ofNat_Int, seval, getD_in _ _ _ hlt, trpP]); (try simp (disch := omega) only [wrap_in, wk_self, tdv, tmd]); (repeat with_reducible refine obA ?_)))
        · (iterate 2 ((try simp (etaStruct := .none) only [push_cast, DrawG, Int.cast_ofNat_Int, seval, getD_in _ _ _ hlt, trpP]); (try simp (disch := omega) only [wrap_in, wk_self, tdv, tmd]); (repeat with_reducible refine obA ?_)))
      · (try simp only [xa, xb, xc, xd, xe, xf, xg, xh, xi, xj, Bool.not_true, Bool.not_false, xk, xl] at h3)
        obtain rfl : k = w.troops.length := by omega
        have of := hn.find
        (try simp (etaStruct := .none) only [push_cast, DrawG, Int.cast_ofNat_Int, seval]); (try simp (disch := omega) only [wrap_in, wk_self, tdv, tmd]); (repeat with_reducible refine obA ?_)
        refine loopI (fun k : Nat => ⟨[(44, I .i64 k), (43, I .i64 l.length), (42, .c (.sl 6 (l.map ordP))), (13, .ptr 2 0 0), (10, .map 1), (3, .ptr 0 0 0)], [(0, .blk 28 (wldC w)), (1, .mp false 1 es), (2, .blk 109 [.own 3, .own 4, .own 5]), (3, .row 124 2 ((blowsV (l.take k) w).map blwP)), (4, .row 126 3 ((goesV (l.take k) w).map gopP)), (5, .row 119 5 ((deedsV (l.take k) w).map dedP))], 6⟩) (fun k : Nat => k ≤ l.length) (fun k : Nat => l.length - k) (0) (Nat.zero_le _) (((To.nilC 2 0 124 2 109 _ rfl rfl).trans ((To.nilC 2 1 126 3 109 _ rfl rfl).trans (To.nilC 2 2 119 5 109 _ rfl rfl))).trans (To.mk [0, 1, 2, 3, 4, 5] rfl rfl (by decide) ?_ ?_)) ?_
        · simp (etaStruct := .none) only [push_cast, DrawG, Int.cast_ofNat_Int, seval, List.set_cons_zero, List.set_cons_succ, blowsV, goesV, deedsV, List.filter_nil, List.flatMap_nil]
        · simp (etaStruct := .none) only [push_cast, DrawG, Int.cast_ofNat_Int, seval]
        rintro k hk
        (try simp (etaStruct := .none) only [push_cast, DrawG, Int.cast_ofNat_Int, seval]); (try simp (disch := omega) only [wrap_in, wk_self, tdv, tmd]); (repeat with_reducible refine obA ?_)
        refine cond_i (fun h4 => ?_) (fun h4 => ?_)
        · (try simp only [xa, xb, xc, xd, xe, xf, xg, xh, xi, xj, Bool.not_true, Bool.not_false, xk, xl] at h4)
          have hlt : k < l.length := by omega
          have hor := ho2 _ (getD_mem l k hlt)
          have hok := ordE_ok hor
          have st1 := flat_step (fun o => allowV o w) addB l k hlt
          have st2 := flat_step (fun o => allowV o w) addG l k hlt
          have st3 := flat_step (fun o => allowV o w) addD l k hlt
          have fl1 := ford_len (fun o => allowV o w) addB addB_len (l.take k)
          have fl2 := ford_len (fun o => allowV o w) addG addG_len (l.take k)
          have fl3 := ford_len (fun o => allowV o w) addD addD_len (l.take k)
          rw [List.length_take] at fl1 fl2 fl3
          change blowsV (l.take (k + 1)) w = blowsV (l.take k) w ++ _ at st1
          change goesV (l.take (k + 1)) w = goesV (l.take k) w ++ _ at st2
          change deedsV (l.take (k + 1)) w = deedsV (l.take k) w ++ _ at st3
          change (blowsV (l.take k) w).length ≤ _ at fl1
          change (goesV (l.take k) w).length ≤ _ at fl2
          change (deedsV (l.take k) w).length ≤ _ at fl3
          (iterate 2 ((try simp (etaStruct := .none) only [push_cast, DrawG, Int.cast_ofNat_Int, seval, getD_in _ _ _ hlt, ordP]); (try simp (disch := omega) only [wrap_in, wk_self, tdv, tmd]); (repeat with_reducible refine obA ?_)))
          refine cond_j (fun x : Int × Bool => ⟨[(44, I .i64 k), (43, I .i64 l.length), (42, .c (.sl 6 (l.map ordP))), (17, B x.2), (16, I .i64 x.1), (15, .ptr 6 0 0), (13, .ptr 2 0 0), (10, .map 1), (3, .ptr 0 0 0)], [(0, .blk 28 (wldC w)), (1, .mp false 1 es), (2, .blk 109 [.own 3, .own 4, .own 5]), (3, .row 124 2 ((blowsV (l.take k) w).map blwP)), (4, .row 126 3 ((goesV (l.take k) w).map gopP)), (5, .row 119 5 ((deedsV (l.take k) w).map dedP)), (6, .blk 96 [I .i64 (l.getD k default).by_, I .i64 (l.getD k default).kind, I .i64 (l.getD k default).who, I .i64 (l.getD k default).c.x, I .i64 (l.getD k default).c.y, I .i64 (l.getD k default).what])], 7⟩) (fun x : Int × Bool => (x.2 && decide (x.1 = (l.getD k default).by_)) = allowV (l.getD k default) w) (fun h5 => ?_) (fun h5 => ?_) ?_
          · (try simp only [xa, xb, xc, xd, xe, xf, xg, xh, xi, xj, Bool.not_true, Bool.not_false, xk, xl] at h5)
            (iterate 2 ((try simp (etaStruct := .none) only [push_cast, DrawG, Int.cast_ofNat_Int, seval, getD_in _ _ _ hlt, ordP]); (try simp (disch := omega) only [wrap_in, wk_self, tdv, tmd]); (repeat with_reducible refine obA ?_)))
            (try (refine ⟨by kernel_rfl, ?_⟩))
            (iterate 2 ((try simp (etaStruct := .none) only [push_cast, DrawG, Int.cast_ofNat_Int, seval, getD_in _ _ _ hlt, ordP]); (try simp (disch := omega) only [wrap_in, wk_self, tdv, tmd]); (repeat with_reducible refine obA ?_)))
            refine ⟨((l.getD k default).by_, decide ((l.getD k default).by_ < w.bases.length)), by unfold allowV; rw [if_pos h5]; simp, To.mk [0, 1, 2, 3, 4, 5, 6] rfl rfl (by decide) ?_ ?_⟩
            · (iterate 2 ((try simp (etaStruct := .none) only [push_cast, DrawG, Int.cast_ofNat_Int, seval, getD_in _ _ _ hlt, ordP]); (try simp (disch := omega) only [wrap_in, wk_self, tdv, tmd]); (repeat with_reducible refine obA ?_)))
            · (iterate 2 ((try simp (etaStruct := .none) only [push_cast, DrawG, Int.cast_ofNat_Int, seval, getD_in _ _ _ hlt, ordP]); (try simp (disch := omega) only [wrap_in, wk_self, tdv, tmd]); (repeat with_reducible refine obA ?_)))
          · (try simp only [xa, xb, xc, xd, xe, xf, xg, xh, xi, xj, Bool.not_true, Bool.not_false, xk, xl] at h5)
            (iterate 2 ((try simp (etaStruct := .none) only [push_cast, DrawG, Int.cast_ofNat_Int, seval, getD_in _ _ _ hlt, ordP]); (try simp (disch := omega) only [wrap_in, wk_self, tdv, tmd]); (repeat with_reducible refine obA ?_)))
            refine ⟨(mget [(l.getD k default).who] es, mhas [(l.getD k default).who] es), by rw [of]; unfold allowV; rw [if_neg h5]; cases findT w (l.getD k default).who <;> rfl, To.mk [0, 1, 2, 3, 4, 5, 6] rfl rfl (by decide) ?_ ?_⟩
            · (iterate 2 ((try simp (etaStruct := .none) only [push_cast, DrawG, Int.cast_ofNat_Int, seval, getD_in _ _ _ hlt, ordP]); (try simp (disch := omega) only [wrap_in, wk_self, tdv, tmd]); (repeat with_reducible refine obA ?_)))
            · (iterate 2 ((try simp (etaStruct := .none) only [push_cast, DrawG, Int.cast_ofNat_Int, seval, getD_in _ _ _ hlt, ordP]); (try simp (disch := omega) only [wrap_in, wk_self, tdv, tmd]); (repeat with_reducible refine obA ?_)))
          · rintro ⟨by1, ok1⟩ hx
            simp only at hx
            (iterate 2 ((try simp (etaStruct := .none) only [push_cast, DrawG, Int.cast_ofNat_Int, seval, getD_in _ _ _ hlt, ordP]); (try simp (disch := omega) only [wrap_in, wk_self, tdv, tmd]); (repeat with_reducible refine obA ?_)))
            refine cond_i (fun h6 => ?_) (fun h6 => ?_)
            · (try simp only [xa, xb, xc, xd, xe, xf, xg, xh, xi, xj, Bool.not_true, Bool.not_false, xk, xl] at h6)
              have ha : allowV (l.getD k default) w = true := by rw [← hx]; simp only [h6.1, h6.2, decide_true, Bool.and_self]
              rw [if_pos ha] at st1 st2 st3
              (iterate 2 ((try simp (etaStruct := .none) only [push_cast, DrawG, Int.cast_ofNat_Int, seval, getD_in _ _ _ hlt, ordP]); (try simp (disch := omega) only [wrap_in, wk_self, tdv, tmd]); (repeat with_reducible refine obA ?_)))
              have hkind : (l.getD k default).kind = 1 ∨ (l.getD k default).kind = 2 ∨ (l.getD k default).kind = 3 ∨ (l.getD k default).kind = 4 ∨ (l.getD k default).kind = 5 := by omega
              rcases hkind with h | h | h | h | h
              · rw [addB_1 h] at st1; rw [addG_of (by omega)] at st2; rw [addD_of (by omega)] at st3
                refine callM [2, 3, 4, 5] (add_blow (l.getD k default) (blowsV (l.take k) w) (goesV (l.take k) w) (deedsV (l.take k) w) h (by omega)) (WkL.refl _) rfl (by decide) (by simp [lookC_c]) ?_
                (iterate 2 ((try simp (etaStruct := .none) only [push_cast, DrawG, Int.cast_ofNat_Int, seval, getD_in _ _ _ hlt, ordP]); (try simp (disch := omega) only [wrap_in, wk_self, tdv, tmd]); (repeat with_reducible refine obA ?_)))
                refine ⟨k + 1, by omega, by omega, To.mk [0, 1, 2, 7, 4, 5] rfl rfl (by decide) ?_ ?_⟩
                · (iterate 2 ((try simp (etaStruct := .none) only [push_cast, DrawG, Int.cast_ofNat_Int, seval, st1, st2, st3, List.append_nil, List.map_append, blwP]); (try simp (disch := omega) only [wrap_in, wk_self, tdv, tmd]); (repeat with_reducible refine obA ?_)))
                · (try simp (etaStruct := .none) only [push_cast, DrawG, Int.cast_ofNat_Int, seval]); (try simp (disch := omega) only [wrap_in, wk_self, tdv, tmd]); (repeat with_reducible refine obA ?_)
              · rw [addB_of (by omega)] at st1; rw [addG_2 h] at st2; rw [addD_of (by omega)] at st3
                refine callM [2, 3, 4, 5] (add_go (l.getD k default) (blowsV (l.take k) w) (goesV (l.take k) w) (deedsV (l.take k) w) h (by omega)) (WkL.refl _) rfl (by decide) (by simp [lookC_c]) ?_
                (iterate 2 ((try simp (etaStruct := .none) only [push_cast, DrawG, Int.cast_ofNat_Int, seval, getD_in _ _ _ hlt, ordP]); (try simp (disch := omega) only [wrap_in, wk_self, tdv, tmd]); (repeat with_reducible refine obA ?_)))
                refine ⟨k + 1, by omega, by omega, To.mk [0, 1, 2, 3, 7, 5] rfl rfl (by decide) ?_ ?_⟩
                · (iterate 2 ((try simp (etaStruct := .none) only [push_cast, DrawG, Int.cast_ofNat_Int, seval, st1, st2, st3, List.append_nil, List.map_append, gopP]); (try simp (disch := omega) only [wrap_in, wk_self, tdv, tmd]); (repeat with_reducible refine obA ?_)))
                · (try simp (etaStruct := .none) only [push_cast, DrawG, Int.cast_ofNat_Int, seval]); (try simp (disch := omega) only [wrap_in, wk_self, tdv, tmd]); (repeat with_reducible refine obA ?_)
              · rw [addB_of (by omega)] at st1; rw [addG_of (by omega)] at st2; rw [addD_3 hor h] at st3
                refine callM [2, 3, 4, 5] (add_mine (l.getD k default) (blowsV (l.take k) w) (goesV (l.take k) w) (deedsV (l.take k) w) h (by omega)) (WkL.refl _) rfl (by decide) (by simp [lookC_c]) ?_
                (iterate 2 ((try simp (etaStruct := .none) only [push_cast, DrawG, Int.cast_ofNat_Int, seval, getD_in _ _ _ hlt, ordP]); (try simp (disch := omega) only [wrap_in, wk_self, tdv, tmd]); (repeat with_reducible refine obA ?_)))
                refine ⟨k + 1, by omega, by omega, To.mk [0, 1, 2, 3, 4, 7] rfl rfl (by decide) ?_ ?_⟩
                · (iterate 2 ((try simp (etaStruct := .none) only [push_cast, DrawG, Int.cast_ofNat_Int, seval, st1, st2, st3, List.append_nil, List.map_append, dedP]); (try simp (disch := omega) only [wrap_in, wk_self, tdv, tmd]); (repeat with_reducible refine obA ?_)))
                · (try simp (etaStruct := .none) only [push_cast, DrawG, Int.cast_ofNat_Int, seval]); (try simp (disch := omega) only [wrap_in, wk_self, tdv, tmd]); (repeat with_reducible refine obA ?_)
              · rw [addB_of (by omega)] at st1; rw [addG_of (by omega)] at st2; rw [addD_4 hor h] at st3
                refine callM [2, 3, 4, 5] (add_drop (l.getD k default) (blowsV (l.take k) w) (goesV (l.take k) w) (deedsV (l.take k) w) h (by omega)) (WkL.refl _) rfl (by decide) (by simp [lookC_c]) ?_
                (iterate 2 ((try simp (etaStruct := .none) only [push_cast, DrawG, Int.cast_ofNat_Int, seval, getD_in _ _ _ hlt, ordP]); (try simp (disch := omega) only [wrap_in, wk_self, tdv, tmd]); (repeat with_reducible refine obA ?_)))
                refine ⟨k + 1, by omega, by omega, To.mk [0, 1, 2, 3, 4, 7] rfl rfl (by decide) ?_ ?_⟩
                · (iterate 2 ((try simp (etaStruct := .none) only [push_cast, DrawG, Int.cast_ofNat_Int, seval, st1, st2, st3, List.append_nil, List.map_append, dedP]); (try simp (disch := omega) only [wrap_in, wk_self, tdv, tmd]); (repeat with_reducible refine obA ?_)))
                · (try simp (etaStruct := .none) only [push_cast, DrawG, Int.cast_ofNat_Int, seval]); (try simp (disch := omega) only [wrap_in, wk_self, tdv, tmd]); (repeat with_reducible refine obA ?_)
              · rw [addB_of (by omega)] at st1; rw [addG_of (by omega)] at st2; rw [addD_5 hor h] at st3
                refine callM [2, 3, 4, 5] (add_make (l.getD k default) (blowsV (l.take k) w) (goesV (l.take k) w) (deedsV (l.take k) w) h (by omega)) (WkL.refl _) rfl (by decide) (by simp [lookC_c]) ?_
                (iterate 2 ((try simp (etaStruct := .none) only [push_cast, DrawG, Int.cast_ofNat_Int, seval, getD_in _ _ _ hlt, ordP]); (try simp (disch := omega) only [wrap_in, wk_self, tdv, tmd]); (repeat with_reducible refine obA ?_)))
                refine ⟨k + 1, by omega, by omega, To.mk [0, 1, 2, 3, 4, 7] rfl rfl (by decide) ?_ ?_⟩
                · (iterate 2 ((try simp (etaStruct := .none) only [push_cast, DrawG, Int.cast_ofNat_Int, seval, st1, st2, st3, List.append_nil, List.map_append, dedP]); (try simp (disch := omega) only [wrap_in, wk_self, tdv, tmd]); (repeat with_reducible refine obA ?_)))
                · (try simp (etaStruct := .none) only [push_cast, DrawG, Int.cast_ofNat_Int, seval]); (try simp (disch := omega) only [wrap_in, wk_self, tdv, tmd]); (repeat with_reducible refine obA ?_)
            · (try simp only [xa, xb, xc, xd, xe, xf, xg, xh, xi, xj, Bool.not_true, Bool.not_false, xk, xl] at h6)
              have ha : allowV (l.getD k default) w = false := by
                rw [← hx]
                rcases h6 with h | h
                · rw [h]; rfl
                · rw [decide_eq_false h, Bool.and_false]
              rw [ha] at st1 st2 st3
              simp only [Bool.false_eq_true, if_false, List.append_nil] at st1 st2 st3
              (iterate 2 ((try simp (etaStruct := .none) only [push_cast, DrawG, Int.cast_ofNat_Int, seval, getD_in _ _ _ hlt, ordP]); (try simp (disch := omega) only [wrap_in, wk_self, tdv, tmd]); (repeat with_reducible refine obA ?_)))
              refine ⟨k + 1, by omega, by omega, To.mk [0, 1, 2, 3, 4, 5] rfl rfl (by decide) ?_ ?_⟩
              · (iterate 2 ((try simp (etaStruct := .none) only [push_cast, DrawG, Int.cast_ofNat_Int, seval, st1, st2, st3]); (try simp (disch := omega) only [wrap_in, wk_self, tdv, tmd]); (repeat with_reducible refine obA ?_)))
              · (iterate 2 ((try simp (etaStruct := .none) only [push_cast, DrawG, Int.cast_ofNat_Int, seval, getD_in _ _ _ hlt, ordP]); (try simp (disch := omega) only [wrap_in, wk_self, tdv, tmd]); (repeat with_reducible refine obA ?_)))
        · (try simp only [xa, xb, xc, xd, xe, xf, xg, xh, xi, xj, Bool.not_true, Bool.not_false, xk, xl] at h4)
          obtain rfl : k = l.length := by omega
          (iterate 2 ((try simp (etaStruct := .none) only [push_cast, DrawG, Int.cast_ofNat_Int, seval, List.take_length]); (try simp (disch := omega) only [wrap_in, wk_self, tdv, tmd]); (repeat with_reducible refine obA ?_)))
          (try (refine ⟨by kernel_rfl, ?_⟩))
          (iterate 2 ((try simp (etaStruct := .none) only [push_cast, DrawG, Int.cast_ofNat_Int, seval, List.take_length]); (try simp (disch := omega) only [wrap_in, wk_self, tdv, tmd]); (repeat with_reducible refine obA ?_)))
          (first | (refine retA rfl (Wk.of ?_); (try simp (etaStruct := .none) only [push_cast, DrawG, Int.cast_ofNat_Int, seval]); first | done | (simp [*]; done) | (simp_all []; done)) | (refine retA rfl ?_; (try simp (etaStruct := .none) only [push_cast, DrawG, Int.cast_ofNat_Int, seval]); (try simp [*]); (try exact wkc)))
end Go.Proofs.YthiddmncjafklaaGreat
namespace Go.Proofs.YthiddmncjafklaaGreat
set_option linter.all false
open Go.RowKit
set_option maxRecDepth 100000
theorem deedV_now (w : Wld) (d : Ded) : (deedV w d).1.now = w.now := by
  unfold deedV
  repeat' split
  all_goals rfl
theorem deedsA_now (l : List Ded) : ∀ w, (deedsA w l).1.now = w.now := by
  induction l with
  | nil => intro w; rfl
  | cons a r ih => intro w; rw [deedsA, ih, deedV_now]
def tkA (w : Wld) (l : List Ord) : Wld := struckW w (blowsV l w)
def tkB (WR : Cel → List Int) (w : Wld) (l : List Ord) : Wld := setT (tkA w l) (marchV w.f WR (goesV l w) (tkA w l).troops).1
def tkC (WR : Cel → List Int) (w : Wld) (l : List Ord) : Wld := (deedsA (tkB WR w l) (deedsV l w)).1
def nowUp (w : Wld) : Wld := { w with now := w.now + 1 }
def turnV (WR : Cel → List Int) (w : Wld) (l : List Ord) : Wld := nowUp (tkC WR w l)
def turnG (w : Wld) (l : List Ord) : List Int := goneV w (blowsV l w)
def turnM (WR : Cel → List Int) (w : Wld) (l : List Ord) : List Int := (marchV w.f WR (goesV l w) (tkA w l).troops).2
def turnD (WR : Cel → List Int) (w : Wld) (l : List Ord) : List Bool := (deedsA (tkB WR w l) (deedsV l w)).2
def turnE (l : List Ord) (w : Wld) : Int := if splitE l w ≠ 0 then splitE l w else if 1000000 ≤ w.now then 6 else 0
theorem splitE_ok {l : List Ord} {w : Wld} (h : splitE l w = 0) : ordsE l = 0 ∧ worldE w = 0 := by
  have ho : ordsE l = 0 := by
    unfold splitE at h
    split at h
    · rename_i h1; exact absurd h h1
    · rename_i h1; simpa using h1
  exact ⟨ho, by unfold splitE at h; rwa [if_neg (by simp [ho])] at h⟩
theorem split_lens {l : List Ord} {w : Wld} (h : ordsE l = 0) : (blowsV l w).length ≤ 100 ∧ (goesV l w).length ≤ 100 ∧ (deedsV l w).length ≤ 100 := by
  obtain ⟨o1, o2⟩ := ordsE_ok h
  have f1 := ford_len (fun o => allowV o w) addB addB_len l
  have f2 := ford_len (fun o => allowV o w) addG addG_len l
  have f3 := ford_len (fun o => allowV o w) addD addD_len l
  change (blowsV l w).length ≤ _ at f1
  change (goesV l w).length ≤ _ at f2
  change (deedsV l w).length ≤ _ at f3
  omega
theorem right_tkA {w : Wld} (h : Right w) (l : List Ord) : Right (tkA w l) := right_struck h _ fun id => (harmV_b w _ id).1
theorem right_tkB {w : Wld} (h : Right w) {WR : Cel → List Int} (hWR : ∀ a, FloodIs w.f [a] (WR a)) (l : List Ord) : Right (tkB WR w l) := right_marched (w := tkA w l) (right_tkA h l) hWR _
theorem right_tkC {w : Wld} (h : Right w) {WR : Cel → List Int} (hWR : ∀ a, FloodIs w.f [a] (WR a)) (l : List Ord) : Right (tkC WR w l) := right_deeds _ (right_tkB h hWR l)
theorem tkC_now (WR : Cel → List Int) (w : Wld) (l : List Ord) : (tkC WR w l).now = w.now := by unfold tkC; rw [deedsA_now]; rfl
theorem right_nowUp {w : Wld} (h : Right w) (hn : w.now < 1000000) : Right (nowUp w) := by
  have := h.nw
  refine ⟨h.f, h.nb, h.nt, h.sl, h.ml, h.nx, ?_, h.base, h.mine, fun k hk => ?_, h.ord⟩
  · change 0 ≤ w.now + 1 ∧ w.now + 1 ≤ 1000000; omega
  · have t := h.trp k hk
    exact ⟨t.kind, t.id, t.owner, t.at_, t.x, t.y, t.life, t.load⟩
theorem right_turn {w : Wld} (h : Right w) {WR : Cel → List Int} (hWR : ∀ a, FloodIs w.f [a] (WR a)) (l : List Ord) (hn : w.now < 1000000) : Right (turnV WR w l) := right_nowUp (right_tkC h hWR l) (by rw [tkC_now]; exact hn)
end Go.Proofs.YthiddmncjafklaaGreat
namespace Go.Proofs.YthiddmncjafklaaGreat
set_option linter.all false
open Go.RowKit
set_option maxRecDepth 100000
set_option maxHeartbeats 1000000
abbrev repA (g m : List Int) (d : List Bool) : AV := .agg [.c (.sl 1 (g.map i64P)), .c (.sl 1 (m.map i64P)), .c (.sl 1 (d.map boolP))]
theorem tturn_k (w : Wld) (l : List Ord) (WR : Cel → List Int) (hWR : ∀ a, FloodIs w.f [a] (WR a)) (hll : l.length ≤ 9223372036854775807) (h : turnE l w = 0) : Spec Tryz.prog 7 [wldA w, .c (.sl 6 (l.map ordP))] [] (.tup [wldA (turnV WR w l), repA (turnG w l) (turnM WR w l) (turnD WR w l), I .i64 0]) [] := by
  have hs : splitE l w = 0 := by unfold turnE at h; split at h; rename_i h1; exact absurd h h1; rename_i h1; simpa using h1
  have hn : w.now < 1000000 := by unfold turnE at h; rw [if_neg (by simp [hs])] at h; split at h; exact absurd h (by decide); omega
  obtain ⟨ho, hw⟩ := splitE_ok hs
  have R0 := right_of hw
  have RA := right_tkA R0 l
  have RB := right_tkB R0 hWR l
  have RC := right_tkC R0 hWR l
  obtain ⟨n1, n2, n3⟩ := split_lens (w := w) ho
  have hnow : (tkC WR w l).now = w.now := tkC_now WR w l
  have hnw := R0.nw
  have e1 : blowsE w (blowsV l w) = 0 := by unfold blowsE; rw [if_neg (by simp [hw]), if_neg (by omega)]
  have HK := hstruck_k w (blowsV l w) R0.l (by omega) e1
  rw [e1, show struckR w (blowsV l w) = tkA w l from by unfold struckR; rw [if_pos e1]; rfl, show goneR w (blowsV l w) = turnG w l from by unfold goneR; rw [if_pos e1]; rfl] at HK
  have e2 : stepE (tkA w l) (goesV l w) = 0 := by unfold stepE; rw [if_neg (by simp [RA.e]), if_neg (by omega)]
  have MK := mstepW_s (tkA w l) (goesV l w) WR hWR RA.l (by omega)
  rw [e2, if_pos rfl, if_pos rfl, show setT (tkA w l) (marchV (tkA w l).f WR (goesV l w) (tkA w l).troops).1 = tkB WR w l from rfl, show (marchV (tkA w l).f WR (goesV l w) (tkA w l).troops).2 = turnM WR w l from rfl] at MK
  have DK := do_k (tkB WR w l) (deedsV l w) RB (by omega)
  rw [show (deedsA (tkB WR w l) (deedsV l w)).1 = tkC WR w l from rfl, show (deedsA (tkB WR w l) (deedsV l w)).2 = turnD WR w l from rfl] at DK
  have hup : IntKind.i64.wrap ((tkC WR w l).now + 1) = w.now + 1 := by rw [hnow]; exact wrap_in _ (by omega) (by omega)
  have htv : turnV WR w l = { tkC WR w l with now := w.now + 1 } := by unfold turnV nowUp; rw [hnow]
  rw [htv]
  refine spec_am Tryz.func7 rfl rfl mix 62 rfl [.cell 4 28, .cell 5 32, .tmp 6] Tryz.results7 (Nat.le_of_ble_eq_true rfl) ?_
  (try simp (etaStruct := .none) only [push_cast, DrawG, Int.cast_ofNat_Int, seval]); (try simp (disch := omega) only [wrap_in, wk_self, tdv, tmd]); (repeat with_reducible refine obA ?_)
  refine callP (split_s l w hll R0.l ho hw) (WkL.refl _) ?_
  (try simp (etaStruct := .none) only [push_cast, DrawG, Int.cast_ofNat_Int, seval]); (try simp (disch := omega) only [wrap_in, wk_self, tdv, tmd]); (repeat with_reducible refine obA ?_)
  refine cond_i (fun h1 => ?_) (fun h1 => ?_)
  · (try simp only [xa, xb, xc, xd, xe, xf, xg, xh, xi, xj, Bool.not_true, Bool.not_false, xk, xl] at h1)
    omega
  · (try simp only [xa, xb, xc, xd, xe, xf, xg, xh, xi, xj, Bool.not_true, Bool.not_false, xk, xl] at h1)
    (try simp (etaStruct := .none) only [push_cast, DrawG, Int.cast_ofNat_Int, seval]); (try simp (disch := omega) only [wrap_in, wk_self, tdv, tmd]); (repeat with_reducible refine obA ?_)
    refine cond_i (fun h2 => ?_) (fun h2 => ?_)
    · (try simp only [xa, xb, xc, xd, xe, xf, xg, xh, xi, xj, Bool.not_true, Bool.not_false, xk, xl] at h2)
      simp at h2
    · (try simp only [xa, xb, xc, xd, xe, xf, xg, xh, xi, xj, Bool.not_true, Bool.not_false, xk, xl] at h2)
      (iterate 2 ((try simp (etaStruct := .none) only [push_cast, DrawG, Int.cast_ofNat_Int, seval, hup]); (try simp (disch := omega) only [wrap_in, wk_self, tdv, tmd]); (repeat with_reducible refine obA ?_)))
      refine callP (HK) (WkL.refl _) ?_
      (iterate 2 ((try simp (etaStruct := .none) only [push_cast, DrawG, Int.cast_ofNat_Int, seval, hup]); (try simp (disch := omega) only [wrap_in, wk_self, tdv, tmd]); (repeat with_reducible refine obA ?_)))
      refine callP (MK) (WkL.refl _) ?_
      (iterate 2 ((try simp (etaStruct := .none) only [push_cast, DrawG, Int.cast_ofNat_Int, seval, hup]); (try simp (disch := omega) only [wrap_in, wk_self, tdv, tmd]); (repeat with_reducible refine obA ?_)))
      refine callP (DK) (WkL.refl _) ?_
      (iterate 2 ((try simp (etaStruct := .none) only [push_cast, DrawG, Int.cast_ofNat_Int, seval, hup]); (try simp (disch := omega) only [wrap_in, wk_self, tdv, tmd]); (repeat with_reducible refine obA ?_)))
      (try (refine ⟨by kernel_rfl, ?_⟩))
      (iterate 2 ((try simp (etaStruct := .none) only [push_cast, DrawG, Int.cast_ofNat_Int, seval, hup]); (try simp (disch := omega) only [wrap_in, wk_self, tdv, tmd]); (repeat with_reducible refine obA ?_)))
      (first | (refine retA rfl (Wk.of ?_); (try simp (etaStruct := .none) only [push_cast, DrawG, Int.cast_ofNat_Int, seval]); first | done | (simp [*]; done) | (simp_all []; done)) | (refine retA rfl ?_; (try simp (etaStruct := .none) only [push_cast, DrawG, Int.cast_ofNat_Int, seval]); (try simp [*]); (try exact wkc)))
theorem tturn_e (w : Wld) (l : List Ord) (hl : wldL w) (hll : l.length ≤ 9223372036854775807) (h : splitE l w ≠ 0) : Spec Tryz.prog 7 [wldA w, .c (.sl 6 (l.map ordP))] [] (.tup [wldA default, repA [] [] [], I .i64 (splitE l w)]) [] := by
  refine spec_am Tryz.func7 rfl rfl mix 62 rfl [.cell 4 28, .cell 5 32, .tmp 6] Tryz.results7 (Nat.le_of_ble_eq_true rfl) ?_
  (try simp (etaStruct := .none) only [push_cast, DrawG, Int.cast_ofNat_Int, seval]); (try simp (disch := omega) only [wrap_in, wk_self, tdv, tmd]); (repeat with_reducible refine obA ?_)
  refine callP (split_bad l w hll hl h) (WkL.refl _) ?_
  (try simp (etaStruct := .none) only [push_cast, DrawG, Int.cast_ofNat_Int, seval]); (try simp (disch := omega) only [wrap_in, wk_self, tdv, tmd]); (repeat with_reducible refine obA ?_)
  refine cond_i (fun h1 => ?_) (fun h1 => ?_)
  · (try simp only [xa, xb, xc, xd, xe, xf, xg, xh, xi, xj, Bool.not_true, Bool.not_false, xk, xl] at h1)
    exact absurd h1.1 h
  · (try simp only [xa, xb, xc, xd, xe, xf, xg, xh, xi, xj, Bool.not_true, Bool.not_false, xk, xl] at h1)
    (try simp (etaStruct := .none) only [push_cast, DrawG, Int.cast_ofNat_Int, seval]); (try simp (disch := omega) only [wrap_in, wk_self, tdv, tmd]); (repeat with_reducible refine obA ?_)
    refine cond_i (fun h2 => ?_) (fun h2 => ?_)
    · (try simp only [xa, xb, xc, xd, xe, xf, xg, xh, xi, xj, Bool.not_true, Bool.not_false, xk, xl] at h2)
      (try simp (etaStruct := .none) only [push_cast, DrawG, Int.cast_ofNat_Int, seval]); (try simp (disch := omega) only [wrap_in, wk_self, tdv, tmd]); (repeat with_reducible refine obA ?_)
      (first | (refine retA rfl (Wk.of ?_); (try simp (etaStruct := .none) only [push_cast, DrawG, Int.cast_ofNat_Int, seval]); first | done | (simp [*]; done) | (simp_all []; done)) | (refine retA rfl ?_; (try simp (etaStruct := .none) only [push_cast, DrawG, Int.cast_ofNat_Int, seval]); (try simp [*]); (try exact wkc)))
    · (try simp only [xa, xb, xc, xd, xe, xf, xg, xh, xi, xj, Bool.not_true, Bool.not_false, xk, xl] at h2)
      exact absurd h2 h
theorem tturn_f (w : Wld) (l : List Ord) (hl : wldL w) (hll : l.length ≤ 9223372036854775807) (hs : splitE l w = 0) (hn : 1000000 ≤ w.now) : Spec Tryz.prog 7 [wldA w, .c (.sl 6 (l.map ordP))] [] (.tup [wldA default, repA [] [] [], I .i64 6]) [] := by
  obtain ⟨ho, hw⟩ := splitE_ok hs
  refine spec_am Tryz.func7 rfl rfl mix 62 rfl [.cell 4 28, .cell 5 32, .tmp 6] Tryz.results7 (Nat.le_of_ble_eq_true rfl) ?_
  (try simp (etaStruct := .none) only [push_cast, DrawG, Int.cast_ofNat_Int, seval]); (try simp (disch := omega) only [wrap_in, wk_self, tdv, tmd]); (repeat with_reducible refine obA ?_)
  refine callP (split_s l w hll hl ho hw) (WkL.refl _) ?_
  (try simp (etaStruct := .none) only [push_cast, DrawG, Int.cast_ofNat_Int, seval]); (try simp (disch := omega) only [wrap_in, wk_self, tdv, tmd]); (repeat with_reducible refine obA ?_)
  refine cond_i (fun h1 => ?_) (fun h1 => ?_)
  · (try simp only [xa, xb, xc, xd, xe, xf, xg, xh, xi, xj, Bool.not_true, Bool.not_false, xk, xl] at h1)
    (try simp (etaStruct := .none) only [push_cast, DrawG, Int.cast_ofNat_Int, seval]); (try simp (disch := omega) only [wrap_in, wk_self, tdv, tmd]); (repeat with_reducible refine obA ?_)
    refine cond_i (fun h2 => ?_) (fun h2 => ?_)
    · (try simp only [xa, xb, xc, xd, xe, xf, xg, xh, xi, xj, Bool.not_true, Bool.not_false, xk, xl] at h2)
      (try simp (etaStruct := .none) only [push_cast, DrawG, Int.cast_ofNat_Int, seval]); (try simp (disch := omega) only [wrap_in, wk_self, tdv, tmd]); (repeat with_reducible refine obA ?_)
      (first | (refine retA rfl (Wk.of ?_); (try simp (etaStruct := .none) only [push_cast, DrawG, Int.cast_ofNat_Int, seval]); first | done | (simp [*]; done) | (simp_all []; done)) | (refine retA rfl ?_; (try simp (etaStruct := .none) only [push_cast, DrawG, Int.cast_ofNat_Int, seval]); (try simp [*]); (try exact wkc)))
    · (try simp only [xa, xb, xc, xd, xe, xf, xg, xh, xi, xj, Bool.not_true, Bool.not_false, xk, xl] at h2)
      simp at h2
  · (try simp only [xa, xb, xc, xd, xe, xf, xg, xh, xi, xj, Bool.not_true, Bool.not_false, xk, xl] at h1)
    omega
end Go.Proofs.YthiddmncjafklaaGreat
namespace Go.Proofs.YthiddmncjafklaaGreat
set_option linter.all false
open Go.RowKit
set_option maxRecDepth 100000
set_option maxHeartbeats 1000000
theorem trp_any (F : FuncId) (a b : List AV) (l : List Trp) (p : Trp → Bool) (hl : l.length ≤ 9223372036854775807) (hp : ∀ n ∈ l, Spec Tryz.prog F (a ++ [trpA n] ++ b) [] (B (p n)) []) (ha : ∀ h, cvL [] h a = a) (hb : ∀ h, cvL [] h b = b) :
    Spec Tryz.prog 66 [.c (.sl 7 (l.map trpP)), .clo (.func F) a b] [] (B (l.any p)) [] := by
  refine spec_am Tryz.func66 rfl rfl mix 9 rfl [.tmp 4] Tryz.results66 (Nat.le_of_ble_eq_true rfl) ?_
  simp (etaStruct := .none) only [push_cast, DrawG, Int.cast_ofNat_Int, seval]
  refine callP (trp_ix F a b l p hl hp ha hb) (by simp only [ha, hb, cvL, cv]; exact WkL.refl _) ?_
  simp (etaStruct := .none) only [push_cast, DrawG, Int.cast_ofNat_Int, seval]
  exact ret0 rfl trivial (Wk.of (by rw [ixOf_any]; rfl))
end Go.Proofs.YthiddmncjafklaaGreat
namespace Go.Proofs.YthiddmncjafklaaGreat
set_option linter.all false
open Go.RowKit
set_option maxRecDepth 100000
set_option maxHeartbeats 2000000
theorem mat_s (wl : List Cel) (h1 : 1 < wl.length) (o : Trp) : Spec Tryz.prog 67 [trpA o, .fel 1 [[.sl 2 (wl.map celP)]] 0 0] [] (B (decide (o.c = wl.getD 1 default))) [] := by
  have e := cel_dec o.c (wl.getD 1 default)
  refine spec_am Tryz.func67 rfl rfl mix 10 rfl [.tmp 3] Tryz.results67 (Nat.le_of_ble_eq_true rfl) ?_
  (iterate 2 ((try simp (etaStruct := .none) only [push_cast, DrawG, Int.cast_ofNat_Int, seval, getD_in _ _ _ h1, celP]); (try simp (disch := omega) only [wrap_in, wk_self, tdv, tmd]); (repeat with_reducible refine obA ?_)))
  (try (refine ⟨by kernel_rfl, ?_⟩))
  (iterate 2 ((try simp (etaStruct := .none) only [push_cast, DrawG, Int.cast_ofNat_Int, seval, getD_in _ _ _ h1, celP]); (try simp (disch := omega) only [wrap_in, wk_self, tdv, tmd]); (repeat with_reducible refine obA ?_)))
  (first | (refine retA rfl (Wk.of ?_); (try simp (etaStruct := .none) only [push_cast, DrawG, Int.cast_ofNat_Int, seval]); first | done | (simp [e, *]; done) | (simp_all [e]; done)) | (refine retA rfl ?_; (try simp (etaStruct := .none) only [push_cast, DrawG, Int.cast_ofNat_Int, seval]); (try simp [e, *]); (try exact wkc)))
theorem marched_s (w : Wld) (l : List Gop) (WR : Cel → List Int) (hWR : ∀ a, FloodIs w.f [a] (WR a)) (hl : w.f.p.length ≤ 9223372036854775807) (hll : l.length ≤ 1000) (hnt : w.troops.length ≤ 100) : Spec Tryz.prog 33 [wldA w, .c (.sl 3 (l.map gopP))] [] (.tup [wldA (setT w (marchV w.f WR l w.troops).1), .c (.sl 1 ((marchV w.f WR l w.troops).2.map i64P))]) [] := by
  refine spec_am Tryz.func33 rfl rfl mix 75 rfl [.cell 4 28, .tmp 5] Tryz.results33 (Nat.le_of_ble_eq_true rfl) ?_
  (try simp (etaStruct := .none) only [push_cast, DrawG, Int.cast_ofNat_Int, seval]); (try simp (disch := omega) only [wrap_in, wk_self, tdv, tmd]); (repeat with_reducible refine obA ?_)
  refine callM [] (trp_clone w.troops (by omega)) (WkL.refl _) rfl (by decide) (by simp [lookC_c]) ?_
  (try simp (etaStruct := .none) only [push_cast, DrawG, Int.cast_ofNat_Int, seval]); (try simp (disch := omega) only [wrap_in, wk_self, tdv, tmd]); (repeat with_reducible refine obA ?_)
  refine loopI (fun k : Nat => ⟨[(21, I .i64 k), (20, I .i64 w.troops.length), (19, .own 1), (6, .own 2), (4, .ptr 3 0 0), (2, .ptr 0 0 0), (1, .c (.sl 3 (l.map gopP)))], [(0, .blk 28 (wldT w (.own 1))), (1, .row 89 7 ((marchK w.f WR l w.troops k).1.map trpP)), (2, .row 3 1 ((marchK w.f WR l w.troops k).2.map i64P)), (3, .blk 28 [I .i64 0, I .i64 0, .c (.v (.slice none 0 0)), .c (.v (.slice none 0 0)), .c (.v (.slice none 0 0)), .c (.v (.slice none 0 0)), .c (.v (.slice none 0 0)), I .i64 0, I .i64 0])], 4⟩) (fun k : Nat => k ≤ w.troops.length) (fun k : Nat => w.troops.length - k) (0) (Nat.zero_le _) ((To.nil 6 3 1 rfl).trans (To.mk [0, 2, 3, 1] rfl rfl (by decide) ?_ ?_)) ?_
  · simp (etaStruct := .none) only [push_cast, DrawG, Int.cast_ofNat_Int, seval, marchK_zero, List.map_nil]
  · simp (etaStruct := .none) only [push_cast, DrawG, Int.cast_ofNat_Int, seval]
  rintro k hk
  have hln := marchK_len w.f WR l w.troops k
  have hsk := marchK_succ w.f WR l w.troops k
  obtain ⟨S, hS⟩ : ∃ S, S = marchK w.f WR l w.troops k := ⟨_, rfl⟩
  rw [← hS] at hln hsk
  (iterate 2 ((try simp (etaStruct := .none) only [push_cast, DrawG, Int.cast_ofNat_Int, seval, ← hS, hln.1]); (try simp (disch := omega) only [wrap_in, wk_self, tdv, tmd]); (repeat with_reducible refine obA ?_)))
  refine cond_i (fun h1 => ?_) (fun h1 => ?_)
  · (try simp only [xa, xb, xc, xd, xe, xf, xg, xh, xi, xj, Bool.not_true, Bool.not_false, xk, xl] at h1)
    have hlt : k < S.1.length := by omega
    (iterate 2 ((try simp (etaStruct := .none) only [push_cast, DrawG, Int.cast_ofNat_Int, seval, ← hS, hln.1, getD_in _ _ _ hlt, trpP]); (try simp (disch := omega) only [wrap_in, wk_self, tdv, tmd]); (repeat with_reducible refine obA ?_)))
    refine loopI (fun j : Nat => ⟨[(28, I .i64 j), (27, I .i64 l.length), (26, .c (.sl 3 (l.map gopP))), (21, I .i64 k), (20, I .i64 w.troops.length), (19, .own 1), (8, .ptr 4 0 0), (7, I .i64 k), (6, .own 2), (4, .ptr 3 0 0), (2, .ptr 0 0 0), (1, .c (.sl 3 (l.map gopP)))], [(0, .blk 28 (wldT w (.own 1))), (1, .row 89 7 (S.1.map trpP)), (2, .row 3 1 (S.2.map i64P)), (3, .blk 28 [I .i64 0, I .i64 0, .c (.v (.slice none 0 0)), .c (.v (.slice none 0 0)), .c (.v (.slice none 0 0)), .c (.v (.slice none 0 0)), .c (.v (.slice none 0 0)), I .i64 0, I .i64 0]), (4, .blk 89 (trpC (S.1.getD k default)))], 5⟩) (fun j : Nat => j ≤ l.length ∧ ∀ i, i < j → ¬ (l.getD i default).id = (S.1.getD k default).id) (fun j : Nat => l.length - j) (0) (⟨Nat.zero_le _, fun i h => absurd h (Nat.not_lt_zero _)⟩) (To.mk [0, 1, 2, 3, 4] rfl rfl (by decide) ?_ ?_) ?_
    · simp (etaStruct := .none) only [push_cast, DrawG, Int.cast_ofNat_Int, seval, ← hS]
    · simp (etaStruct := .none) only [push_cast, DrawG, Int.cast_ofNat_Int, seval]
    rintro j ⟨hj, hno⟩
    (iterate 2 ((try simp (etaStruct := .none) only [push_cast, DrawG, Int.cast_ofNat_Int, seval, ← hS, hln.1, getD_in _ _ _ hlt, trpP]); (try simp (disch := omega) only [wrap_in, wk_self, tdv, tmd]); (repeat with_reducible refine obA ?_)))
    refine cond_i (fun h2 => ?_) (fun h2 => ?_)
    · (try simp only [xa, xb, xc, xd, xe, xf, xg, xh, xi, xj, Bool.not_true, Bool.not_false, xk, xl] at h2)
      have hjl : j < l.length := by omega
      (iterate 2 ((try simp (etaStruct := .none) only [push_cast, DrawG, Int.cast_ofNat_Int, seval, ← hS, hln.1, getD_in _ _ _ hlt, trpP, getD_in _ _ _ hjl, gopP]); (try simp (disch := omega) only [wrap_in, wk_self, tdv, tmd]); (repeat with_reducible refine obA ?_)))
      refine cond_i (fun h3 => ?_) (fun h3 => ?_)
      · (try simp only [xa, xb, xc, xd, xe, xf, xg, xh, xi, xj, Bool.not_true, Bool.not_false, xk, xl] at h3)
        have hno2 : ∀ i, i < j + 1 → ¬ (l.getD i default).id = (S.1.getD k default).id := fun i hi => by
          rcases Nat.lt_or_ge i j with h | h
          · exact hno i h
          · rw [show i = j by omega]; exact h3
        (iterate 2 ((try simp (etaStruct := .none) only [push_cast, DrawG, Int.cast_ofNat_Int, seval, ← hS, hln.1, getD_in _ _ _ hlt, trpP, getD_in _ _ _ hjl, gopP]); (try simp (disch := omega) only [wrap_in, wk_self, tdv, tmd]); (repeat with_reducible refine obA ?_)))
        refine ⟨j + 1, ⟨by omega, hno2⟩, by omega, To.mk [0, 1, 2, 3, 4] rfl rfl (by decide) ?_ ?_⟩
        · (iterate 2 ((try simp (etaStruct := .none) only [push_cast, DrawG, Int.cast_ofNat_Int, seval, ← hS, hln.1, getD_in _ _ _ hlt, trpP, getD_in _ _ _ hjl, gopP]); (try simp (disch := omega) only [wrap_in, wk_self, tdv, tmd]); (repeat with_reducible refine obA ?_)))
        · (iterate 2 ((try simp (etaStruct := .none) only [push_cast, DrawG, Int.cast_ofNat_Int, seval, ← hS, hln.1, getD_in _ _ _ hlt, trpP, getD_in _ _ _ hjl, gopP]); (try simp (disch := omega) only [wrap_in, wk_self, tdv, tmd]); (repeat with_reducible refine obA ?_)))
      · (try simp only [xa, xb, xc, xd, xe, xf, xg, xh, xi, xj, Bool.not_true, Bool.not_false, xk, xl] at h3)
        have hg : findG l (S.1.getD k default).id = some (l.getD j default) := find_hit _ l j hjl (by simpa using h3) (fun i hi => by simpa using hno i hi)
        obtain ⟨wl, hwl⟩ : ∃ wl, wl = wayW w.f WR (S.1.getD k default).c (l.getD j default).to := ⟨_, rfl⟩
        have hwy : (if wayE (WR (S.1.getD k default).c) w.f (S.1.getD k default).c (l.getD j default).to = 0 then wayV (WR (S.1.getD k default).c) w.f (S.1.getD k default).c (l.getD j default).to else []) = wl := hwl.symm
        have hst := stepT_some (f := w.f) (WR := WR) (ts := S.1) hg
        rw [← hwl] at hst
        (iterate 2 ((try simp (etaStruct := .none) only [push_cast, DrawG, Int.cast_ofNat_Int, seval, ← hS, hln.1, getD_in _ _ _ hlt, trpP, getD_in _ _ _ hjl, gopP]); (try simp (disch := omega) only [wrap_in, wk_self, tdv, tmd]); (repeat with_reducible refine obA ?_)))
        refine callP (wayOf_s w.f (S.1.getD k default).c (l.getD j default).to hl (WR (S.1.getD k default).c) (hWR _)) (WkL.refl _) ?_
        rw [hwy]
        (iterate 2 ((try simp (etaStruct := .none) only [push_cast, DrawG, Int.cast_ofNat_Int, seval, ← hS, hln.1, getD_in _ _ _ hlt, trpP, getD_in _ _ _ hjl, gopP]); (try simp (disch := omega) only [wrap_in, wk_self, tdv, tmd]); (repeat with_reducible refine obA ?_)))
        refine gcallB (fun hcc => trp_any 67 [] [.fel 1 [[.sl 2 (wl.map celP)]] 0 0] S.1 (fun o => decide (o.c = wl.getD 1 default)) (by omega) (fun o _ => mat_s wl (by simp only [decide_eq_true_eq] at hcc; omega) o) (fun _ => rfl) (fun _ => rfl)) (WkL.refl _) rfl (by intro hc; (try simp (etaStruct := .none) only [push_cast, DrawG, Int.cast_ofNat_Int, seval]); (try simp_all)) ?_
        (iterate 2 ((try simp (etaStruct := .none) only [push_cast, DrawG, Int.cast_ofNat_Int, seval, ← hS, hln.1, getD_in _ _ _ hlt, trpP, getD_in _ _ _ hjl, gopP]); (try simp (disch := omega) only [wrap_in, wk_self, tdv, tmd]); (repeat with_reducible refine obA ?_)))
        refine cond_i (fun h4 => ?_) (fun h4 => ?_)
        · (try simp only [xa, xb, xc, xd, xe, xf, xg, xh, xi, xj, Bool.not_true, Bool.not_false, xk, xl] at h4)
          have hB1 : 1 < wl.length := by omega
          have hms : marchS w.f WR l S k = (S.1.set k (setC (S.1.getD k default) (wl.getD 1 default)), S.2 ++ [(S.1.getD k default).id]) := marchS_some (by
            rw [hst, if_neg]
            rintro (h | h)
            · omega
            · rw [h] at h4; simp at h4)
          (iterate 2 ((try simp (etaStruct := .none) only [push_cast, DrawG, Int.cast_ofNat_Int, seval, ← hS, hln.1, getD_in _ _ _ hlt, trpP, getD_in _ _ _ hjl, gopP, getD_in _ _ _ hB1, celP]); (try simp (disch := omega) only [wrap_in, wk_self, tdv, tmd]); (repeat with_reducible refine obA ?_)))
          (try (refine ⟨by kernel_rfl, ?_⟩))
          (iterate 2 ((try simp (etaStruct := .none) only [push_cast, DrawG, Int.cast_ofNat_Int, seval, ← hS, hln.1, getD_in _ _ _ hlt, trpP, getD_in _ _ _ hjl, gopP, getD_in _ _ _ hB1, celP]); (try simp (disch := omega) only [wrap_in, wk_self, tdv, tmd]); (repeat with_reducible refine obA ?_)))
          refine ⟨k + 1, by omega, by omega, To.mk [0, 1, 44, 3] rfl rfl (by decide) ?_ ?_⟩
          · (iterate 2 ((try simp (etaStruct := .none) only [push_cast, DrawG, Int.cast_ofNat_Int, seval, hsk, hms, List.map_set, List.map_append, trpP, setC, i64P]); (try simp (disch := omega) only [wrap_in, wk_self, tdv, tmd]); (repeat with_reducible refine obA ?_)))
          · (iterate 2 ((try simp (etaStruct := .none) only [push_cast, DrawG, Int.cast_ofNat_Int, seval, ← hS, hln.1, getD_in _ _ _ hlt, trpP, getD_in _ _ _ hjl, gopP, getD_in _ _ _ hB1, celP]); (try simp (disch := omega) only [wrap_in, wk_self, tdv, tmd]); (repeat with_reducible refine obA ?_)))
        · (try simp only [xa, xb, xc, xd, xe, xf, xg, xh, xi, xj, Bool.not_true, Bool.not_false, xk, xl] at h4)
          have hms : marchS w.f WR l S k = S := marchS_none (by
            rw [hst, if_pos]
            rcases h4 with h | h
            · exact .inl (by omega)
            · exact .inr h)
          (iterate 2 ((try simp (etaStruct := .none) only [push_cast, DrawG, Int.cast_ofNat_Int, seval, ← hS, hln.1, getD_in _ _ _ hlt, trpP, getD_in _ _ _ hjl, gopP]); (try simp (disch := omega) only [wrap_in, wk_self, tdv, tmd]); (repeat with_reducible refine obA ?_)))
          refine ⟨k + 1, by omega, by omega, To.mk [0, 1, 2, 3] rfl rfl (by decide) ?_ ?_⟩
          · (iterate 2 ((try simp (etaStruct := .none) only [push_cast, DrawG, Int.cast_ofNat_Int, seval, hsk, hms]); (try simp (disch := omega) only [wrap_in, wk_self, tdv, tmd]); (repeat with_reducible refine obA ?_)))
          · (iterate 2 ((try simp (etaStruct := .none) only [push_cast, DrawG, Int.cast_ofNat_Int, seval, ← hS, hln.1, getD_in _ _ _ hlt, trpP, getD_in _ _ _ hjl, gopP]); (try simp (disch := omega) only [wrap_in, wk_self, tdv, tmd]); (repeat with_reducible refine obA ?_)))
    · (try simp only [xa, xb, xc, xd, xe, xf, xg, xh, xi, xj, Bool.not_true, Bool.not_false, xk, xl] at h2)
      have hnone : findG l (S.1.getD k default).id = none := by
        unfold findG
        rw [List.find?_eq_none]
        intro g hg
        obtain ⟨i, hi, rfl⟩ := mem_getD.1 hg
        simpa using hno i (by omega)
      have hms : marchS w.f WR l S k = S := marchS_none (by unfold stepT; rw [hnone])
      (iterate 2 ((try simp (etaStruct := .none) only [push_cast, DrawG, Int.cast_ofNat_Int, seval, ← hS, hln.1, getD_in _ _ _ hlt, trpP]); (try simp (disch := omega) only [wrap_in, wk_self, tdv, tmd]); (repeat with_reducible refine obA ?_)))
      refine ⟨k + 1, by omega, by omega, To.mk [0, 1, 2, 3] rfl rfl (by decide) ?_ ?_⟩
      · (iterate 2 ((try simp (etaStruct := .none) only [push_cast, DrawG, Int.cast_ofNat_Int, seval, hsk, hms]); (try simp (disch := omega) only [wrap_in, wk_self, tdv, tmd]); (repeat with_reducible refine obA ?_)))
      · (iterate 2 ((try simp (etaStruct := .none) only [push_cast, DrawG, Int.cast_ofNat_Int, seval, ← hS, hln.1, getD_in _ _ _ hlt, trpP]); (try simp (disch := omega) only [wrap_in, wk_self, tdv, tmd]); (repeat with_reducible refine obA ?_)))
  · (try simp only [xa, xb, xc, xd, xe, xf, xg, xh, xi, xj, Bool.not_true, Bool.not_false, xk, xl] at h1)
    obtain rfl : k = w.troops.length := by omega
    have hmv : marchV w.f WR l w.troops = S := hS.symm
    rw [hmv]
    (iterate 2 ((try simp (etaStruct := .none) only [push_cast, DrawG, Int.cast_ofNat_Int, seval, ← hS, hln.1]); (try simp (disch := omega) only [wrap_in, wk_self, tdv, tmd]); (repeat with_reducible refine obA ?_)))
    refine ret0 rfl (by repeat' (first | exact trivial | exact rfl | refine ⟨?_, ?_⟩)) (Wk.of ?_)
    first | rfl | kernel_rfl
end Go.Proofs.YthiddmncjafklaaGreat
namespace Go.Proofs.YthiddmncjafklaaGreat
set_option linter.all false
open Go.RowKit
set_option maxRecDepth 100000
set_option maxHeartbeats 2000000
theorem king_s (a b : Cel) (ha : -1000000 ≤ a.x ∧ a.x ≤ 1000000 ∧ -1000000 ≤ a.y ∧ a.y ≤ 1000000) : Spec Tryz.prog 109 [celA a, celA b] [] (B (besB a b)) [] := by
  refine spec_am Tryz.func109 rfl rfl mix 25 rfl [.tmp 4] Tryz.results109 (Nat.le_of_ble_eq_true rfl) ?_
  (try simp (etaStruct := .none) only [push_cast, DrawG, Int.cast_ofNat_Int, seval]); (try simp (disch := omega) only [wrap_in, wk_self, tdv, tmd]); (repeat with_reducible refine obA ?_)
  refine callP (between_s b.x (a.x - 1) (a.x + 1)) (WkL.refl _) ?_
  (try simp (etaStruct := .none) only [push_cast, DrawG, Int.cast_ofNat_Int, seval]); (try simp (disch := omega) only [wrap_in, wk_self, tdv, tmd]); (repeat with_reducible refine obA ?_)
  refine gcallP (fun hcc => between_s b.y (a.y - 1) (a.y + 1)) (WkL.refl _) (by intro hc; (try simp (etaStruct := .none) only [push_cast, DrawG, Int.cast_ofNat_Int, seval]); (try simp_all)) ?_
  (try simp (etaStruct := .none) only [push_cast, DrawG, Int.cast_ofNat_Int, seval]); (try simp (disch := omega) only [wrap_in, wk_self, tdv, tmd]); (repeat with_reducible refine obA ?_)
  (first | (refine retA rfl (Wk.of ?_); (try simp (etaStruct := .none) only [push_cast, DrawG, Int.cast_ofNat_Int, seval]); first | done | (simp [besB, *]; done) | (simp_all [besB]; done)) | (refine retA rfl ?_; (try simp (etaStruct := .none) only [push_cast, DrawG, Int.cast_ofNat_Int, seval]); (try simp [besB, *]); (try exact wkc)))
abbrev dedPV (d : Ded) : List PV := [pI d.kind, pI d.who, pI d.c.x, pI d.c.y, pI d.what]
theorem rdc1_s (t : Trp) (d : Ded) : Spec Tryz.prog 108 ([] ++ [trpA t] ++ [.fel 5 [dedPV d] 0 0]) [] (B (isId d.who t)) [] := by
  refine spec_am Tryz.func108 rfl rfl mix 9 rfl [.tmp 3] Tryz.results108 (Nat.le_of_ble_eq_true rfl) ?_
  (try simp (etaStruct := .none) only [push_cast, DrawG, Int.cast_ofNat_Int, seval]); (try simp (disch := omega) only [wrap_in, wk_self, tdv, tmd]); (repeat with_reducible refine obA ?_)
  (first | (refine retA rfl (Wk.of ?_); (try simp (etaStruct := .none) only [push_cast, DrawG, Int.cast_ofNat_Int, seval]); first | done | (simp [isId, *]; done) | (simp_all [isId]; done)) | (refine retA rfl ?_; (try simp (etaStruct := .none) only [push_cast, DrawG, Int.cast_ofNat_Int, seval]); (try simp [isId, *]); (try exact wkc)))
theorem rdc2_s (t : Trp) (c : Cel) : Spec Tryz.prog 110 ([] ++ [trpA t] ++ [.fel 2 [[pI c.x, pI c.y]] 0 0]) [] (B (decide (t.c = c))) [] := by
  refine spec_am Tryz.func110 rfl rfl mix 8 rfl [.tmp 3] Tryz.results110 (Nat.le_of_ble_eq_true rfl) ?_
  (iterate 2 ((try simp (etaStruct := .none) only [push_cast, DrawG, Int.cast_ofNat_Int, seval, cel_dec]); (try simp (disch := omega) only [wrap_in, wk_self, tdv, tmd]); (repeat with_reducible refine obA ?_)))
  (first | (refine retA rfl (Wk.of ?_); (try simp (etaStruct := .none) only [push_cast, DrawG, Int.cast_ofNat_Int, seval]); first | done | (simp [*]; done) | (simp_all []; done)) | (refine retA rfl ?_; (try simp (etaStruct := .none) only [push_cast, DrawG, Int.cast_ofNat_Int, seval]); (try simp [*]); (try exact wkc)))
theorem rd_0 (w : Wld) (d : Ded) (hw : Right w) (h : d.kind ≠ 1 ∧ d.kind ≠ 2 ∧ d.kind ≠ 3) : Spec Tryz.prog 68 [wldA w, dedA d] [] (.tup [wldA w, B false]) [] := by
  have p1 := hw.places
  have p2 := hw.nb
  have p3 := hw.sl
  have p4 := hw.ml
  have p5 := hw.nt
  refine spec_am Tryz.func68 rfl rfl mix 292 rfl [.cell 4 28, .tmp 5] Tryz.results68 (Nat.le_of_ble_eq_true rfl) ?_
  (try simp (etaStruct := .none) only [push_cast, DrawG, Int.cast_ofNat_Int, seval]); (try simp (disch := omega) only [wrap_in, wk_self, tdv, tmd]); (repeat with_reducible refine obA ?_)
  refine callM [] (int_clone w.stocks (by omega)) (WkL.refl _) rfl (by decide) (by simp [lookC_c]) ?_
  (try simp (etaStruct := .none) only [push_cast, DrawG, Int.cast_ofNat_Int, seval]); (try simp (disch := omega) only [wrap_in, wk_self, tdv, tmd]); (repeat with_reducible refine obA ?_)
  refine callM [] (int_clone w.mines (by omega)) (WkL.refl _) rfl (by decide) (by simp [lookC_c]) ?_
  (try simp (etaStruct := .none) only [push_cast, DrawG, Int.cast_ofNat_Int, seval]); (try simp (disch := omega) only [wrap_in, wk_self, tdv, tmd]); (repeat with_reducible refine obA ?_)
  refine callM [] (trp_clone w.troops (by omega)) (WkL.refl _) rfl (by decide) (by simp [lookC_c]) ?_
  (try simp (etaStruct := .none) only [push_cast, DrawG, Int.cast_ofNat_Int, seval]); (try simp (disch := omega) only [wrap_in, wk_self, tdv, tmd]); (repeat with_reducible refine obA ?_)
  (try (refine ⟨by kernel_rfl, ?_⟩))
  (try simp (etaStruct := .none) only [push_cast, DrawG, Int.cast_ofNat_Int, seval]); (try simp (disch := omega) only [wrap_in, wk_self, tdv, tmd]); (repeat with_reducible refine obA ?_)
  refine callB (trp_ix _ [] [.fel 5 [dedPV d] 0 0] w.troops (isId d.who) (by omega) (fun t _ => rdc1_s t d) (fun _ => rfl) (fun _ => rfl)) (WkL.refl _) rfl ?_
  (try simp (etaStruct := .none) only [push_cast, DrawG, Int.cast_ofNat_Int, seval]); (try simp (disch := omega) only [wrap_in, wk_self, tdv, tmd]); (repeat with_reducible refine obA ?_)
  refine cond_i (fun h1 => ?_) (fun h1 => ?_)
  · (try simp only [xa, xb, xc, xd, xe, xf, xg, xh, xi, xj, Bool.not_true, Bool.not_false, xk, xl] at h1)
    exfalso; omega
  · (try simp only [xa, xb, xc, xd, xe, xf, xg, xh, xi, xj, Bool.not_true, Bool.not_false, xk, xl] at h1)
    (try simp (etaStruct := .none) only [push_cast, DrawG, Int.cast_ofNat_Int, seval]); (try simp (disch := omega) only [wrap_in, wk_self, tdv, tmd]); (repeat with_reducible refine obA ?_)
    refine cond_i (fun h2 => ?_) (fun h2 => ?_)
    · (try simp only [xa, xb, xc, xd, xe, xf, xg, xh, xi, xj, Bool.not_true, Bool.not_false, xk, xl] at h2)
      exfalso; omega
    · (try simp only [xa, xb, xc, xd, xe, xf, xg, xh, xi, xj, Bool.not_true, Bool.not_false, xk, xl] at h2)
      (try simp (etaStruct := .none) only [push_cast, DrawG, Int.cast_ofNat_Int, seval]); (try simp (disch := omega) only [wrap_in, wk_self, tdv, tmd]); (repeat with_reducible refine obA ?_)
      refine cond_i (fun h3 => ?_) (fun h3 => ?_)
      · (try simp only [xa, xb, xc, xd, xe, xf, xg, xh, xi, xj, Bool.not_true, Bool.not_false, xk, xl] at h3)
        exfalso; omega
      · (try simp only [xa, xb, xc, xd, xe, xf, xg, xh, xi, xj, Bool.not_true, Bool.not_false, xk, xl] at h3)
        (try simp (etaStruct := .none) only [push_cast, DrawG, Int.cast_ofNat_Int, seval]); (try simp (disch := omega) only [wrap_in, wk_self, tdv, tmd]); (repeat with_reducible refine obA ?_)
        (first | (refine retA rfl (Wk.of ?_); (try simp (etaStruct := .none) only [push_cast, DrawG, Int.cast_ofNat_Int, seval]); first | done | (simp [*]; done) | (simp_all []; done)) | (refine retA rfl ?_; (try simp (etaStruct := .none) only [push_cast, DrawG, Int.cast_ofNat_Int, seval]); (try simp [*]); (try exact wkc)))
theorem rd_none (w : Wld) (d : Ded) (hw : Right w) (h : d.kind = 1 ∨ d.kind = 2) (hf : w.troops.findIdx? (isId d.who) = none) (hpos : 0 < w.troops.length) : Spec Tryz.prog 68 [wldA w, dedA d] [] (.tup [wldA w, B false]) [] := by
  have p1 := hw.places
  have p2 := hw.nb
  have p3 := hw.sl
  have p4 := hw.ml
  have p5 := hw.nt
  have hz : ixOf (isId d.who) w.troops = -1 := by unfold ixOf; rw [hf]
  have hz2 : (ixOf (isId d.who) w.troops).toNat = 0 := by rw [hz]; rfl
  obtain ⟨o, eo, ho, hs⟩ := own_at hw hpos
  refine spec_am Tryz.func68 rfl rfl mix 292 rfl [.cell 4 28, .tmp 5] Tryz.results68 (Nat.le_of_ble_eq_true rfl) ?_
  (iterate 2 ((try simp (etaStruct := .none) only [push_cast, DrawG, Int.cast_ofNat_Int, seval, hz2, getD_in _ _ _ hpos, trpP, eo, getD_in _ _ _ ho, celP]); (try simp (disch := omega) only [wrap_in, wk_self, tdv, tmd]); (repeat with_reducible refine obA ?_)))
  refine callM [] (int_clone w.stocks (by omega)) (WkL.refl _) rfl (by decide) (by simp [lookC_c]) ?_
  (iterate 2 ((try simp (etaStruct := .none) only [push_cast, DrawG, Int.cast_ofNat_Int, seval, hz2, getD_in _ _ _ hpos, trpP, eo, getD_in _ _ _ ho, celP]); (try simp (disch := omega) only [wrap_in, wk_self, tdv, tmd]); (repeat with_reducible refine obA ?_)))
  refine callM [] (int_clone w.mines (by omega)) (WkL.refl _) rfl (by decide) (by simp [lookC_c]) ?_
  (iterate 2 ((try simp (etaStruct := .none) only [push_cast, DrawG, Int.cast_ofNat_Int, seval, hz2, getD_in _ _ _ hpos, trpP, eo, getD_in _ _ _ ho, celP]); (try simp (disch := omega) only [wrap_in, wk_self, tdv, tmd]); (repeat with_reducible refine obA ?_)))
  refine callM [] (trp_clone w.troops (by omega)) (WkL.refl _) rfl (by decide) (by simp [lookC_c]) ?_
  (iterate 2 ((try simp (etaStruct := .none) only [push_cast, DrawG, Int.cast_ofNat_Int, seval, hz2, getD_in _ _ _ hpos, trpP, eo, getD_in _ _ _ ho, celP]); (try simp (disch := omega) only [wrap_in, wk_self, tdv, tmd]); (repeat with_reducible refine obA ?_)))
  (try (refine ⟨by kernel_rfl, ?_⟩))
  (iterate 2 ((try simp (etaStruct := .none) only [push_cast, DrawG, Int.cast_ofNat_Int, seval, hz2, getD_in _ _ _ hpos, trpP, eo, getD_in _ _ _ ho, celP]); (try simp (disch := omega) only [wrap_in, wk_self, tdv, tmd]); (repeat with_reducible refine obA ?_)))
  refine callB (trp_ix _ [] [.fel 5 [dedPV d] 0 0] w.troops (isId d.who) (by omega) (fun t _ => rdc1_s t d) (fun _ => rfl) (fun _ => rfl)) (WkL.refl _) rfl ?_
  (iterate 2 ((try simp (etaStruct := .none) only [push_cast, DrawG, Int.cast_ofNat_Int, seval, hz2, getD_in _ _ _ hpos, trpP, eo, getD_in _ _ _ ho, celP]); (try simp (disch := omega) only [wrap_in, wk_self, tdv, tmd]); (repeat with_reducible refine obA ?_)))
  refine cond_i (fun h1 => ?_) (fun h1 => ?_)
  · (try simp only [xa, xb, xc, xd, xe, xf, xg, xh, xi, xj, Bool.not_true, Bool.not_false, xk, xl] at h1)
    (iterate 2 ((try simp (etaStruct := .none) only [push_cast, DrawG, Int.cast_ofNat_Int, seval, hz2, getD_in _ _ _ hpos, trpP, eo, getD_in _ _ _ ho, celP]); (try simp (disch := omega) only [wrap_in, wk_self, tdv, tmd]); (repeat with_reducible refine obA ?_)))
    repeat (with_reducible refine And.intro ?_ ?_; · (simp [hz]; done))
    refine gcallP (fun hcc => in_s' w.f d.c hw.f) (WkL.refl _) (by intro hc; (try simp (etaStruct := .none) only [push_cast, DrawG, Int.cast_ofNat_Int, seval]); (try simp_all)) ?_
    (iterate 2 ((try simp (etaStruct := .none) only [push_cast, DrawG, Int.cast_ofNat_Int, seval, hz2, getD_in _ _ _ hpos, trpP, eo, getD_in _ _ _ ho, celP]); (try simp (disch := omega) only [wrap_in, wk_self, tdv, tmd]); (repeat with_reducible refine obA ?_)))
    refine gcallN ?_ ?_
    · simp [hz]
    (iterate 2 ((try simp (etaStruct := .none) only [push_cast, DrawG, Int.cast_ofNat_Int, seval, hz2, getD_in _ _ _ hpos, trpP, eo, getD_in _ _ _ ho, celP]); (try simp (disch := omega) only [wrap_in, wk_self, tdv, tmd]); (repeat with_reducible refine obA ?_)))
    (try (refine ⟨by kernel_rfl, ?_⟩))
    (iterate 2 ((try simp (etaStruct := .none) only [push_cast, DrawG, Int.cast_ofNat_Int, seval, hz2, getD_in _ _ _ hpos, trpP, eo, getD_in _ _ _ ho, celP]); (try simp (disch := omega) only [wrap_in, wk_self, tdv, tmd]); (repeat with_reducible refine obA ?_)))
    refine cond_i (fun h2 => ?_) (fun h2 => ?_)
    · (try simp only [xa, xb, xc, xd, xe, xf, xg, xh, xi, xj, Bool.not_true, Bool.not_false, xk, xl] at h2)
      (iterate 2 ((try simp (etaStruct := .none) only [push_cast, DrawG, Int.cast_ofNat_Int, seval, hz2, getD_in _ _ _ hpos, trpP, eo, getD_in _ _ _ ho, celP]); (try simp (disch := omega) only [wrap_in, wk_self, tdv, tmd]); (repeat with_reducible refine obA ?_)))
      (first | (refine retA rfl (Wk.of ?_); (try simp (etaStruct := .none) only [push_cast, DrawG, Int.cast_ofNat_Int, seval]); first | done | (simp [*]; done) | (simp_all []; done)) | (refine retA rfl ?_; (try simp (etaStruct := .none) only [push_cast, DrawG, Int.cast_ofNat_Int, seval]); (try simp [*]); (try exact wkc)))
    · (try simp only [xa, xb, xc, xd, xe, xf, xg, xh, xi, xj, Bool.not_true, Bool.not_false, xk, xl] at h2)
      exact absurd h2 (by decide)
  · (try simp only [xa, xb, xc, xd, xe, xf, xg, xh, xi, xj, Bool.not_true, Bool.not_false, xk, xl] at h1)
    (iterate 2 ((try simp (etaStruct := .none) only [push_cast, DrawG, Int.cast_ofNat_Int, seval, hz2, getD_in _ _ _ hpos, trpP, eo, getD_in _ _ _ ho, celP]); (try simp (disch := omega) only [wrap_in, wk_self, tdv, tmd]); (repeat with_reducible refine obA ?_)))
    refine cond_i (fun h3 => ?_) (fun h3 => ?_)
    · (try simp only [xa, xb, xc, xd, xe, xf, xg, xh, xi, xj, Bool.not_true, Bool.not_false, xk, xl] at h3)
      (iterate 2 ((try simp (etaStruct := .none) only [push_cast, DrawG, Int.cast_ofNat_Int, seval, hz2, getD_in _ _ _ hpos, trpP, eo, getD_in _ _ _ ho, celP]); (try simp (disch := omega) only [wrap_in, wk_self, tdv, tmd]); (repeat with_reducible refine obA ?_)))
      repeat (with_reducible refine And.intro ?_ ?_; · (simp [hz]; done))
      refine gcallN ?_ ?_
      · simp [hz]
      (iterate 2 ((try simp (etaStruct := .none) only [push_cast, DrawG, Int.cast_ofNat_Int, seval, hz2, getD_in _ _ _ hpos, trpP, eo, getD_in _ _ _ ho, celP]); (try simp (disch := omega) only [wrap_in, wk_self, tdv, tmd]); (repeat with_reducible refine obA ?_)))
      (try (refine ⟨by kernel_rfl, ?_⟩))
      (iterate 2 ((try simp (etaStruct := .none) only [push_cast, DrawG, Int.cast_ofNat_Int, seval, hz2, getD_in _ _ _ hpos, trpP, eo, getD_in _ _ _ ho, celP]); (try simp (disch := omega) only [wrap_in, wk_self, tdv, tmd]); (repeat with_reducible refine obA ?_)))
      refine cond_i (fun h4 => ?_) (fun h4 => ?_)
      · (try simp only [xa, xb, xc, xd, xe, xf, xg, xh, xi, xj, Bool.not_true, Bool.not_false, xk, xl] at h4)
        (iterate 2 ((try simp (etaStruct := .none) only [push_cast, DrawG, Int.cast_ofNat_Int, seval, hz2, getD_in _ _ _ hpos, trpP, eo, getD_in _ _ _ ho, celP]); (try simp (disch := omega) only [wrap_in, wk_self, tdv, tmd]); (repeat with_reducible refine obA ?_)))
        (first | (refine retA rfl (Wk.of ?_); (try simp (etaStruct := .none) only [push_cast, DrawG, Int.cast_ofNat_Int, seval]); first | done | (simp [*]; done) | (simp_all []; done)) | (refine retA rfl ?_; (try simp (etaStruct := .none) only [push_cast, DrawG, Int.cast_ofNat_Int, seval]); (try simp [*]); (try exact wkc)))
      · (try simp only [xa, xb, xc, xd, xe, xf, xg, xh, xi, xj, Bool.not_true, Bool.not_false, xk, xl] at h4)
        exact absurd h4 (by decide)
    · (try simp only [xa, xb, xc, xd, xe, xf, xg, xh, xi, xj, Bool.not_true, Bool.not_false, xk, xl] at h3)
      exfalso; omega
theorem rd_empty (w : Wld) (d : Ded) (hw : Right w) (h : d.kind = 1 ∨ d.kind = 2) (ht : w.troops = []) : Spec Tryz.prog 68 [wldA w, dedA d] [] (.tup [wldA w, B false]) [] := by
  have p1 := hw.places
  have p2 := hw.nb
  have p3 := hw.sl
  have p4 := hw.ml
  have p5 := hw.nt
  have hz : ixOf (isId d.who) ([] : List Trp) = -1 := rfl
  have hcl : Spec Tryz.prog 64 [.c (.sl 7 [])] [] (.own 0) [.row 89 7 []] := trp_clone [] (by simp)
  have hix : Spec Tryz.prog 107 [.c (.sl 7 []), .clo (.func 108) [] [.fel 5 [dedPV d] 0 0]] [] (I .i64 (ixOf (isId d.who) [])) [] := trp_ix _ [] [.fel 5 [dedPV d] 0 0] [] (isId d.who) (by simp) (fun t _ => rdc1_s t d) (fun _ => rfl) (fun _ => rfl)
  obtain ⟨wf, wb, ws, wm, wt, wn, wo⟩ := w
  simp only at ht p1 p2 p3 p4 p5
  subst ht
  refine spec_am Tryz.func68 rfl rfl mix 292 rfl [.cell 4 28, .tmp 5] Tryz.results68 (Nat.le_of_ble_eq_true rfl) ?_
  (iterate 2 ((try simp (etaStruct := .none) only [push_cast, DrawG, Int.cast_ofNat_Int, seval, List.getD_nil]); (try simp (disch := omega) only [wrap_in, wk_self, tdv, tmd]); (repeat with_reducible refine obA ?_)))
  refine callM [] (int_clone ws (by omega)) (WkL.refl _) rfl (by decide) (by simp [lookC_c]) ?_
  (iterate 2 ((try simp (etaStruct := .none) only [push_cast, DrawG, Int.cast_ofNat_Int, seval, List.getD_nil]); (try simp (disch := omega) only [wrap_in, wk_self, tdv, tmd]); (repeat with_reducible refine obA ?_)))
  refine callM [] (int_clone wm (by omega)) (WkL.refl _) rfl (by decide) (by simp [lookC_c]) ?_
  (iterate 2 ((try simp (etaStruct := .none) only [push_cast, DrawG, Int.cast_ofNat_Int, seval, List.getD_nil]); (try simp (disch := omega) only [wrap_in, wk_self, tdv, tmd]); (repeat with_reducible refine obA ?_)))
  refine callM [] (hcl) (WkL.refl _) rfl (by decide) (by simp [lookC_c]) ?_
  (iterate 2 ((try simp (etaStruct := .none) only [push_cast, DrawG, Int.cast_ofNat_Int, seval, List.getD_nil]); (try simp (disch := omega) only [wrap_in, wk_self, tdv, tmd]); (repeat with_reducible refine obA ?_)))
  (try (refine ⟨by kernel_rfl, ?_⟩))
  (iterate 2 ((try simp (etaStruct := .none) only [push_cast, DrawG, Int.cast_ofNat_Int, seval, List.getD_nil]); (try simp (disch := omega) only [wrap_in, wk_self, tdv, tmd]); (repeat with_reducible refine obA ?_)))
  refine callB (hix) (WkL.refl _) rfl ?_
  (iterate 2 ((try simp (etaStruct := .none) only [push_cast, DrawG, Int.cast_ofNat_Int, seval, List.getD_nil]); (try simp (disch := omega) only [wrap_in, wk_self, tdv, tmd]); (repeat with_reducible refine obA ?_)))
  refine cond_i (fun h1 => ?_) (fun h1 => ?_)
  · (try simp only [xa, xb, xc, xd, xe, xf, xg, xh, xi, xj, Bool.not_true, Bool.not_false, xk, xl] at h1)
    (iterate 2 ((try simp (etaStruct := .none) only [push_cast, DrawG, Int.cast_ofNat_Int, seval, List.getD_nil]); (try simp (disch := omega) only [wrap_in, wk_self, tdv, tmd]); (repeat with_reducible refine obA ?_)))
    repeat (with_reducible refine And.intro ?_ ?_; · (simp [hz]; done))
    refine gcallN ?_ ?_
    · simp [hz]
    (iterate 2 ((try simp (etaStruct := .none) only [push_cast, DrawG, Int.cast_ofNat_Int, seval, List.getD_nil]); (try simp (disch := omega) only [wrap_in, wk_self, tdv, tmd]); (repeat with_reducible refine obA ?_)))
    repeat (with_reducible refine And.intro ?_ ?_; · (simp [hz]; done))
    refine gcallN ?_ ?_
    · simp [hz]
    (iterate 2 ((try simp (etaStruct := .none) only [push_cast, DrawG, Int.cast_ofNat_Int, seval, List.getD_nil]); (try simp (disch := omega) only [wrap_in, wk_self, tdv, tmd]); (repeat with_reducible refine obA ?_)))
    (try (refine ⟨by kernel_rfl, ?_⟩))
    (iterate 2 ((try simp (etaStruct := .none) only [push_cast, DrawG, Int.cast_ofNat_Int, seval, List.getD_nil]); (try simp (disch := omega) only [wrap_in, wk_self, tdv, tmd]); (repeat with_reducible refine obA ?_)))
    refine cond_i (fun h2 => ?_) (fun h2 => ?_)
    · (try simp only [xa, xb, xc, xd, xe, xf, xg, xh, xi, xj, Bool.not_true, Bool.not_false, xk, xl] at h2)
      (iterate 2 ((try simp (etaStruct := .none) only [push_cast, DrawG, Int.cast_ofNat_Int, seval, List.getD_nil]); (try simp (disch := omega) only [wrap_in, wk_self, tdv, tmd]); (repeat with_reducible refine obA ?_)))
      (first | (refine retA rfl (Wk.of ?_); (try simp (etaStruct := .none) only [push_cast, DrawG, Int.cast_ofNat_Int, seval]); first | done | (simp [*]; done) | (simp_all []; done)) | (refine retA rfl ?_; (try simp (etaStruct := .none) only [push_cast, DrawG, Int.cast_ofNat_Int, seval]); (try simp [*]); (try exact wkc)))
    · (try simp only [xa, xb, xc, xd, xe, xf, xg, xh, xi, xj, Bool.not_true, Bool.not_false, xk, xl] at h2)
      simp [hz] at h2
  · (try simp only [xa, xb, xc, xd, xe, xf, xg, xh, xi, xj, Bool.not_true, Bool.not_false, xk, xl] at h1)
    (iterate 2 ((try simp (etaStruct := .none) only [push_cast, DrawG, Int.cast_ofNat_Int, seval, List.getD_nil]); (try simp (disch := omega) only [wrap_in, wk_self, tdv, tmd]); (repeat with_reducible refine obA ?_)))
    refine cond_i (fun h3 => ?_) (fun h3 => ?_)
    · (try simp only [xa, xb, xc, xd, xe, xf, xg, xh, xi, xj, Bool.not_true, Bool.not_false, xk, xl] at h3)
      (iterate 2 ((try simp (etaStruct := .none) only [push_cast, DrawG, Int.cast_ofNat_Int, seval, List.getD_nil]); (try simp (disch := omega) only [wrap_in, wk_self, tdv, tmd]); (repeat with_reducible refine obA ?_)))
      repeat (with_reducible refine And.intro ?_ ?_; · (simp [hz]; done))
      refine gcallN ?_ ?_
      · simp [hz]
      (iterate 2 ((try simp (etaStruct := .none) only [push_cast, DrawG, Int.cast_ofNat_Int, seval, List.getD_nil]); (try simp (disch := omega) only [wrap_in, wk_self, tdv, tmd]); (repeat with_reducible refine obA ?_)))
      (try (refine ⟨by kernel_rfl, ?_⟩))
      (iterate 2 ((try simp (etaStruct := .none) only [push_cast, DrawG, Int.cast_ofNat_Int, seval, List.getD_nil]); (try simp (disch := omega) only [wrap_in, wk_self, tdv, tmd]); (repeat with_reducible refine obA ?_)))
      refine cond_i (fun h4 => ?_) (fun h4 => ?_)
      · (try simp only [xa, xb, xc, xd, xe, xf, xg, xh, xi, xj, Bool.not_true, Bool.not_false, xk, xl] at h4)
        (iterate 2 ((try simp (etaStruct := .none) only [push_cast, DrawG, Int.cast_ofNat_Int, seval, List.getD_nil]); (try simp (disch := omega) only [wrap_in, wk_self, tdv, tmd]); (repeat with_reducible refine obA ?_)))
        (first | (refine retA rfl (Wk.of ?_); (try simp (etaStruct := .none) only [push_cast, DrawG, Int.cast_ofNat_Int, seval]); first | done | (simp [*]; done) | (simp_all []; done)) | (refine retA rfl ?_; (try simp (etaStruct := .none) only [push_cast, DrawG, Int.cast_ofNat_Int, seval]); (try simp [*]); (try exact wkc)))
      · (try simp only [xa, xb, xc, xd, xe, xf, xg, xh, xi, xj, Bool.not_true, Bool.not_false, xk, xl] at h4)
        simp [hz] at h4
    · (try simp only [xa, xb, xc, xd, xe, xf, xg, xh, xi, xj, Bool.not_true, Bool.not_false, xk, xl] at h3)
      exfalso; omega
theorem rd_mine (w : Wld) (d : Ded) (j : Nat) (hw : Right w) (h : d.kind = 1) (hf : w.troops.findIdx? (isId d.who) = some j) (b : Bool) (W : Wld) (hW : (mineOk w d j = true → W = mineAt w j (idxN w.f d.c) ∧ b = true) ∧ (mineOk w d j = false → W = w ∧ b = false)) : Spec Tryz.prog 68 [wldA w, dedA d] [] (.tup [wldA W, B b]) [] := by
  have p1 := hw.places
  have p2 := hw.nb
  have p3 := hw.sl
  have p4 := hw.ml
  have p5 := hw.nt
  have hz : ixOf (isId d.who) w.troops = (j : Int) := by unfold ixOf; rw [hf]
  have hj := find_idx hf
  have ok := hw.trp j hj
  have hx := ok.x; have hy := ok.y
  have hfl := fldE_ok hw.f
  have hld := ok.load
  refine spec_am Tryz.func68 rfl rfl mix 292 rfl [.cell 4 28, .tmp 5] Tryz.results68 (Nat.le_of_ble_eq_true rfl) ?_
  (iterate 2 ((try simp (etaStruct := .none) only [push_cast, DrawG, Int.cast_ofNat_Int, seval, hz, getD_in _ _ _ hj, trpP]); (try simp (disch := omega) only [wrap_in, wk_self, tdv, tmd]); (repeat with_reducible refine obA ?_)))
  refine callM [] (int_clone w.stocks (by omega)) (WkL.refl _) rfl (by decide) (by simp [lookC_c]) ?_
  (iterate 2 ((try simp (etaStruct := .none) only [push_cast, DrawG, Int.cast_ofNat_Int, seval, hz, getD_in _ _ _ hj, trpP]); (try simp (disch := omega) only [wrap_in, wk_self, tdv, tmd]); (repeat with_reducible refine obA ?_)))
  refine callM [] (int_clone w.mines (by omega)) (WkL.refl _) rfl (by decide) (by simp [lookC_c]) ?_
  (iterate 2 ((try simp (etaStruct := .none) only [push_cast, DrawG, Int.cast_ofNat_Int, seval, hz, getD_in _ _ _ hj, trpP]); (try simp (disch := omega) only [wrap_in, wk_self, tdv, tmd]); (repeat with_reducible refine obA ?_)))
  refine callM [] (trp_clone w.troops (by omega)) (WkL.refl _) rfl (by decide) (by simp [lookC_c]) ?_
  (iterate 2 ((try simp (etaStruct := .none) only [push_cast, DrawG, Int.cast_ofNat_Int, seval, hz, getD_in _ _ _ hj, trpP]); (try simp (disch := omega) only [wrap_in, wk_self, tdv, tmd]); (repeat with_reducible refine obA ?_)))
  (try (refine ⟨by kernel_rfl, ?_⟩))
  (iterate 2 ((try simp (etaStruct := .none) only [push_cast, DrawG, Int.cast_ofNat_Int, seval, hz, getD_in _ _ _ hj, trpP]); (try simp (disch := omega) only [wrap_in, wk_self, tdv, tmd]); (repeat with_reducible refine obA ?_)))
  refine callB (trp_ix _ [] [.fel 5 [dedPV d] 0 0] w.troops (isId d.who) (by omega) (fun t _ => rdc1_s t d) (fun _ => rfl) (fun _ => rfl)) (WkL.refl _) rfl ?_
  (iterate 2 ((try simp (etaStruct := .none) only [push_cast, DrawG, Int.cast_ofNat_Int, seval, hz, getD_in _ _ _ hj, trpP]); (try simp (disch := omega) only [wrap_in, wk_self, tdv, tmd]); (repeat with_reducible refine obA ?_)))
  refine cond_i (fun h1 => ?_) (fun h1 => ?_)
  · (try simp only [xa, xb, xc, xd, xe, xf, xg, xh, xi, xj, Bool.not_true, Bool.not_false, xk, xl] at h1)
    (iterate 2 ((try simp (etaStruct := .none) only [push_cast, DrawG, Int.cast_ofNat_Int, seval, hz, getD_in _ _ _ hj, trpP]); (try simp (disch := omega) only [wrap_in, wk_self, tdv, tmd]); (repeat with_reducible refine obA ?_)))
    refine gcallP (fun hcc => in_s' w.f d.c hw.f) (WkL.refl _) (by intro hc; (try simp (etaStruct := .none) only [push_cast, DrawG, Int.cast_ofNat_Int, seval]); (try simp_all)) ?_
    (iterate 2 ((try simp (etaStruct := .none) only [push_cast, DrawG, Int.cast_ofNat_Int, seval, hz, getD_in _ _ _ hj, trpP]); (try simp (disch := omega) only [wrap_in, wk_self, tdv, tmd]); (repeat with_reducible refine obA ?_)))
    refine gcallP (fun hcc => king_s (w.troops.getD j default).c d.c (by omega)) (WkL.refl _) (by intro hc; (try simp (etaStruct := .none) only [push_cast, DrawG, Int.cast_ofNat_Int, seval]); (try simp_all)) ?_
    (iterate 2 ((try simp (etaStruct := .none) only [push_cast, DrawG, Int.cast_ofNat_Int, seval, hz, getD_in _ _ _ hj, trpP]); (try simp (disch := omega) only [wrap_in, wk_self, tdv, tmd]); (repeat with_reducible refine obA ?_)))
    (try (refine ⟨by kernel_rfl, ?_⟩))
    (iterate 2 ((try simp (etaStruct := .none) only [push_cast, DrawG, Int.cast_ofNat_Int, seval, hz, getD_in _ _ _ hj, trpP]); (try simp (disch := omega) only [wrap_in, wk_self, tdv, tmd]); (repeat with_reducible refine obA ?_)))
    refine cond_i (fun h2 => ?_) (fun h2 => ?_)
    · (try simp only [xa, xb, xc, xd, xe, xf, xg, xh, xi, xj, Bool.not_true, Bool.not_false, xk, xl] at h2)
      have e : mineOk w d j = false := by
        unfold mineOk
        simp only [Bool.and_eq_false_iff, decide_eq_false_iff_not]
        rcases h2 with ((h2 | h2) | h2) | h2
        · exact .inl (.inl (.inl (.inl (by omega))))
        · exact .inl (.inl (.inl (.inr (by omega))))
        · exact .inl (.inr h2)
        · exact .inl (.inl (.inr h2))
      obtain ⟨rfl, rfl⟩ := hW.2 e
      (iterate 2 ((try simp (etaStruct := .none) only [push_cast, DrawG, Int.cast_ofNat_Int, seval, hz, getD_in _ _ _ hj, trpP]); (try simp (disch := omega) only [wrap_in, wk_self, tdv, tmd]); (repeat with_reducible refine obA ?_)))
      (first | (refine retA rfl (Wk.of ?_); (try simp (etaStruct := .none) only [push_cast, DrawG, Int.cast_ofNat_Int, seval]); first | done | (simp [*]; done) | (simp_all []; done)) | (refine retA rfl ?_; (try simp (etaStruct := .none) only [push_cast, DrawG, Int.cast_ofNat_Int, seval]); (try simp [*]); (try exact wkc)))
    · (try simp only [xa, xb, xc, xd, xe, xf, xg, xh, xi, xj, Bool.not_true, Bool.not_false, xk, xl] at h2)
      have hin : inF w.f d.c = true := h2.1.2
      obtain ⟨m1, m2, m3, m4⟩ := idx_in hw hin
      obtain ⟨m, hm⟩ : ∃ m, m = idxN w.f d.c := ⟨_, rfl⟩
      rw [← hm] at m1 m2
      have ew1 : IntKind.i64.wrap (IntKind.i64.wrap (d.c.y * w.f.w) + d.c.x) = (m : Int) := by rw [wrap_in (d.c.y * w.f.w) (by omega) (by omega), wrap_in _ (by omega) (by omega)]; exact m2
      have hmb := (hw.mine m m1).1
      (iterate 2 ((try simp (etaStruct := .none) only [push_cast, DrawG, Int.cast_ofNat_Int, seval, hz, getD_in _ _ _ hj, trpP, ew1, getD_in _ _ _ m1, i64P]); (try simp (disch := omega) only [wrap_in, wk_self, tdv, tmd]); (repeat with_reducible refine obA ?_)))
      refine cond_i (fun h3 => ?_) (fun h3 => ?_)
      · (try simp only [xa, xb, xc, xd, xe, xf, xg, xh, xi, xj, Bool.not_true, Bool.not_false, xk, xl] at h3)
        have e : mineOk w d j = false := by
          unfold mineOk
          simp only [Bool.and_eq_false_iff, decide_eq_false_iff_not]
          exact .inr (by rw [← hm]; omega)
        obtain ⟨rfl, rfl⟩ := hW.2 e
        (iterate 2 ((try simp (etaStruct := .none) only [push_cast, DrawG, Int.cast_ofNat_Int, seval, hz, getD_in _ _ _ hj, trpP, ew1, getD_in _ _ _ m1, i64P]); (try simp (disch := omega) only [wrap_in, wk_self, tdv, tmd]); (repeat with_reducible refine obA ?_)))
        (first | (refine retA rfl (Wk.of ?_); (try simp (etaStruct := .none) only [push_cast, DrawG, Int.cast_ofNat_Int, seval]); first | done | (simp [*]; done) | (simp_all []; done)) | (refine retA rfl ?_; (try simp (etaStruct := .none) only [push_cast, DrawG, Int.cast_ofNat_Int, seval]); (try simp [*]); (try exact wkc)))
      · (try simp only [xa, xb, xc, xd, xe, xf, xg, xh, xi, xj, Bool.not_true, Bool.not_false, xk, xl] at h3)
        have e : mineOk w d j = true := by
          unfold mineOk
          simp only [Bool.and_eq_true, decide_eq_true_eq]
          exact ⟨⟨⟨⟨by omega, by omega⟩, h2.2⟩, hin⟩, by rw [← hm]; omega⟩
        obtain ⟨rfl, rfl⟩ := hW.1 e
        rw [← hm]
        (iterate 2 ((try simp (etaStruct := .none) only [push_cast, DrawG, Int.cast_ofNat_Int, seval, hz, getD_in _ _ _ hj, trpP, ew1, getD_in _ _ _ m1, i64P]); (try simp (disch := omega) only [wrap_in, wk_self, tdv, tmd]); (repeat with_reducible refine obA ?_)))
        simp (etaStruct := .none) only [push_cast, DrawG, Int.cast_ofNat_Int, seval, mineAt, wldA, withLoad, List.map_set, i64P, trpP]
        exact ret0 rfl (by repeat' (first | exact trivial | exact rfl | refine ⟨?_, ?_⟩)) (Wk.refl _)
  · (try simp only [xa, xb, xc, xd, xe, xf, xg, xh, xi, xj, Bool.not_true, Bool.not_false, xk, xl] at h1)
    exact absurd h h1
theorem rd_drop (w : Wld) (d : Ded) (j : Nat) (hw : Right w) (h : d.kind = 2) (hf : w.troops.findIdx? (isId d.who) = some j) (b : Bool) (W : Wld) (hW : (dropOk w j = true → W = dropAt w j ∧ b = decide (0 < dropN w j)) ∧ (dropOk w j = false → W = w ∧ b = false)) : Spec Tryz.prog 68 [wldA w, dedA d] [] (.tup [wldA W, B b]) [] := by
  have p1 := hw.places
  have p2 := hw.nb
  have p3 := hw.sl
  have p4 := hw.ml
  have p5 := hw.nt
  have hz : ixOf (isId d.who) w.troops = (j : Int) := by unfold ixOf; rw [hf]
  have hj := find_idx hf
  have ok := hw.trp j hj
  obtain ⟨o, eo, ho, hs⟩ := own_at hw hj
  have hn := dropN_b hw hj
  have hb := hw.base o ho
  have hbx := inF_iff.1 (ground_iff.1 hb.1).1
  have hfl := fldE_ok hw.f
  have hld := ok.load
  have eo2 : (w.troops.getD j default).owner.toNat = o := by omega
  have edN : dropN w j = min (w.troops.getD j default).load (1000000 - w.stocks.getD o default) := by unfold dropN; rw [eo2]
  rw [eo2] at hn
  obtain ⟨t, ht⟩ : ∃ t, t = w.troops.getD j default := ⟨_, rfl⟩
  rw [← ht] at ok eo hn hld eo2 edN
  obtain ⟨s, hsv⟩ : ∃ s, s = w.stocks.getD o default := ⟨_, rfl⟩
  have setg : ∀ x : List PV, ((w.troops.map trpP).set j x).getD j [] = x := fun x => by rw [getD_at' _ _ _ (by simpa using hj)]; simp
  have setg2 : ∀ x : List PV, ((w.stocks.map i64P).set o x).getD o [] = x := fun x => by rw [getD_at' _ _ _ (by simpa using hs)]; simp
  have sets : ∀ x y : List PV, ((w.troops.map trpP).set j x).set j y = (w.troops.map trpP).set j y := fun x y => List.set_set _
  have sets2 : ∀ x y : List PV, ((w.stocks.map i64P).set o x).set o y = (w.stocks.map i64P).set o y := fun x y => List.set_set _
  have hset : w.troops.set j (withLoad t t.load) = w.troops := by
    have : withLoad t t.load = w.troops.getD j default := by rw [← ht]; rfl
    rw [this, set_same _ _ hj]
  have hset2 : w.stocks.set o s = w.stocks := by rw [hsv, set_same _ _ hs]
  refine spec_am Tryz.func68 rfl rfl mix 292 rfl [.cell 4 28, .tmp 5] Tryz.results68 (Nat.le_of_ble_eq_true rfl) ?_
  (iterate 2 ((try simp (etaStruct := .none) only [push_cast, DrawG, Int.cast_ofNat_Int, seval, hz, eo, List.map_set, withLoad, setg, setg2, sets, sets2, getD_in _ _ _ hj, ← ht, trpP, getD_in _ _ _ ho, celP, getD_in _ _ _ hs, ← hsv, i64P]); (try simp (disch := omega) only [wrap_in, wk_self, tdv, tmd]); (repeat with_reducible refine obA ?_)))
  refine callM [] (int_clone w.stocks (by omega)) (WkL.refl _) rfl (by decide) (by simp [lookC_c]) ?_
  (iterate 2 ((try simp (etaStruct := .none) only [push_cast, DrawG, Int.cast_ofNat_Int, seval, hz, eo, List.map_set, withLoad, setg, setg2, sets, sets2, getD_in _ _ _ hj, ← ht, trpP, getD_in _ _ _ ho, celP, getD_in _ _ _ hs, ← hsv, i64P]); (try simp (disch := omega) only [wrap_in, wk_self, tdv, tmd]); (repeat with_reducible refine obA ?_)))
  refine callM [] (int_clone w.mines (by omega)) (WkL.refl _) rfl (by decide) (by simp [lookC_c]) ?_
  (iterate 2 ((try simp (etaStruct := .none) only [push_cast, DrawG, Int.cast_ofNat_Int, seval, hz, eo, List.map_set, withLoad, setg, setg2, sets, sets2, getD_in _ _ _ hj, ← ht, trpP, getD_in _ _ _ ho, celP, getD_in _ _ _ hs, ← hsv, i64P]); (try simp (disch := omega) only [wrap_in, wk_self, tdv, tmd]); (repeat with_reducible refine obA ?_)))
  refine callM [] (trp_clone w.troops (by omega)) (WkL.refl _) rfl (by decide) (by simp [lookC_c]) ?_
  (iterate 2 ((try simp (etaStruct := .none) only [push_cast, DrawG, Int.cast_ofNat_Int, seval, hz, eo, List.map_set, withLoad, setg, setg2, sets, sets2, getD_in _ _ _ hj, ← ht, trpP, getD_in _ _ _ ho, celP, getD_in _ _ _ hs, ← hsv, i64P]); (try simp (disch := omega) only [wrap_in, wk_self, tdv, tmd]); (repeat with_reducible refine obA ?_)))
  (try (refine ⟨by kernel_rfl, ?_⟩))
  (iterate 2 ((try simp (etaStruct := .none) only [push_cast, DrawG, Int.cast_ofNat_Int, seval, hz, eo, List.map_set, withLoad, setg, setg2, sets, sets2, getD_in _ _ _ hj, ← ht, trpP, getD_in _ _ _ ho, celP, getD_in _ _ _ hs, ← hsv, i64P]); (try simp (disch := omega) only [wrap_in, wk_self, tdv, tmd]); (repeat with_reducible refine obA ?_)))
  refine callB (trp_ix _ [] [.fel 5 [dedPV d] 0 0] w.troops (isId d.who) (by omega) (fun t _ => rdc1_s t d) (fun _ => rfl) (fun _ => rfl)) (WkL.refl _) rfl ?_
  (iterate 2 ((try simp (etaStruct := .none) only [push_cast, DrawG, Int.cast_ofNat_Int, seval, hz, eo, List.map_set, withLoad, setg, setg2, sets, sets2, getD_in _ _ _ hj, ← ht, trpP, getD_in _ _ _ ho, celP, getD_in _ _ _ hs, ← hsv, i64P]); (try simp (disch := omega) only [wrap_in, wk_self, tdv, tmd]); (repeat with_reducible refine obA ?_)))
  refine cond_i (fun h1 => ?_) (fun h1 => ?_)
  · (try simp only [xa, xb, xc, xd, xe, xf, xg, xh, xi, xj, Bool.not_true, Bool.not_false, xk, xl] at h1)
    exfalso; omega
  · (try simp only [xa, xb, xc, xd, xe, xf, xg, xh, xi, xj, Bool.not_true, Bool.not_false, xk, xl] at h1)
    (iterate 2 ((try simp (etaStruct := .none) only [push_cast, DrawG, Int.cast_ofNat_Int, seval, hz, eo, List.map_set, withLoad, setg, setg2, sets, sets2, getD_in _ _ _ hj, ← ht, trpP, getD_in _ _ _ ho, celP, getD_in _ _ _ hs, ← hsv, i64P]); (try simp (disch := omega) only [wrap_in, wk_self, tdv, tmd]); (repeat with_reducible refine obA ?_)))
    refine cond_i (fun h2 => ?_) (fun h2 => ?_)
    · (try simp only [xa, xb, xc, xd, xe, xf, xg, xh, xi, xj, Bool.not_true, Bool.not_false, xk, xl] at h2)
      (iterate 2 ((try simp (etaStruct := .none) only [push_cast, DrawG, Int.cast_ofNat_Int, seval, hz, eo, List.map_set, withLoad, setg, setg2, sets, sets2, getD_in _ _ _ hj, ← ht, trpP, getD_in _ _ _ ho, celP, getD_in _ _ _ hs, ← hsv, i64P]); (try simp (disch := omega) only [wrap_in, wk_self, tdv, tmd]); (repeat with_reducible refine obA ?_)))
      refine gcallP (fun hcc => king_s (w.bases.getD o default) t.c (by omega)) (WkL.refl _) (by intro hc; (try simp (etaStruct := .none) only [push_cast, DrawG, Int.cast_ofNat_Int, seval]); (try simp_all)) ?_
      (iterate 2 ((try simp (etaStruct := .none) only [push_cast, DrawG, Int.cast_ofNat_Int, seval, hz, eo, List.map_set, withLoad, setg, setg2, sets, sets2, getD_in _ _ _ hj, ← ht, trpP, getD_in _ _ _ ho, celP, getD_in _ _ _ hs, ← hsv, i64P]); (try simp (disch := omega) only [wrap_in, wk_self, tdv, tmd]); (repeat with_reducible refine obA ?_)))
      (try (refine ⟨by kernel_rfl, ?_⟩))
      (iterate 2 ((try simp (etaStruct := .none) only [push_cast, DrawG, Int.cast_ofNat_Int, seval, hz, eo, List.map_set, withLoad, setg, setg2, sets, sets2, getD_in _ _ _ hj, ← ht, trpP, getD_in _ _ _ ho, celP, getD_in _ _ _ hs, ← hsv, i64P]); (try simp (disch := omega) only [wrap_in, wk_self, tdv, tmd]); (repeat with_reducible refine obA ?_)))
      refine cond_i (fun h3 => ?_) (fun h3 => ?_)
      · (try simp only [xa, xb, xc, xd, xe, xf, xg, xh, xi, xj, Bool.not_true, Bool.not_false, xk, xl] at h3)
        obtain ⟨rfl, rfl⟩ := hW.2 (by unfold dropOk; rw [← ht, eo2]; exact h3.resolve_left (by omega))
        (iterate 2 ((try simp (etaStruct := .none) only [push_cast, DrawG, Int.cast_ofNat_Int, seval, hz, eo, List.map_set, withLoad, setg, setg2, sets, sets2, getD_in _ _ _ hj, ← ht, trpP, getD_in _ _ _ ho, celP, getD_in _ _ _ hs, ← hsv, i64P]); (try simp (disch := omega) only [wrap_in, wk_self, tdv, tmd]); (repeat with_reducible refine obA ?_)))
        (first | (refine retA rfl (Wk.of ?_); (try simp (etaStruct := .none) only [push_cast, DrawG, Int.cast_ofNat_Int, seval]); first | done | (simp [*]; done) | (simp_all []; done)) | (refine retA rfl ?_; (try simp (etaStruct := .none) only [push_cast, DrawG, Int.cast_ofNat_Int, seval]); (try simp [*]); (try exact wkc)))
      · (try simp only [xa, xb, xc, xd, xe, xf, xg, xh, xi, xj, Bool.not_true, Bool.not_false, xk, xl] at h3)
        obtain ⟨rfl, rfl⟩ := hW.1 (by unfold dropOk; rw [← ht, eo2]; exact h3.2)
        (iterate 2 ((try simp (etaStruct := .none) only [push_cast, DrawG, Int.cast_ofNat_Int, seval, hz, eo, List.map_set, withLoad, setg, setg2, sets, sets2, getD_in _ _ _ hj, ← ht, trpP, getD_in _ _ _ ho, celP, getD_in _ _ _ hs, ← hsv, i64P]); (try simp (disch := omega) only [wrap_in, wk_self, tdv, tmd]); (repeat with_reducible refine obA ?_)))
        refine loopI (fun k : Nat => ⟨[(8, I .i64 k), (6, I .i64 j), (4, .ptr 1 0 0), (2, .ptr 0 0 0)], [(0, .blk 28 (shpC w 2 3 4)), (1, .blk 28 [I .i64 0, I .i64 0, .c (.v (.slice none 0 0)), .c (.v (.slice none 0 0)), .c (.v (.slice none 0 0)), .c (.v (.slice none 0 0)), .c (.v (.slice none 0 0)), I .i64 0, I .i64 0]), (2, .row 3 1 ((w.stocks.set o (s + k)).map i64P)), (3, miR w), (4, .row 89 7 ((w.troops.set j (withLoad t (t.load - k))).map trpP))], 5⟩) (fun k : Nat => (k : Int) ≤ dropN w j) (fun k : Nat => (dropN w j).toNat - k) (0) (by have := hn.1; simpa using this) (To.mk [0, 2, 11, 23, 35] rfl rfl (by decide) ?_ ?_) ?_
        · simp (etaStruct := .none) only [push_cast, DrawG, Int.cast_ofNat_Int, seval, Int.natCast_zero, Int.add_zero, Int.sub_zero, hset, hset2]
        · simp (etaStruct := .none) only [push_cast, DrawG, Int.cast_ofNat_Int, seval]
        rintro k hk
        have kt : t.kind = 1 ∨ t.kind = 2 := ok.kind
        (iterate 2 ((try simp (etaStruct := .none) only [push_cast, DrawG, Int.cast_ofNat_Int, seval, hz, eo, List.map_set, withLoad, setg, setg2, sets, sets2, getD_in _ _ _ hj, ← ht, trpP, getD_in _ _ _ ho, celP, getD_in _ _ _ hs, ← hsv, i64P]); (try simp (disch := omega) only [wrap_in, wk_self, tdv, tmd]); (repeat with_reducible refine obA ?_)))
        (try (refine ⟨by kernel_rfl, ?_⟩))
        (iterate 2 ((try simp (etaStruct := .none) only [push_cast, DrawG, Int.cast_ofNat_Int, seval, hz, eo, List.map_set, withLoad, setg, setg2, sets, sets2, getD_in _ _ _ hj, ← ht, trpP, getD_in _ _ _ ho, celP, getD_in _ _ _ hs, ← hsv, i64P]); (try simp (disch := omega) only [wrap_in, wk_self, tdv, tmd]); (repeat with_reducible refine obA ?_)))
        refine cond_i (fun h4 => ?_) (fun h4 => ?_)
        · (try simp only [xa, xb, xc, xd, xe, xf, xg, xh, xi, xj, Bool.not_true, Bool.not_false, xk, xl] at h4)
          have hk2 : (k : Int) + 1 ≤ dropN w j := by rw [edN]; omega
          (iterate 2 ((try simp (etaStruct := .none) only [push_cast, DrawG, Int.cast_ofNat_Int, seval, hz, eo, List.map_set, withLoad, setg, setg2, sets, sets2, getD_in _ _ _ hj, ← ht, trpP, getD_in _ _ _ ho, celP, getD_in _ _ _ hs, ← hsv, i64P]); (try simp (disch := omega) only [wrap_in, wk_self, tdv, tmd]); (repeat with_reducible refine obA ?_)))
          (try (refine ⟨by kernel_rfl, ?_⟩))
          (iterate 2 ((try simp (etaStruct := .none) only [push_cast, DrawG, Int.cast_ofNat_Int, seval, hz, eo, List.map_set, withLoad, setg, setg2, sets, sets2, getD_in _ _ _ hj, ← ht, trpP, getD_in _ _ _ ho, celP, getD_in _ _ _ hs, ← hsv, i64P]); (try simp (disch := omega) only [wrap_in, wk_self, tdv, tmd]); (repeat with_reducible refine obA ?_)))
          refine ⟨k + 1, by omega, by omega, To.mk [0, 1, 2, 3, 4] rfl rfl (by decide) ?_ ?_⟩
          · (iterate 2 ((try simp (etaStruct := .none) only [push_cast, DrawG, Int.cast_ofNat_Int, seval, List.map_set, withLoad, eo, setg, setg2, sets, sets2, trpP, i64P, Int.sub_sub, Int.add_assoc]); (try simp (disch := omega) only [wrap_in, wk_self, tdv, tmd]); (repeat with_reducible refine obA ?_)))
          · (iterate 2 ((try simp (etaStruct := .none) only [push_cast, DrawG, Int.cast_ofNat_Int, seval, hz, eo, List.map_set, withLoad, setg, setg2, sets, sets2, getD_in _ _ _ hj, ← ht, trpP, getD_in _ _ _ ho, celP, getD_in _ _ _ hs, ← hsv, i64P]); (try simp (disch := omega) only [wrap_in, wk_self, tdv, tmd]); (repeat with_reducible refine obA ?_)))
        · (try simp only [xa, xb, xc, xd, xe, xf, xg, xh, xi, xj, Bool.not_true, Bool.not_false, xk, xl] at h4)
          have hk3 : dropN w j = (k : Int) := by rw [edN] at hk ⊢; omega
          (iterate 2 ((try simp (etaStruct := .none) only [push_cast, DrawG, Int.cast_ofNat_Int, seval, hz, eo, List.map_set, withLoad, setg, setg2, sets, sets2, getD_in _ _ _ hj, ← ht, trpP, getD_in _ _ _ ho, celP, getD_in _ _ _ hs, ← hsv, i64P]); (try simp (disch := omega) only [wrap_in, wk_self, tdv, tmd]); (repeat with_reducible refine obA ?_)))
          simp (etaStruct := .none) only [push_cast, DrawG, Int.cast_ofNat_Int, seval, dropAt, wldA, ← ht, eo2, ← hsv, hk3, withLoad, List.map_set, i64P, trpP, eo]
          exact ret0 rfl (by repeat' (first | exact trivial | exact rfl | refine ⟨?_, ?_⟩)) (Wk.refl _)
    · (try simp only [xa, xb, xc, xd, xe, xf, xg, xh, xi, xj, Bool.not_true, Bool.not_false, xk, xl] at h2)
      exact absurd h h2
end Go.Proofs.YthiddmncjafklaaGreat
namespace Go.Proofs.YthiddmncjafklaaGreat
set_option linter.all false
open Go.RowKit
set_option maxRecDepth 100000
set_option maxHeartbeats 2000000
theorem around_m (b : Cel) {m : Nat} (hm : m < 9) : (around b).getD (m + 1) default = ⟨b.x + ((m % 3 : Nat) : Int) - 1, b.y + ((m / 3 : Nat) : Int) - 1⟩ := by
  have e : m + 1 = 1 + 3 * (m / 3) + m % 3 := by omega
  rw [e, around_at b (by omega) (by omega)]
  congr 1 <;> omega
theorem rd_hout (w : Wld) (d : Ded) (hw : Right w) (h : d.kind = 3) (hge : w.stocks.length ≤ d.who.toNat) : Spec Tryz.prog 68 [wldA w, dedA d] [] (.tup [wldA w, B false]) [] := by
  have p1 := hw.places
  have p2 := hw.nb
  have p3 := hw.sl
  have p4 := hw.ml
  have p5 := hw.nt
  have hg : (w.stocks.map i64P).getD d.who.toNat [] = [] := by
    simp only [List.getD_eq_getElem?_getD]; rw [List.getElem?_eq_none (by rw [List.length_map]; exact hge)]; rfl
  have hwf : within d.who 0 ((w.bases.length : Int) - 1) = false := by rw [within_f]; omega
  refine spec_am Tryz.func68 rfl rfl mix 292 rfl [.cell 4 28, .tmp 5] Tryz.results68 (Nat.le_of_ble_eq_true rfl) ?_
  (iterate 2 ((try simp (etaStruct := .none) only [push_cast, DrawG, Int.cast_ofNat_Int, seval, hg]); (try simp (disch := omega) only [wrap_in, wk_self, tdv, tmd]); (repeat with_reducible refine obA ?_)))
  refine callM [] (int_clone w.stocks (by omega)) (WkL.refl _) rfl (by decide) (by simp [lookC_c]) ?_
  (iterate 2 ((try simp (etaStruct := .none) only [push_cast, DrawG, Int.cast_ofNat_Int, seval, hg]); (try simp (disch := omega) only [wrap_in, wk_self, tdv, tmd]); (repeat with_reducible refine obA ?_)))
  refine callM [] (int_clone w.mines (by omega)) (WkL.refl _) rfl (by decide) (by simp [lookC_c]) ?_
  (iterate 2 ((try simp (etaStruct := .none) only [push_cast, DrawG, Int.cast_ofNat_Int, seval, hg]); (try simp (disch := omega) only [wrap_in, wk_self, tdv, tmd]); (repeat with_reducible refine obA ?_)))
  refine callM [] (trp_clone w.troops (by omega)) (WkL.refl _) rfl (by decide) (by simp [lookC_c]) ?_
  (iterate 2 ((try simp (etaStruct := .none) only [push_cast, DrawG, Int.cast_ofNat_Int, seval, hg]); (try simp (disch := omega) only [wrap_in, wk_self, tdv, tmd]); (repeat with_reducible refine obA ?_)))
  (try (refine ⟨by kernel_rfl, ?_⟩))
  (iterate 2 ((try simp (etaStruct := .none) only [push_cast, DrawG, Int.cast_ofNat_Int, seval, hg]); (try simp (disch := omega) only [wrap_in, wk_self, tdv, tmd]); (repeat with_reducible refine obA ?_)))
  refine callB (trp_ix _ [] [.fel 5 [dedPV d] 0 0] w.troops (isId d.who) (by omega) (fun t _ => rdc1_s t d) (fun _ => rfl) (fun _ => rfl)) (WkL.refl _) rfl ?_
  (iterate 2 ((try simp (etaStruct := .none) only [push_cast, DrawG, Int.cast_ofNat_Int, seval, hg]); (try simp (disch := omega) only [wrap_in, wk_self, tdv, tmd]); (repeat with_reducible refine obA ?_)))
  refine cond_i (fun h1 => ?_) (fun h1 => ?_)
  · (try simp only [xa, xb, xc, xd, xe, xf, xg, xh, xi, xj, Bool.not_true, Bool.not_false, xk, xl] at h1)
    exfalso; omega
  · (try simp only [xa, xb, xc, xd, xe, xf, xg, xh, xi, xj, Bool.not_true, Bool.not_false, xk, xl] at h1)
    (iterate 2 ((try simp (etaStruct := .none) only [push_cast, DrawG, Int.cast_ofNat_Int, seval, hg]); (try simp (disch := omega) only [wrap_in, wk_self, tdv, tmd]); (repeat with_reducible refine obA ?_)))
    refine cond_i (fun h2 => ?_) (fun h2 => ?_)
    · (try simp only [xa, xb, xc, xd, xe, xf, xg, xh, xi, xj, Bool.not_true, Bool.not_false, xk, xl] at h2)
      exfalso; omega
    · (try simp only [xa, xb, xc, xd, xe, xf, xg, xh, xi, xj, Bool.not_true, Bool.not_false, xk, xl] at h2)
      (iterate 2 ((try simp (etaStruct := .none) only [push_cast, DrawG, Int.cast_ofNat_Int, seval, hg]); (try simp (disch := omega) only [wrap_in, wk_self, tdv, tmd]); (repeat with_reducible refine obA ?_)))
      refine cond_i (fun h3 => ?_) (fun h3 => ?_)
      · (try simp only [xa, xb, xc, xd, xe, xf, xg, xh, xi, xj, Bool.not_true, Bool.not_false, xk, xl] at h3)
        (iterate 2 ((try simp (etaStruct := .none) only [push_cast, DrawG, Int.cast_ofNat_Int, seval, hg]); (try simp (disch := omega) only [wrap_in, wk_self, tdv, tmd]); (repeat with_reducible refine obA ?_)))
        refine callP (between_s d.who 0 ((w.bases.length : Int) - 1)) (WkL.refl _) ?_
        (iterate 2 ((try simp (etaStruct := .none) only [push_cast, DrawG, Int.cast_ofNat_Int, seval, hg]); (try simp (disch := omega) only [wrap_in, wk_self, tdv, tmd]); (repeat with_reducible refine obA ?_)))
        refine gcallP (fun hcc => between_s d.what 1 2) (WkL.refl _) (by intro hc; (try simp (etaStruct := .none) only [push_cast, DrawG, Int.cast_ofNat_Int, seval]); (try simp_all)) ?_
        (iterate 2 ((try simp (etaStruct := .none) only [push_cast, DrawG, Int.cast_ofNat_Int, seval, hg]); (try simp (disch := omega) only [wrap_in, wk_self, tdv, tmd]); (repeat with_reducible refine obA ?_)))
        repeat (with_reducible refine And.intro ?_ ?_; · (simp [hwf]; done))
        refine gcallN ?_ ?_
        · simp [hwf]
        (iterate 2 ((try simp (etaStruct := .none) only [push_cast, DrawG, Int.cast_ofNat_Int, seval, hg]); (try simp (disch := omega) only [wrap_in, wk_self, tdv, tmd]); (repeat with_reducible refine obA ?_)))
        repeat (with_reducible refine And.intro ?_ ?_; · (simp [hwf]; done))
        (try (refine ⟨by kernel_rfl, ?_⟩))
        (iterate 2 ((try simp (etaStruct := .none) only [push_cast, DrawG, Int.cast_ofNat_Int, seval, hg]); (try simp (disch := omega) only [wrap_in, wk_self, tdv, tmd]); (repeat with_reducible refine obA ?_)))
        refine cond_i (fun h4 => ?_) (fun h4 => ?_)
        · (try simp only [xa, xb, xc, xd, xe, xf, xg, xh, xi, xj, Bool.not_true, Bool.not_false, xk, xl] at h4)
          (iterate 2 ((try simp (etaStruct := .none) only [push_cast, DrawG, Int.cast_ofNat_Int, seval, hg]); (try simp (disch := omega) only [wrap_in, wk_self, tdv, tmd]); (repeat with_reducible refine obA ?_)))
          (first | (refine retA rfl (Wk.of ?_); (try simp (etaStruct := .none) only [push_cast, DrawG, Int.cast_ofNat_Int, seval]); first | done | (simp [*]; done) | (simp_all []; done)) | (refine retA rfl ?_; (try simp (etaStruct := .none) only [push_cast, DrawG, Int.cast_ofNat_Int, seval]); (try simp [*]); (try exact wkc)))
        · (try simp only [xa, xb, xc, xd, xe, xf, xg, xh, xi, xj, Bool.not_true, Bool.not_false, xk, xl] at h4)
          simp [hwf] at h4
      · (try simp only [xa, xb, xc, xd, xe, xf, xg, xh, xi, xj, Bool.not_true, Bool.not_false, xk, xl] at h3)
        exact absurd h h3
theorem rd_hire (w : Wld) (d : Ded) (hw : Right w) (h : d.kind = 3) (hs : d.who.toNat < w.stocks.length) (b : Bool) (W : Wld) (hW1 : hireOk w d = false → W = w ∧ b = false) (hW2 : hireOk w d = true → freeV w (w.bases.getD d.who.toNat default) = none → W = w ∧ b = false)
    (hW3 : ∀ c, hireOk w d = true → freeV w (w.bases.getD d.who.toNat default) = some c → W = hireAt w d c ∧ b = true) : Spec Tryz.prog 68 [wldA w, dedA d] [] (.tup [wldA W, B b]) [] := by
  have p1 := hw.places
  have p2 := hw.nb
  have p3 := hw.sl
  have p4 := hw.ml
  have p5 := hw.nt
  have hb : d.who.toNat < w.bases.length := by omega
  have hbb := base_box hw hb
  have hnx := hw.nx
  have hst := (hw.base _ hb).2.1
  obtain ⟨a, ha⟩ : ∃ a, a = w.bases.getD d.who.toNat default := ⟨_, rfl⟩
  have hal : (around a).length = 10 := rfl
  rw [← ha] at hbb hW2 hW3
  refine spec_am Tryz.func68 rfl rfl mix 292 rfl [.cell 4 28, .tmp 5] Tryz.results68 (Nat.le_of_ble_eq_true rfl) ?_
  (iterate 2 ((try simp (etaStruct := .none) (maxSteps := 1000000) only [push_cast, DrawG, Int.cast_ofNat_Int, seval, getD_in _ _ _ hs, getD_in _ _ _ hb, ← ha, i64P, celP]); (try simp (disch := omega) only [wrap_in, wk_self, tdv, tmd]); (repeat with_reducible refine obA ?_)))
  refine callM [] (int_clone w.stocks (by omega)) (WkL.refl _) rfl (by decide) (by simp [lookC_c]) ?_
  (iterate 2 ((try simp (etaStruct := .none) (maxSteps := 1000000) only [push_cast, DrawG, Int.cast_ofNat_Int, seval, getD_in _ _ _ hs, getD_in _ _ _ hb, ← ha, i64P, celP]); (try simp (disch := omega) only [wrap_in, wk_self, tdv, tmd]); (repeat with_reducible refine obA ?_)))
  refine callM [] (int_clone w.mines (by omega)) (WkL.refl _) rfl (by decide) (by simp [lookC_c]) ?_
  (iterate 2 ((try simp (etaStruct := .none) (maxSteps := 1000000) only [push_cast, DrawG, Int.cast_ofNat_Int, seval, getD_in _ _ _ hs, getD_in _ _ _ hb, ← ha, i64P, celP]); (try simp (disch := omega) only [wrap_in, wk_self, tdv, tmd]); (repeat with_reducible refine obA ?_)))
  refine callM [] (trp_clone w.troops (by omega)) (WkL.refl _) rfl (by decide) (by simp [lookC_c]) ?_
  (iterate 2 ((try simp (etaStruct := .none) (maxSteps := 1000000) only [push_cast, DrawG, Int.cast_ofNat_Int, seval, getD_in _ _ _ hs, getD_in _ _ _ hb, ← ha, i64P, celP]); (try simp (disch := omega) only [wrap_in, wk_self, tdv, tmd]); (repeat with_reducible refine obA ?_)))
  (try (refine ⟨by kernel_rfl, ?_⟩))
  (iterate 2 ((try simp (etaStruct := .none) (maxSteps := 1000000) only [push_cast, DrawG, Int.cast_ofNat_Int, seval, getD_in _ _ _ hs, getD_in _ _ _ hb, ← ha, i64P, celP]); (try simp (disch := omega) only [wrap_in, wk_self, tdv, tmd]); (repeat with_reducible refine obA ?_)))
  refine callB (trp_ix _ [] [.fel 5 [dedPV d] 0 0] w.troops (isId d.who) (by omega) (fun t _ => rdc1_s t d) (fun _ => rfl) (fun _ => rfl)) (WkL.refl _) rfl ?_
  (iterate 2 ((try simp (etaStruct := .none) (maxSteps := 1000000) only [push_cast, DrawG, Int.cast_ofNat_Int, seval, getD_in _ _ _ hs, getD_in _ _ _ hb, ← ha, i64P, celP]); (try simp (disch := omega) only [wrap_in, wk_self, tdv, tmd]); (repeat with_reducible refine obA ?_)))
  refine cond_i (fun h1 => ?_) (fun h1 => ?_)
  · (try simp only [xa, xb, xc, xd, xe, xf, xg, xh, xi, xj, Bool.not_true, Bool.not_false, xk, xl] at h1)
    exfalso; omega
  · (try simp only [xa, xb, xc, xd, xe, xf, xg, xh, xi, xj, Bool.not_true, Bool.not_false, xk, xl] at h1)
    (iterate 2 ((try simp (etaStruct := .none) (maxSteps := 1000000) only [push_cast, DrawG, Int.cast_ofNat_Int, seval, getD_in _ _ _ hs, getD_in _ _ _ hb, ← ha, i64P, celP]); (try simp (disch := omega) only [wrap_in, wk_self, tdv, tmd]); (repeat with_reducible refine obA ?_)))
    refine cond_i (fun h2 => ?_) (fun h2 => ?_)
    · (try simp only [xa, xb, xc, xd, xe, xf, xg, xh, xi, xj, Bool.not_true, Bool.not_false, xk, xl] at h2)
      exfalso; omega
    · (try simp only [xa, xb, xc, xd, xe, xf, xg, xh, xi, xj, Bool.not_true, Bool.not_false, xk, xl] at h2)
      (iterate 2 ((try simp (etaStruct := .none) (maxSteps := 1000000) only [push_cast, DrawG, Int.cast_ofNat_Int, seval, getD_in _ _ _ hs, getD_in _ _ _ hb, ← ha, i64P, celP]); (try simp (disch := omega) only [wrap_in, wk_self, tdv, tmd]); (repeat with_reducible refine obA ?_)))
      refine cond_i (fun h3 => ?_) (fun h3 => ?_)
      · (try simp only [xa, xb, xc, xd, xe, xf, xg, xh, xi, xj, Bool.not_true, Bool.not_false, xk, xl] at h3)
        (iterate 2 ((try simp (etaStruct := .none) (maxSteps := 1000000) only [push_cast, DrawG, Int.cast_ofNat_Int, seval, getD_in _ _ _ hs, getD_in _ _ _ hb, ← ha, i64P, celP]); (try simp (disch := omega) only [wrap_in, wk_self, tdv, tmd]); (repeat with_reducible refine obA ?_)))
        refine callP (between_s d.who 0 ((w.bases.length : Int) - 1)) (WkL.refl _) ?_
        (iterate 2 ((try simp (etaStruct := .none) (maxSteps := 1000000) only [push_cast, DrawG, Int.cast_ofNat_Int, seval, getD_in _ _ _ hs, getD_in _ _ _ hb, ← ha, i64P, celP]); (try simp (disch := omega) only [wrap_in, wk_self, tdv, tmd]); (repeat with_reducible refine obA ?_)))
        refine gcallP (fun hcc => between_s d.what 1 2) (WkL.refl _) (by intro hc; (try simp (etaStruct := .none) only [push_cast, DrawG, Int.cast_ofNat_Int, seval]); (try simp_all)) ?_
        (iterate 2 ((try simp (etaStruct := .none) (maxSteps := 1000000) only [push_cast, DrawG, Int.cast_ofNat_Int, seval, getD_in _ _ _ hs, getD_in _ _ _ hb, ← ha, i64P, celP]); (try simp (disch := omega) only [wrap_in, wk_self, tdv, tmd]); (repeat with_reducible refine obA ?_)))
        refine ⟨fun hh => ⟨hh, by have := (within_iff).1 hh.1; omega⟩, fun hh => ⟨hh, hs⟩, ?_⟩
        refine gcallP (fun hcc => kindOf_s d.what (by simp at hcc; have := (within_iff).1 hcc.2; omega)) (WkL.refl _) (by intro hc; (try simp (etaStruct := .none) only [push_cast, DrawG, Int.cast_ofNat_Int, seval]); (try simp_all)) ?_
        (iterate 2 ((try simp (etaStruct := .none) (maxSteps := 1000000) only [push_cast, DrawG, Int.cast_ofNat_Int, seval, getD_in _ _ _ hs, getD_in _ _ _ hb, ← ha, i64P, celP]); (try simp (disch := omega) only [wrap_in, wk_self, tdv, tmd]); (repeat with_reducible refine obA ?_)))
        (try (refine ⟨by kernel_rfl, ?_⟩))
        (iterate 2 ((try simp (etaStruct := .none) (maxSteps := 1000000) only [push_cast, DrawG, Int.cast_ofNat_Int, seval, getD_in _ _ _ hs, getD_in _ _ _ hb, ← ha, i64P, celP]); (try simp (disch := omega) only [wrap_in, wk_self, tdv, tmd]); (repeat with_reducible refine obA ?_)))
        refine cond_i (fun h4 => ?_) (fun h4 => ?_)
        · (try simp only [xa, xb, xc, xd, xe, xf, xg, xh, xi, xj, Bool.not_true, Bool.not_false, xk, xl] at h4)
          have hno : hireOk w d = false := by
            cases hh : hireOk w d with
            | false => rfl
            | true =>
              exfalso
              have hi := hireOk_iff.1 hh
              rcases h4 with (((h4 | h4) | h4) | h4) | h4
              · rw [within_f] at h4; omega
              · rw [within_f] at h4; omega
              · omega
              · omega
              · omega
          obtain ⟨rfl, rfl⟩ := hW1 hno
          (iterate 2 ((try simp (etaStruct := .none) (maxSteps := 1000000) only [push_cast, DrawG, Int.cast_ofNat_Int, seval, getD_in _ _ _ hs, getD_in _ _ _ hb, ← ha, i64P, celP]); (try simp (disch := omega) only [wrap_in, wk_self, tdv, tmd]); (repeat with_reducible refine obA ?_)))
          (first | (refine retA rfl (Wk.of ?_); (try simp (etaStruct := .none) only [push_cast, DrawG, Int.cast_ofNat_Int, seval]); first | done | (simp [*]; done) | (simp_all []; done)) | (refine retA rfl ?_; (try simp (etaStruct := .none) only [push_cast, DrawG, Int.cast_ofNat_Int, seval]); (try simp [*]); (try exact wkc)))
        · (try simp only [xa, xb, xc, xd, xe, xf, xg, xh, xi, xj, Bool.not_true, Bool.not_false, xk, xl] at h4)
          have hyes : hireOk w d = true := by
            rw [hireOk_iff]
            have q1 := (within_iff).1 h4.1.1.1.1
            have q2 := (within_iff).1 h4.1.1.1.2
            exact ⟨⟨⟨⟨⟨by omega, by omega⟩, by omega⟩, by omega⟩, by omega⟩, by omega⟩
          have q1 := (within_iff).1 h4.1.1.1.1
          have q2 := (within_iff).1 h4.1.1.1.2
          have hwk : d.what = 1 ∨ d.what = 2 := by omega
          have hpr : 0 ≤ (kindV d.what).price ∧ (kindV d.what).price ≤ 12 := by rcases hwk with e | e <;> rw [e] <;> decide
          (iterate 2 ((try simp (etaStruct := .none) (maxSteps := 1000000) only [push_cast, DrawG, Int.cast_ofNat_Int, seval, getD_in _ _ _ hs, getD_in _ _ _ hb, ← ha, i64P, celP]); (try simp (disch := omega) only [wrap_in, wk_self, tdv, tmd]); (repeat with_reducible refine obA ?_)))
          refine loopI (fun i : Nat => ⟨[(10, I .i64 ((i : Int) - 1)), (9, .ptr 3 0 0), (4, .ptr 2 0 0), (3, .ptr 1 0 0), (2, .ptr 0 0 0)], [(0, .blk 28 (shpC w 4 5 6)), (1, .blk 119 [I .i64 d.kind, I .i64 d.who, I .i64 d.c.x, I .i64 d.c.y, I .i64 d.what]), (2, .blk 28 [I .i64 0, I .i64 0, .c (.v (.slice none 0 0)), .c (.v (.slice none 0 0)), .c (.v (.slice none 0 0)), .c (.v (.slice none 0 0)), .c (.v (.slice none 0 0)), I .i64 0, I .i64 0]), (3, .blk 85 [I .i64 a.x, I .i64 a.y]), (4, stR w), (5, miR w), (6, trR w)], 7⟩) (fun i : Nat => i ≤ 10 ∧ ∀ j, j < i → freeB w ((around a).getD j default) = false) (fun i : Nat => 10 - i) (0) (⟨Nat.zero_le _, fun j h => absurd h (Nat.not_lt_zero _)⟩) (To.mk [0, 1, 2, 215, 11, 23, 35] rfl rfl (by decide) ?_ ?_) ?_
          · simp (etaStruct := .none) only [push_cast, DrawG, Int.cast_ofNat_Int, seval]
          · simp (etaStruct := .none) only [push_cast, DrawG, Int.cast_ofNat_Int, seval, Int.zero_sub]
          rintro i ⟨hi, hn⟩
          (iterate 2 ((try simp (etaStruct := .none) (maxSteps := 1000000) only [push_cast, DrawG, Int.cast_ofNat_Int, seval, getD_in _ _ _ hs, getD_in _ _ _ hb, ← ha, i64P, celP]); (try simp (disch := omega) only [wrap_in, wk_self, tdv, tmd]); (repeat with_reducible refine obA ?_)))
          refine cond_i (fun h5 => ?_) (fun h5 => ?_)
          · (try simp only [xa, xb, xc, xd, xe, xf, xg, xh, xi, xj, Bool.not_true, Bool.not_false, xk, xl] at h5)
            have hi9 : i < 10 := by omega
            obtain ⟨x, hx⟩ : ∃ x, x = (around a).getD i default := ⟨_, rfl⟩
            (iterate 2 ((try simp (etaStruct := .none) (maxSteps := 1000000) only [push_cast, DrawG, Int.cast_ofNat_Int, seval, getD_in _ _ _ hs, getD_in _ _ _ hb, ← ha, i64P, celP]); (try simp (disch := omega) only [wrap_in, wk_self, tdv, tmd]); (repeat with_reducible refine obA ?_)))
            refine cond_j (fun _u : Unit => ⟨[(11, .ptr 7 0 0), (10, I .i64 ((i : Int) - 1)), (9, .ptr 3 0 0), (4, .ptr 2 0 0), (3, .ptr 1 0 0), (2, .ptr 0 0 0)], [(0, .blk 28 (shpC w 4 5 6)), (1, .blk 119 [I .i64 d.kind, I .i64 d.who, I .i64 d.c.x, I .i64 d.c.y, I .i64 d.what]), (2, .blk 28 [I .i64 0, I .i64 0, .c (.v (.slice none 0 0)), .c (.v (.slice none 0 0)), .c (.v (.slice none 0 0)), .c (.v (.slice none 0 0)), .c (.v (.slice none 0 0)), I .i64 0, I .i64 0]), (3, .blk 85 [I .i64 a.x, I .i64 a.y]), (4, stR w), (5, miR w), (6, trR w), (7, .blk 85 [I .i64 x.x, I .i64 x.y])], 8⟩) (fun _u : Unit => Tr) (fun h6 => ?_) (fun h6 => ?_) ?_
            · (try simp only [xa, xb, xc, xd, xe, xf, xg, xh, xi, xj, Bool.not_true, Bool.not_false, xk, xl] at h6)
              obtain ⟨m, hm⟩ : ∃ m : Nat, i = m + 1 := ⟨i - 1, by omega⟩
              have hxm := around_m a (m := m) (by omega)
              rw [← hm, ← hx] at hxm
              have em : ((i : Int) - 1).tmod 3 = ((m % 3 : Nat) : Int) := by rw [hm, show (((m + 1 : Nat) : Int) - 1) = (m : Int) from by omega, Int.tmod_eq_emod_of_nonneg (by omega)]; rfl
              have ed : IntKind.i64.wrap (((i : Int) - 1).tdiv 3) = ((m / 3 : Nat) : Int) := by rw [hm, show (((m + 1 : Nat) : Int) - 1) = (m : Int) from by omega, Int.tdiv_eq_ediv_of_nonneg (by omega)]; exact wrap_in _ (by omega) (by omega)
              (iterate 2 ((try simp (etaStruct := .none) (maxSteps := 1000000) only [push_cast, DrawG, Int.cast_ofNat_Int, seval, getD_in _ _ _ hs, getD_in _ _ _ hb, ← ha, i64P, celP, em, ed]); (try simp (disch := omega) only [wrap_in, wk_self, tdv, tmd]); (repeat with_reducible refine obA ?_)))
              refine ⟨(), trI, To.mk [0, 1, 2, 3, 4, 5, 6, 7] rfl rfl (by decide) ?_ ?_⟩
              · (iterate 2 ((try simp (etaStruct := .none) only [push_cast, DrawG, Int.cast_ofNat_Int, seval, hxm, em, ed]); (try simp (disch := omega) only [wrap_in, wk_self, tdv, tmd]); (repeat with_reducible refine obA ?_)))
              · (iterate 2 ((try simp (etaStruct := .none) (maxSteps := 1000000) only [push_cast, DrawG, Int.cast_ofNat_Int, seval, getD_in _ _ _ hs, getD_in _ _ _ hb, ← ha, i64P, celP, em, ed]); (try simp (disch := omega) only [wrap_in, wk_self, tdv, tmd]); (repeat with_reducible refine obA ?_)))
            · (try simp only [xa, xb, xc, xd, xe, xf, xg, xh, xi, xj, Bool.not_true, Bool.not_false, xk, xl] at h6)
              obtain rfl : i = 0 := by omega
              have hxa : x = a := hx
              (iterate 2 ((try simp (etaStruct := .none) (maxSteps := 1000000) only [push_cast, DrawG, Int.cast_ofNat_Int, seval, getD_in _ _ _ hs, getD_in _ _ _ hb, ← ha, i64P, celP]); (try simp (disch := omega) only [wrap_in, wk_self, tdv, tmd]); (repeat with_reducible refine obA ?_)))
              refine ⟨(), trI, To.mk [0, 1, 2, 3, 4, 5, 6, 7] rfl rfl (by decide) ?_ ?_⟩
              · (iterate 2 ((try simp (etaStruct := .none) only [push_cast, DrawG, Int.cast_ofNat_Int, seval, hxa]); (try simp (disch := omega) only [wrap_in, wk_self, tdv, tmd]); (repeat with_reducible refine obA ?_)))
              · (iterate 2 ((try simp (etaStruct := .none) (maxSteps := 1000000) only [push_cast, DrawG, Int.cast_ofNat_Int, seval, getD_in _ _ _ hs, getD_in _ _ _ hb, ← ha, i64P, celP]); (try simp (disch := omega) only [wrap_in, wk_self, tdv, tmd]); (repeat with_reducible refine obA ?_)))
            · rintro _ _
              skip
              (iterate 2 ((try simp (etaStruct := .none) (maxSteps := 1000000) only [push_cast, DrawG, Int.cast_ofNat_Int, seval, getD_in _ _ _ hs, getD_in _ _ _ hb, ← ha, i64P, celP]); (try simp (disch := omega) only [wrap_in, wk_self, tdv, tmd]); (repeat with_reducible refine obA ?_)))
              refine callP (ground_s w.f x hw.f) (WkL.refl _) ?_
              (iterate 2 ((try simp (etaStruct := .none) (maxSteps := 1000000) only [push_cast, DrawG, Int.cast_ofNat_Int, seval, getD_in _ _ _ hs, getD_in _ _ _ hb, ← ha, i64P, celP]); (try simp (disch := omega) only [wrap_in, wk_self, tdv, tmd]); (repeat with_reducible refine obA ?_)))
              refine gcallB (fun hcc => trp_any _ [] [.fel 2 [[pI x.x, pI x.y]] 0 0] w.troops (fun t => decide (t.c = x)) (by omega) (fun t _ => rdc2_s t x) (fun _ => rfl) (fun _ => rfl)) (WkL.refl _) rfl (by intro hc; (try simp (etaStruct := .none) only [push_cast, DrawG, Int.cast_ofNat_Int, seval]); (try simp_all)) ?_
              (iterate 2 ((try simp (etaStruct := .none) (maxSteps := 1000000) only [push_cast, DrawG, Int.cast_ofNat_Int, seval, getD_in _ _ _ hs, getD_in _ _ _ hb, ← ha, i64P, celP]); (try simp (disch := omega) only [wrap_in, wk_self, tdv, tmd]); (repeat with_reducible refine obA ?_)))
              refine cond_i (fun h7 => ?_) (fun h7 => ?_)
              · (try simp only [xa, xb, xc, xd, xe, xf, xg, xh, xi, xj, Bool.not_true, Bool.not_false, xk, xl] at h7)
                have hfb : freeB w x = true := by unfold freeB; rw [h7.1, h7.2]; rfl
                obtain ⟨rfl, rfl⟩ := hW3 x hyes (by unfold freeV; rw [hx]; exact find_hit _ _ i (by rw [hal]; exact hi9) (by rw [← hx]; exact hfb) hn)
                (iterate 2 ((try simp (etaStruct := .none) (maxSteps := 1000000) only [push_cast, DrawG, Int.cast_ofNat_Int, seval, getD_in _ _ _ hs, getD_in _ _ _ hb, ← ha, i64P, celP]); (try simp (disch := omega) only [wrap_in, wk_self, tdv, tmd]); (repeat with_reducible refine obA ?_)))
                refine callP (kindOf_s d.what hwk) (WkL.refl _) ?_
                (iterate 2 ((try simp (etaStruct := .none) (maxSteps := 1000000) only [push_cast, DrawG, Int.cast_ofNat_Int, seval, getD_in _ _ _ hs, getD_in _ _ _ hb, ← ha, i64P, celP]); (try simp (disch := omega) only [wrap_in, wk_self, tdv, tmd]); (repeat with_reducible refine obA ?_)))
                (try (refine ⟨by kernel_rfl, ?_⟩))
                (iterate 2 ((try simp (etaStruct := .none) (maxSteps := 1000000) only [push_cast, DrawG, Int.cast_ofNat_Int, seval, getD_in _ _ _ hs, getD_in _ _ _ hb, ← ha, i64P, celP]); (try simp (disch := omega) only [wrap_in, wk_self, tdv, tmd]); (repeat with_reducible refine obA ?_)))
                refine callP (kindOf_s d.what hwk) (WkL.refl _) ?_
                (iterate 2 ((try simp (etaStruct := .none) (maxSteps := 1000000) only [push_cast, DrawG, Int.cast_ofNat_Int, seval, getD_in _ _ _ hs, getD_in _ _ _ hb, ← ha, i64P, celP]); (try simp (disch := omega) only [wrap_in, wk_self, tdv, tmd]); (repeat with_reducible refine obA ?_)))
                (try (refine ⟨by kernel_rfl, ?_⟩))
                (iterate 2 ((try simp (etaStruct := .none) (maxSteps := 1000000) only [push_cast, DrawG, Int.cast_ofNat_Int, seval, getD_in _ _ _ hs, getD_in _ _ _ hb, ← ha, i64P, celP]); (try simp (disch := omega) only [wrap_in, wk_self, tdv, tmd]); (repeat with_reducible refine obA ?_)))
                simp (etaStruct := .none) only [push_cast, DrawG, Int.cast_ofNat_Int, seval, hireAt, wldA, List.map_set, List.map_append, i64P, trpP]
                exact ret0 rfl (by repeat' (first | exact trivial | exact rfl | refine ⟨?_, ?_⟩)) (Wk.refl _)
              · (try simp only [xa, xb, xc, xd, xe, xf, xg, xh, xi, xj, Bool.not_true, Bool.not_false, xk, xl] at h7)
                have hfb : freeB w x = false := by
                  unfold freeB
                  rcases h7 with h7 | h7
                  · rw [h7]; rfl
                  · rw [h7]; simp
                (iterate 2 ((try simp (etaStruct := .none) (maxSteps := 1000000) only [push_cast, DrawG, Int.cast_ofNat_Int, seval, getD_in _ _ _ hs, getD_in _ _ _ hb, ← ha, i64P, celP]); (try simp (disch := omega) only [wrap_in, wk_self, tdv, tmd]); (repeat with_reducible refine obA ?_)))
                refine ⟨i + 1, ⟨by omega, fun j hj => by
  rcases Nat.lt_or_ge j i with h' | h'
  · exact hn j h'
  · rw [show j = i by omega, ← hx]; exact hfb⟩, by omega, To.mk [0, 1, 2, 3, 4, 5, 6] rfl rfl (by decide) ?_ ?_⟩
                · (iterate 2 ((try simp (etaStruct := .none) (maxSteps := 1000000) only [push_cast, DrawG, Int.cast_ofNat_Int, seval, getD_in _ _ _ hs, getD_in _ _ _ hb, ← ha, i64P, celP]); (try simp (disch := omega) only [wrap_in, wk_self, tdv, tmd]); (repeat with_reducible refine obA ?_)))
                · (iterate 2 ((try simp (etaStruct := .none) only [push_cast, DrawG, Int.cast_ofNat_Int, seval, Int.add_sub_cancel, Int.sub_add_cancel]); (try simp (disch := omega) only [wrap_in, wk_self, tdv, tmd]); (repeat with_reducible refine obA ?_)))
          · (try simp only [xa, xb, xc, xd, xe, xf, xg, xh, xi, xj, Bool.not_true, Bool.not_false, xk, xl] at h5)
            obtain ⟨rfl, rfl⟩ := hW2 hyes (find_miss _ _ (fun j hj => hn j (by rw [hal] at hj; omega)))
            (iterate 2 ((try simp (etaStruct := .none) (maxSteps := 1000000) only [push_cast, DrawG, Int.cast_ofNat_Int, seval, getD_in _ _ _ hs, getD_in _ _ _ hb, ← ha, i64P, celP]); (try simp (disch := omega) only [wrap_in, wk_self, tdv, tmd]); (repeat with_reducible refine obA ?_)))
            (first | (refine retA rfl (Wk.of ?_); (try simp (etaStruct := .none) only [push_cast, DrawG, Int.cast_ofNat_Int, seval]); first | done | (simp [*]; done) | (simp_all []; done)) | (refine retA rfl ?_; (try simp (etaStruct := .none) only [push_cast, DrawG, Int.cast_ofNat_Int, seval]); (try simp [*]); (try exact wkc)))
      · (try simp only [xa, xb, xc, xd, xe, xf, xg, xh, xi, xj, Bool.not_true, Bool.not_false, xk, xl] at h3)
        exact absurd h h3
end Go.Proofs.YthiddmncjafklaaGreat
namespace Go.Proofs.YthiddmncjafklaaGreat
set_option linter.all false
open Go.RowKit
set_option maxRecDepth 100000
set_option maxHeartbeats 1000000
theorem deeded_s (w : Wld) (d : Ded) (hw : Right w) : Spec Tryz.prog 68 [wldA w, dedA d] [] (.tup [wldA (deedV w d).1, B (deedV w d).2]) [] := by
  have none : d.kind = 1 ∨ d.kind = 2 → w.troops.findIdx? (isId d.who) = none → Spec Tryz.prog 68 [wldA w, dedA d] [] (.tup [wldA w, B false]) [] := fun h hf => by
    rcases Nat.eq_zero_or_pos w.troops.length with h3 | h3
    · exact rd_empty w d hw h (List.eq_nil_of_length_eq_zero h3)
    · exact rd_none w d hw h hf h3
  unfold deedV
  split
  · rename_i h
    split
    · rename_i i hi
      split
      · rename_i ho; exact rd_mine w d i hw h hi true _ ⟨fun _ => ⟨rfl, rfl⟩, fun h2 => by rw [ho] at h2; simp at h2⟩
      · rename_i ho; exact rd_mine w d i hw h hi false _ ⟨fun h2 => absurd h2 ho, fun _ => ⟨rfl, rfl⟩⟩
    · rename_i hi; exact none (.inl h) hi
  · split
    · rename_i h
      split
      · rename_i i hi
        split
        · rename_i ho; exact rd_drop w d i hw h hi _ _ ⟨fun _ => ⟨rfl, rfl⟩, fun h2 => by rw [ho] at h2; simp at h2⟩
        · rename_i ho; exact rd_drop w d i hw h hi false _ ⟨fun h2 => absurd h2 ho, fun _ => ⟨rfl, rfl⟩⟩
      · rename_i hi; exact none (.inr h) hi
    · split
      · rename_i h
        split
        · rename_i ho
          have hoi := hireOk_iff.1 ho
          have hs : d.who.toNat < w.stocks.length := by have := hw.sl; omega
          split
          · rename_i c hc; exact rd_hire w d hw h hs true _ (fun h2 => by rw [ho] at h2; simp at h2) (fun _ h2 => by rw [hc] at h2; simp at h2) (fun c' _ h2 => by rw [hc] at h2; rw [Option.some.inj h2]; exact ⟨rfl, rfl⟩)
          · rename_i hc; exact rd_hire w d hw h hs false _ (fun h2 => by rw [ho] at h2; simp at h2) (fun _ _ => ⟨rfl, rfl⟩) (fun c' _ h2 => by rw [hc] at h2; simp at h2)
        · rename_i ho
          rcases Nat.lt_or_ge d.who.toNat w.stocks.length with h2 | h2
          · exact rd_hire w d hw h h2 false _ (fun _ => ⟨rfl, rfl⟩) (fun h3 => absurd h3 ho) (fun c' h3 => absurd h3 ho)
          · exact rd_hout w d hw h h2
      · exact rd_0 w d hw ⟨by assumption, by assumption, by assumption⟩
theorem deededAll_s (w : Wld) (l : List Ded) (hw : Right w) (hll : l.length ≤ 200) : Spec Tryz.prog 34 [wldA w, .c (.sl 5 (l.map dedP))] [] (.tup [wldA (deedsA w l).1, .c (.sl 1 ((deedsA w l).2.map boolP))]) [] := by
  refine spec_am Tryz.func34 rfl rfl mix 29 rfl [.cell 4 28, .tmp 5] Tryz.results34 (Nat.le_of_ble_eq_true rfl) ?_
  (try simp (etaStruct := .none) only [push_cast, DrawG, Int.cast_ofNat_Int, seval]); (try simp (disch := omega) only [wrap_in, wk_self, tdv, tmd]); (repeat with_reducible refine obA ?_)
  refine loopI (fun k : Nat => ⟨[(12, I .i64 k), (11, I .i64 l.length), (10, .c (.sl 5 (l.map dedP))), (6, .own 2), (4, .ptr 1 0 0), (2, .ptr 0 0 0)], [(0, .blk 28 (wldC (deedsA w (l.take k)).1)), (1, .blk 28 [I .i64 0, I .i64 0, .c (.v (.slice none 0 0)), .c (.v (.slice none 0 0)), .c (.v (.slice none 0 0)), .c (.v (.slice none 0 0)), .c (.v (.slice none 0 0)), I .i64 0, I .i64 0]), (2, .row 4 1 ((deedsA w (l.take k)).2.map boolP))], 3⟩) (fun k : Nat => k ≤ l.length) (fun k : Nat => l.length - k) (0) (Nat.zero_le _) ((To.nil 6 4 1 rfl).trans (To.mk [0, 1, 2] rfl rfl (by decide) ?_ ?_)) ?_
  · simp (etaStruct := .none) only [push_cast, DrawG, Int.cast_ofNat_Int, seval, List.take_zero, deedsA]
  · simp (etaStruct := .none) only [push_cast, DrawG, Int.cast_ofNat_Int, seval]
  rintro k hk
  (try simp (etaStruct := .none) only [push_cast, DrawG, Int.cast_ofNat_Int, seval]); (try simp (disch := omega) only [wrap_in, wk_self, tdv, tmd]); (repeat with_reducible refine obA ?_)
  refine cond_i (fun h1 => ?_) (fun h1 => ?_)
  · (try simp only [xa, xb, xc, xd, xe, xf, xg, xh, xi, xj, Bool.not_true, Bool.not_false, xk, xl] at h1)
    have hlt : k < l.length := by omega
    obtain ⟨d, hd⟩ : ∃ d, d = l.getD k default := ⟨_, rfl⟩
    have hst : deedsA w (l.take (k + 1)) = ((deedV (deedsA w (l.take k)).1 d).1, (deedsA w (l.take k)).2 ++ [(deedV (deedsA w (l.take k)).1 d).2]) := by rw [take_snoc _ _ hlt, ← hd, deedsA_snoc]
    have hR := right_deeds (l.take k) hw
    have hbl := deedsA_len (l.take k) w
    rw [List.length_take] at hbl
    generalize (deedsA w (l.take k)).1 = W at *
    generalize (deedsA w (l.take k)).2 = bs at *
    (iterate 2 ((try simp (etaStruct := .none) only [push_cast, DrawG, Int.cast_ofNat_Int, seval, getD_in _ _ _ hlt, ← hd, dedP, boolP]); (try simp (disch := omega) only [wrap_in, wk_self, tdv, tmd]); (repeat with_reducible refine obA ?_)))
    refine callP (deeded_s W d hR) (WkL.refl _) ?_
    (iterate 2 ((try simp (etaStruct := .none) only [push_cast, DrawG, Int.cast_ofNat_Int, seval, getD_in _ _ _ hlt, ← hd, dedP, boolP]); (try simp (disch := omega) only [wrap_in, wk_self, tdv, tmd]); (repeat with_reducible refine obA ?_)))
    refine ⟨k + 1, by omega, by omega, To.mk [0, 1, 5] rfl rfl (by decide) ?_ ?_⟩
    · (iterate 2 ((try simp (etaStruct := .none) only [push_cast, DrawG, Int.cast_ofNat_Int, seval, hst, List.map_append, boolP]); (try simp (disch := omega) only [wrap_in, wk_self, tdv, tmd]); (repeat with_reducible refine obA ?_)))
    · (iterate 2 ((try simp (etaStruct := .none) only [push_cast, DrawG, Int.cast_ofNat_Int, seval, getD_in _ _ _ hlt, ← hd, dedP, boolP]); (try simp (disch := omega) only [wrap_in, wk_self, tdv, tmd]); (repeat with_reducible refine obA ?_)))
  · (try simp only [xa, xb, xc, xd, xe, xf, xg, xh, xi, xj, Bool.not_true, Bool.not_false, xk, xl] at h1)
    obtain rfl : k = l.length := by omega
    (iterate 2 ((try simp (etaStruct := .none) only [push_cast, DrawG, Int.cast_ofNat_Int, seval, List.take_length]); (try simp (disch := omega) only [wrap_in, wk_self, tdv, tmd]); (repeat with_reducible refine obA ?_)))
    (first | (refine retA rfl (Wk.of ?_); (try simp (etaStruct := .none) only [push_cast, DrawG, Int.cast_ofNat_Int, seval]); first | done | (simp [*]; done) | (simp_all []; done)) | (refine retA rfl ?_; (try simp (etaStruct := .none) only [push_cast, DrawG, Int.cast_ofNat_Int, seval]); (try simp [*]); (try exact wkc)))
end Go.Proofs.YthiddmncjafklaaGreat
namespace Go.Proofs.YthiddmncjafklaaGreat
set_option linter.all false
open Go.RowKit
set_option maxRecDepth 100000
set_option maxHeartbeats 1000000
theorem splitE_o {l : List Ord} {w : Wld} (h : ordsE l = 0) : splitE l w = worldE w := by unfold splitE; rw [if_neg (by simp [h])]
theorem splitE_n {l : List Ord} {w : Wld} (h : ordsE l ≠ 0) : splitE l w = ordsE l := by unfold splitE; rw [if_pos h]
theorem rturn_k (w : Wld) (l : List Ord) (WR : Cel → List Int) (hWR : ∀ a, FloodIs w.f [a] (WR a)) (hll : l.length ≤ 9223372036854775807) (h : turnE l w = 0) : Spec Tryz.prog 8 [wldA w, .c (.sl 6 (l.map ordP))] [] (.tup [wldA (turnV WR w l), repA (turnG w l) (turnM WR w l) (turnD WR w l), I .i64 0]) [] := by
  have hs : splitE l w = 0 := by unfold turnE at h; split at h; rename_i h1; exact absurd h h1; rename_i h1; simpa using h1
  have hn : w.now < 1000000 := by unfold turnE at h; rw [if_neg (by simp [hs])] at h; split at h; exact absurd h (by decide); omega
  obtain ⟨ho, hw⟩ := splitE_ok hs
  have R0 := right_of hw
  have RA := right_tkA R0 l
  have RB := right_tkB R0 hWR l
  have RC := right_tkC R0 hWR l
  obtain ⟨o1, o2⟩ := ordsE_ok ho
  obtain ⟨n1, n2, n3⟩ := split_lens (w := w) ho
  have hnow : (tkC WR w l).now = w.now := tkC_now WR w l
  have hnw := R0.nw
  have OR := orights_s l hll
  rw [ho] at OR
  have WRI := wright_s w R0.l
  rw [hw] at WRI
  have HK := struckw_s w (blowsV l w) R0.l hw (by omega)
  rw [show struckW w (blowsV l w) = tkA w l from rfl, show goneV w (blowsV l w) = turnG w l from rfl] at HK
  have hfo := fldE_ok RA.f
  have hb := right_b RA
  have MK := marched_s (tkA w l) (goesV l w) WR hWR (by omega) (by omega) (by omega)
  rw [show setT (tkA w l) (marchV (tkA w l).f WR (goesV l w) (tkA w l).troops).1 = tkB WR w l from rfl, show (marchV (tkA w l).f WR (goesV l w) (tkA w l).troops).2 = turnM WR w l from rfl] at MK
  have DK := deededAll_s (tkB WR w l) (deedsV l w) RB (by omega)
  rw [show (deedsA (tkB WR w l) (deedsV l w)).1 = tkC WR w l from rfl, show (deedsA (tkB WR w l) (deedsV l w)).2 = turnD WR w l from rfl] at DK
  have hup : IntKind.i64.wrap ((tkC WR w l).now + 1) = w.now + 1 := by rw [hnow]; exact wrap_in _ (by omega) (by omega)
  have htv : turnV WR w l = { tkC WR w l with now := w.now + 1 } := by unfold turnV nowUp; rw [hnow]
  rw [htv]
  refine spec_am Tryz.func8 rfl rfl mix 66 rfl [.cell 4 28, .cell 5 32, .tmp 6] Tryz.results8 (Nat.le_of_ble_eq_true rfl) ?_
  (try simp (etaStruct := .none) only [push_cast, DrawG, Int.cast_ofNat_Int, seval]); (try simp (disch := omega) only [wrap_in, wk_self, tdv, tmd]); (repeat with_reducible refine obA ?_)
  refine callP (OR) (WkL.refl _) ?_
  (try simp (etaStruct := .none) only [push_cast, DrawG, Int.cast_ofNat_Int, seval]); (try simp (disch := omega) only [wrap_in, wk_self, tdv, tmd]); (repeat with_reducible refine obA ?_)
  refine cond_i (fun h1 => ?_) (fun h1 => ?_)
  · (try simp only [xa, xb, xc, xd, xe, xf, xg, xh, xi, xj, Bool.not_true, Bool.not_false, xk, xl] at h1)
    (try simp (etaStruct := .none) only [push_cast, DrawG, Int.cast_ofNat_Int, seval]); (try simp (disch := omega) only [wrap_in, wk_self, tdv, tmd]); (repeat with_reducible refine obA ?_)
    refine callP (WRI) (WkL.refl _) ?_
    (try simp (etaStruct := .none) only [push_cast, DrawG, Int.cast_ofNat_Int, seval]); (try simp (disch := omega) only [wrap_in, wk_self, tdv, tmd]); (repeat with_reducible refine obA ?_)
    refine cond_i (fun h2 => ?_) (fun h2 => ?_)
    · (try simp only [xa, xb, xc, xd, xe, xf, xg, xh, xi, xj, Bool.not_true, Bool.not_false, xk, xl] at h2)
      omega
    · (try simp only [xa, xb, xc, xd, xe, xf, xg, xh, xi, xj, Bool.not_true, Bool.not_false, xk, xl] at h2)
      (try simp (etaStruct := .none) only [push_cast, DrawG, Int.cast_ofNat_Int, seval]); (try simp (disch := omega) only [wrap_in, wk_self, tdv, tmd]); (repeat with_reducible refine obA ?_)
      refine cond_i (fun h3 => ?_) (fun h3 => ?_)
      · (try simp only [xa, xb, xc, xd, xe, xf, xg, xh, xi, xj, Bool.not_true, Bool.not_false, xk, xl] at h3)
        simp at h3
      · (try simp only [xa, xb, xc, xd, xe, xf, xg, xh, xi, xj, Bool.not_true, Bool.not_false, xk, xl] at h3)
        (iterate 2 ((try simp (etaStruct := .none) only [push_cast, DrawG, Int.cast_ofNat_Int, seval, hup]); (try simp (disch := omega) only [wrap_in, wk_self, tdv, tmd]); (repeat with_reducible refine obA ?_)))
        refine callP (blows_s l w R0.l o1) (WkL.refl _) ?_
        (iterate 2 ((try simp (etaStruct := .none) only [push_cast, DrawG, Int.cast_ofNat_Int, seval, hup]); (try simp (disch := omega) only [wrap_in, wk_self, tdv, tmd]); (repeat with_reducible refine obA ?_)))
        refine callP (goes_s l w R0.l o1) (WkL.refl _) ?_
        (iterate 2 ((try simp (etaStruct := .none) only [push_cast, DrawG, Int.cast_ofNat_Int, seval, hup]); (try simp (disch := omega) only [wrap_in, wk_self, tdv, tmd]); (repeat with_reducible refine obA ?_)))
        refine callP (deeds_s l w R0.l o1 o2) (WkL.refl _) ?_
        (iterate 2 ((try simp (etaStruct := .none) only [push_cast, DrawG, Int.cast_ofNat_Int, seval, hup]); (try simp (disch := omega) only [wrap_in, wk_self, tdv, tmd]); (repeat with_reducible refine obA ?_)))
        (try (refine ⟨by kernel_rfl, ?_⟩))
        (iterate 2 ((try simp (etaStruct := .none) only [push_cast, DrawG, Int.cast_ofNat_Int, seval, hup]); (try simp (disch := omega) only [wrap_in, wk_self, tdv, tmd]); (repeat with_reducible refine obA ?_)))
        refine callP (HK) (WkL.refl _) ?_
        (iterate 2 ((try simp (etaStruct := .none) only [push_cast, DrawG, Int.cast_ofNat_Int, seval, hup]); (try simp (disch := omega) only [wrap_in, wk_self, tdv, tmd]); (repeat with_reducible refine obA ?_)))
        refine callP (MK) (WkL.refl _) ?_
        (iterate 2 ((try simp (etaStruct := .none) only [push_cast, DrawG, Int.cast_ofNat_Int, seval, hup]); (try simp (disch := omega) only [wrap_in, wk_self, tdv, tmd]); (repeat with_reducible refine obA ?_)))
        refine callP (DK) (WkL.refl _) ?_
        (iterate 2 ((try simp (etaStruct := .none) only [push_cast, DrawG, Int.cast_ofNat_Int, seval, hup]); (try simp (disch := omega) only [wrap_in, wk_self, tdv, tmd]); (repeat with_reducible refine obA ?_)))
        (try (refine ⟨by kernel_rfl, ?_⟩))
        (iterate 2 ((try simp (etaStruct := .none) only [push_cast, DrawG, Int.cast_ofNat_Int, seval, hup]); (try simp (disch := omega) only [wrap_in, wk_self, tdv, tmd]); (repeat with_reducible refine obA ?_)))
        (first | (refine retA rfl (Wk.of ?_); (try simp (etaStruct := .none) only [push_cast, DrawG, Int.cast_ofNat_Int, seval]); first | done | (simp [*]; done) | (simp_all []; done)) | (refine retA rfl ?_; (try simp (etaStruct := .none) only [push_cast, DrawG, Int.cast_ofNat_Int, seval]); (try simp [*]); (try exact wkc)))
  · (try simp only [xa, xb, xc, xd, xe, xf, xg, xh, xi, xj, Bool.not_true, Bool.not_false, xk, xl] at h1)
    simp at h1
theorem rturn_o (w : Wld) (l : List Ord) (hl : wldL w) (hll : l.length ≤ 9223372036854775807) (h : ordsE l ≠ 0) : Spec Tryz.prog 8 [wldA w, .c (.sl 6 (l.map ordP))] [] (.tup [wldA default, repA [] [] [], I .i64 (ordsE l)]) [] := by
  refine spec_am Tryz.func8 rfl rfl mix 66 rfl [.cell 4 28, .cell 5 32, .tmp 6] Tryz.results8 (Nat.le_of_ble_eq_true rfl) ?_
  (try simp (etaStruct := .none) only [push_cast, DrawG, Int.cast_ofNat_Int, seval]); (try simp (disch := omega) only [wrap_in, wk_self, tdv, tmd]); (repeat with_reducible refine obA ?_)
  refine callP (orights_s l hll) (WkL.refl _) ?_
  (try simp (etaStruct := .none) only [push_cast, DrawG, Int.cast_ofNat_Int, seval]); (try simp (disch := omega) only [wrap_in, wk_self, tdv, tmd]); (repeat with_reducible refine obA ?_)
  refine cond_i (fun h1 => ?_) (fun h1 => ?_)
  · (try simp only [xa, xb, xc, xd, xe, xf, xg, xh, xi, xj, Bool.not_true, Bool.not_false, xk, xl] at h1)
    exact absurd h1 h
  · (try simp only [xa, xb, xc, xd, xe, xf, xg, xh, xi, xj, Bool.not_true, Bool.not_false, xk, xl] at h1)
    (try simp (etaStruct := .none) only [push_cast, DrawG, Int.cast_ofNat_Int, seval]); (try simp (disch := omega) only [wrap_in, wk_self, tdv, tmd]); (repeat with_reducible refine obA ?_)
    refine cond_i (fun h2 => ?_) (fun h2 => ?_)
    · (try simp only [xa, xb, xc, xd, xe, xf, xg, xh, xi, xj, Bool.not_true, Bool.not_false, xk, xl] at h2)
      exact absurd h2.1 h
    · (try simp only [xa, xb, xc, xd, xe, xf, xg, xh, xi, xj, Bool.not_true, Bool.not_false, xk, xl] at h2)
      (try simp (etaStruct := .none) only [push_cast, DrawG, Int.cast_ofNat_Int, seval]); (try simp (disch := omega) only [wrap_in, wk_self, tdv, tmd]); (repeat with_reducible refine obA ?_)
      refine cond_i (fun h3 => ?_) (fun h3 => ?_)
      · (try simp only [xa, xb, xc, xd, xe, xf, xg, xh, xi, xj, Bool.not_true, Bool.not_false, xk, xl] at h3)
        (try simp (etaStruct := .none) only [push_cast, DrawG, Int.cast_ofNat_Int, seval]); (try simp (disch := omega) only [wrap_in, wk_self, tdv, tmd]); (repeat with_reducible refine obA ?_)
        (first | (refine retA rfl (Wk.of ?_); (try simp (etaStruct := .none) only [push_cast, DrawG, Int.cast_ofNat_Int, seval]); first | done | (simp [*]; done) | (simp_all []; done)) | (refine retA rfl ?_; (try simp (etaStruct := .none) only [push_cast, DrawG, Int.cast_ofNat_Int, seval]); (try simp [*]); (try exact wkc)))
      · (try simp only [xa, xb, xc, xd, xe, xf, xg, xh, xi, xj, Bool.not_true, Bool.not_false, xk, xl] at h3)
        exact absurd h3 h
theorem rturn_w (w : Wld) (l : List Ord) (hl : wldL w) (hll : l.length ≤ 9223372036854775807) (ho : ordsE l = 0) (h : worldE w ≠ 0) : Spec Tryz.prog 8 [wldA w, .c (.sl 6 (l.map ordP))] [] (.tup [wldA default, repA [] [] [], I .i64 (worldE w)]) [] := by
  have OR := orights_s l hll
  rw [ho] at OR
  refine spec_am Tryz.func8 rfl rfl mix 66 rfl [.cell 4 28, .cell 5 32, .tmp 6] Tryz.results8 (Nat.le_of_ble_eq_true rfl) ?_
  (try simp (etaStruct := .none) only [push_cast, DrawG, Int.cast_ofNat_Int, seval]); (try simp (disch := omega) only [wrap_in, wk_self, tdv, tmd]); (repeat with_reducible refine obA ?_)
  refine callP (OR) (WkL.refl _) ?_
  (try simp (etaStruct := .none) only [push_cast, DrawG, Int.cast_ofNat_Int, seval]); (try simp (disch := omega) only [wrap_in, wk_self, tdv, tmd]); (repeat with_reducible refine obA ?_)
  refine cond_i (fun h1 => ?_) (fun h1 => ?_)
  · (try simp only [xa, xb, xc, xd, xe, xf, xg, xh, xi, xj, Bool.not_true, Bool.not_false, xk, xl] at h1)
    (try simp (etaStruct := .none) only [push_cast, DrawG, Int.cast_ofNat_Int, seval]); (try simp (disch := omega) only [wrap_in, wk_self, tdv, tmd]); (repeat with_reducible refine obA ?_)
    refine callP (wright_s w hl) (WkL.refl _) ?_
    (try simp (etaStruct := .none) only [push_cast, DrawG, Int.cast_ofNat_Int, seval]); (try simp (disch := omega) only [wrap_in, wk_self, tdv, tmd]); (repeat with_reducible refine obA ?_)
    refine cond_i (fun h2 => ?_) (fun h2 => ?_)
    · (try simp only [xa, xb, xc, xd, xe, xf, xg, xh, xi, xj, Bool.not_true, Bool.not_false, xk, xl] at h2)
      exact absurd h2.1 h
    · (try simp only [xa, xb, xc, xd, xe, xf, xg, xh, xi, xj, Bool.not_true, Bool.not_false, xk, xl] at h2)
      (try simp (etaStruct := .none) only [push_cast, DrawG, Int.cast_ofNat_Int, seval]); (try simp (disch := omega) only [wrap_in, wk_self, tdv, tmd]); (repeat with_reducible refine obA ?_)
      refine cond_i (fun h3 => ?_) (fun h3 => ?_)
      · (try simp only [xa, xb, xc, xd, xe, xf, xg, xh, xi, xj, Bool.not_true, Bool.not_false, xk, xl] at h3)
        (try simp (etaStruct := .none) only [push_cast, DrawG, Int.cast_ofNat_Int, seval]); (try simp (disch := omega) only [wrap_in, wk_self, tdv, tmd]); (repeat with_reducible refine obA ?_)
        (first | (refine retA rfl (Wk.of ?_); (try simp (etaStruct := .none) only [push_cast, DrawG, Int.cast_ofNat_Int, seval]); first | done | (simp [*]; done) | (simp_all []; done)) | (refine retA rfl ?_; (try simp (etaStruct := .none) only [push_cast, DrawG, Int.cast_ofNat_Int, seval]); (try simp [*]); (try exact wkc)))
      · (try simp only [xa, xb, xc, xd, xe, xf, xg, xh, xi, xj, Bool.not_true, Bool.not_false, xk, xl] at h3)
        exact absurd h3 h
  · (try simp only [xa, xb, xc, xd, xe, xf, xg, xh, xi, xj, Bool.not_true, Bool.not_false, xk, xl] at h1)
    simp at h1
theorem rturn_f (w : Wld) (l : List Ord) (hl : wldL w) (hll : l.length ≤ 9223372036854775807) (ho : ordsE l = 0) (hw : worldE w = 0) (hn : 1000000 ≤ w.now) : Spec Tryz.prog 8 [wldA w, .c (.sl 6 (l.map ordP))] [] (.tup [wldA default, repA [] [] [], I .i64 6]) [] := by
  have OR := orights_s l hll
  rw [ho] at OR
  have WRI := wright_s w hl
  rw [hw] at WRI
  have hnw := (right_of hw).nw
  refine spec_am Tryz.func8 rfl rfl mix 66 rfl [.cell 4 28, .cell 5 32, .tmp 6] Tryz.results8 (Nat.le_of_ble_eq_true rfl) ?_
  (try simp (etaStruct := .none) only [push_cast, DrawG, Int.cast_ofNat_Int, seval]); (try simp (disch := omega) only [wrap_in, wk_self, tdv, tmd]); (repeat with_reducible refine obA ?_)
  refine callP (OR) (WkL.refl _) ?_
  (try simp (etaStruct := .none) only [push_cast, DrawG, Int.cast_ofNat_Int, seval]); (try simp (disch := omega) only [wrap_in, wk_self, tdv, tmd]); (repeat with_reducible refine obA ?_)
  refine cond_i (fun h1 => ?_) (fun h1 => ?_)
  · (try simp only [xa, xb, xc, xd, xe, xf, xg, xh, xi, xj, Bool.not_true, Bool.not_false, xk, xl] at h1)
    (try simp (etaStruct := .none) only [push_cast, DrawG, Int.cast_ofNat_Int, seval]); (try simp (disch := omega) only [wrap_in, wk_self, tdv, tmd]); (repeat with_reducible refine obA ?_)
    refine callP (WRI) (WkL.refl _) ?_
    (try simp (etaStruct := .none) only [push_cast, DrawG, Int.cast_ofNat_Int, seval]); (try simp (disch := omega) only [wrap_in, wk_self, tdv, tmd]); (repeat with_reducible refine obA ?_)
    refine cond_i (fun h2 => ?_) (fun h2 => ?_)
    · (try simp only [xa, xb, xc, xd, xe, xf, xg, xh, xi, xj, Bool.not_true, Bool.not_false, xk, xl] at h2)
      (try simp (etaStruct := .none) only [push_cast, DrawG, Int.cast_ofNat_Int, seval]); (try simp (disch := omega) only [wrap_in, wk_self, tdv, tmd]); (repeat with_reducible refine obA ?_)
      refine cond_i (fun h3 => ?_) (fun h3 => ?_)
      · (try simp only [xa, xb, xc, xd, xe, xf, xg, xh, xi, xj, Bool.not_true, Bool.not_false, xk, xl] at h3)
        (try simp (etaStruct := .none) only [push_cast, DrawG, Int.cast_ofNat_Int, seval]); (try simp (disch := omega) only [wrap_in, wk_self, tdv, tmd]); (repeat with_reducible refine obA ?_)
        (first | (refine retA rfl (Wk.of ?_); (try simp (etaStruct := .none) only [push_cast, DrawG, Int.cast_ofNat_Int, seval]); first | done | (simp [*]; done) | (simp_all []; done)) | (refine retA rfl ?_; (try simp (etaStruct := .none) only [push_cast, DrawG, Int.cast_ofNat_Int, seval]); (try simp [*]); (try exact wkc)))
      · (try simp only [xa, xb, xc, xd, xe, xf, xg, xh, xi, xj, Bool.not_true, Bool.not_false, xk, xl] at h3)
        simp at h3
    · (try simp only [xa, xb, xc, xd, xe, xf, xg, xh, xi, xj, Bool.not_true, Bool.not_false, xk, xl] at h2)
      omega
  · (try simp only [xa, xb, xc, xd, xe, xf, xg, xh, xi, xj, Bool.not_true, Bool.not_false, xk, xl] at h1)
    simp at h1
def turnW (WR : Cel → List Int) (w : Wld) (l : List Ord) : Wld := if turnE l w = 0 then turnV WR w l else default
def turnGR (w : Wld) (l : List Ord) : List Int := if turnE l w = 0 then turnG w l else []
def turnMR (WR : Cel → List Int) (w : Wld) (l : List Ord) : List Int := if turnE l w = 0 then turnM WR w l else []
def turnDR (WR : Cel → List Int) (w : Wld) (l : List Ord) : List Bool := if turnE l w = 0 then turnD WR w l else []
theorem tturn_s (w : Wld) (l : List Ord) (WR : Cel → List Int) (hWR : ∀ a, FloodIs w.f [a] (WR a)) (hl : wldL w) (hll : l.length ≤ 9223372036854775807) : Spec Tryz.prog 7 [wldA w, .c (.sl 6 (l.map ordP))] [] (.tup [wldA (turnW WR w l), repA (turnGR w l) (turnMR WR w l) (turnDR WR w l), I .i64 (turnE l w)]) [] := by
  unfold turnW turnGR turnMR turnDR
  by_cases h : turnE l w = 0
  · rw [if_pos h, if_pos h, if_pos h, if_pos h, h]; exact tturn_k w l WR hWR hll h
  · rw [if_neg h, if_neg h, if_neg h, if_neg h]
    by_cases hs : splitE l w = 0
    · have hn : 1000000 ≤ w.now := by
        unfold turnE at h; rw [if_neg (by simp [hs])] at h; split at h; assumption; exact absurd rfl h
      rw [show turnE l w = 6 from by unfold turnE; rw [if_neg (by simp [hs]), if_pos hn]]; exact tturn_f w l hl hll hs hn
    · rw [show turnE l w = splitE l w from by unfold turnE; rw [if_pos hs]]; exact tturn_e w l hl hll hs
theorem rturn_s (w : Wld) (l : List Ord) (WR : Cel → List Int) (hWR : ∀ a, FloodIs w.f [a] (WR a)) (hl : wldL w) (hll : l.length ≤ 9223372036854775807) : Spec Tryz.prog 8 [wldA w, .c (.sl 6 (l.map ordP))] [] (.tup [wldA (turnW WR w l), repA (turnGR w l) (turnMR WR w l) (turnDR WR w l), I .i64 (turnE l w)]) [] := by
  unfold turnW turnGR turnMR turnDR
  by_cases h : turnE l w = 0
  · rw [if_pos h, if_pos h, if_pos h, if_pos h, h]; exact rturn_k w l WR hWR hll h
  · rw [if_neg h, if_neg h, if_neg h, if_neg h]
    by_cases hs : splitE l w = 0
    · have hn : 1000000 ≤ w.now := by
        unfold turnE at h; rw [if_neg (by simp [hs])] at h; split at h; assumption; exact absurd rfl h
      obtain ⟨ho, hw⟩ := splitE_ok hs
      rw [show turnE l w = 6 from by unfold turnE; rw [if_neg (by simp [hs]), if_pos hn]]; exact rturn_f w l hl hll ho hw hn
    · rw [show turnE l w = splitE l w from by unfold turnE; rw [if_pos hs]]
      by_cases ho : ordsE l = 0
      · rw [splitE_o ho] at hs ⊢; exact rturn_w w l hl hll ho hs
      · rw [splitE_n ho]; exact rturn_o w l hl hll ho
theorem turn_lens (WR : Cel → List Int) (w : Wld) (l : List Ord) : (turnGR w l).length ≤ 100 ∧ (turnMR WR w l).length ≤ 100 ∧ (turnDR WR w l).length ≤ 100 := by
  unfold turnGR turnMR turnDR
  by_cases h : turnE l w = 0
  · rw [if_pos h, if_pos h, if_pos h]
    have hs : splitE l w = 0 := by unfold turnE at h; split at h; rename_i h1; exact absurd h h1; rename_i h1; simpa using h1
    obtain ⟨ho, hw⟩ := splitE_ok hs
    have R0 := right_of hw
    have RA := right_tkA R0 l
    obtain ⟨n1, n2, n3⟩ := split_lens (w := w) ho
    refine ⟨?_, ?_, ?_⟩
    · unfold turnG goneV
      rw [List.length_map]
      refine Nat.le_trans (List.length_filter_le _ _) ?_
      rw [List.length_map]; exact R0.nt
    · exact Nat.le_trans (marchK_len w.f WR (goesV l w) (tkA w l).troops _).2 RA.nt
    · unfold turnD; rw [deedsA_len]; exact n3
  · rw [if_neg h, if_neg h, if_neg h]; simp
theorem bool_eqn (a b : Bool) : decide (a = b) = decide (a = b) := rfl
theorem bool_eq (l m : List Bool) (hl : l.length ≤ 9223372036854775807) (hm : m.length ≤ 9223372036854775807) : Spec Tryz.prog 39 [.c (.sl 1 (l.map boolP)), .c (.sl 1 (m.map boolP))] [] (B (decide (l = m))) [] := by
  refine spec_am Tryz.func39 rfl rfl mix 26 rfl [.tmp 4] Tryz.results39 (Nat.le_of_ble_eq_true rfl) ?_
  (try simp (etaStruct := .none) only [push_cast, DrawG, Int.cast_ofNat_Int, seval]); (try simp (disch := omega) only [wrap_in, wk_self, tdv, tmd]); (repeat with_reducible refine obA ?_)
  refine cond_i (fun h1 => ?_) (fun h1 => ?_)
  · (try simp only [xa, xb, xc, xd, xe, xf, xg, xh, xi, xj, Bool.not_true, Bool.not_false, xk, xl] at h1)
    have e : l ≠ m := by intro e; subst e; simp at h1
    (try simp (etaStruct := .none) only [push_cast, DrawG, Int.cast_ofNat_Int, seval]); (try simp (disch := omega) only [wrap_in, wk_self, tdv, tmd]); (repeat with_reducible refine obA ?_)
    exact ret0 rfl trivial (Wk.of (by rw [decide_eq_false e]; rfl))
  · (try simp only [xa, xb, xc, xd, xe, xf, xg, xh, xi, xj, Bool.not_true, Bool.not_false, xk, xl] at h1)
    (try simp (etaStruct := .none) only [push_cast, DrawG, Int.cast_ofNat_Int, seval]); (try simp (disch := omega) only [wrap_in, wk_self, tdv, tmd]); (repeat with_reducible refine obA ?_)
    refine loopI (fun k : Nat => ⟨[(13, I .i64 k), (12, I .i64 l.length), (1, .c (.sl 1 (m.map boolP))), (0, .c (.sl 1 (l.map boolP)))], [], 0⟩) (fun k : Nat => k ≤ l.length ∧ ∀ j, j < k → l.getD j default = m.getD j default) (fun k : Nat => l.length - k) (0) (⟨Nat.zero_le _, fun j h => by omega⟩) (To.mk [] rfl rfl List.nodup_nil trivial ?_) ?_
    · simp (etaStruct := .none) only [push_cast, DrawG, Int.cast_ofNat_Int, seval]
    rintro k ⟨hk, hn⟩
    (try simp (etaStruct := .none) only [push_cast, DrawG, Int.cast_ofNat_Int, seval]); (try simp (disch := omega) only [wrap_in, wk_self, tdv, tmd]); (repeat with_reducible refine obA ?_)
    refine cond_i (fun h2 => ?_) (fun h2 => ?_)
    · (try simp only [xa, xb, xc, xd, xe, xf, xg, xh, xi, xj, Bool.not_true, Bool.not_false, xk, xl] at h2)
      have hlt : k < l.length := by omega
      have hlt2 : k < m.length := by omega
      (iterate 2 ((try simp (etaStruct := .none) only [push_cast, DrawG, Int.cast_ofNat_Int, seval, getD_in _ _ _ hlt, getD_in _ _ _ hlt2, boolP, bool_eqn]); (try simp (disch := omega) only [wrap_in, wk_self, tdv, tmd]); (repeat with_reducible refine obA ?_)))
      (try (refine ⟨by kernel_rfl, ?_⟩))
      (iterate 2 ((try simp (etaStruct := .none) only [push_cast, DrawG, Int.cast_ofNat_Int, seval, getD_in _ _ _ hlt, getD_in _ _ _ hlt2, boolP, bool_eqn]); (try simp (disch := omega) only [wrap_in, wk_self, tdv, tmd]); (repeat with_reducible refine obA ?_)))
      refine cond_i (fun h3 => ?_) (fun h3 => ?_)
      · (try simp only [xa, xb, xc, xd, xe, xf, xg, xh, xi, xj, Bool.not_true, Bool.not_false, xk, xl] at h3)
        have e : l ≠ m := by intro e; subst e; simp at h3
        (iterate 2 ((try simp (etaStruct := .none) only [push_cast, DrawG, Int.cast_ofNat_Int, seval, getD_in _ _ _ hlt, getD_in _ _ _ hlt2, boolP, bool_eqn]); (try simp (disch := omega) only [wrap_in, wk_self, tdv, tmd]); (repeat with_reducible refine obA ?_)))
        exact ret0 rfl trivial (Wk.of (by rw [decide_eq_false e]; rfl))
      · (try simp only [xa, xb, xc, xd, xe, xf, xg, xh, xi, xj, Bool.not_true, Bool.not_false, xk, xl] at h3)
        (iterate 2 ((try simp (etaStruct := .none) only [push_cast, DrawG, Int.cast_ofNat_Int, seval, getD_in _ _ _ hlt, getD_in _ _ _ hlt2, boolP, bool_eqn]); (try simp (disch := omega) only [wrap_in, wk_self, tdv, tmd]); (repeat with_reducible refine obA ?_)))
        refine ⟨k + 1, ⟨by omega, fun j hj => by rcases Nat.lt_or_ge j k with h | h; exact hn j h; rw [show j = k by omega]; simpa using h3⟩, by omega, To.mk [] rfl rfl List.nodup_nil trivial ?_⟩
        · (iterate 2 ((try simp (etaStruct := .none) only [push_cast, DrawG, Int.cast_ofNat_Int, seval, getD_in _ _ _ hlt, getD_in _ _ _ hlt2, boolP, bool_eqn]); (try simp (disch := omega) only [wrap_in, wk_self, tdv, tmd]); (repeat with_reducible refine obA ?_)))
    · (try simp only [xa, xb, xc, xd, xe, xf, xg, xh, xi, xj, Bool.not_true, Bool.not_false, xk, xl] at h2)
      have e : l = m := by
        refine List.ext_getElem (by omega) fun i i1 i2 => ?_
        have := hn i (by omega)
        rwa [getD_at _ _ i1, getD_at _ _ i2] at this
      (try simp (etaStruct := .none) only [push_cast, DrawG, Int.cast_ofNat_Int, seval]); (try simp (disch := omega) only [wrap_in, wk_self, tdv, tmd]); (repeat with_reducible refine obA ?_)
      exact ret0 rfl trivial (Wk.of (by rw [decide_eq_true e]; rfl))
theorem sameRep_s (g m : List Int) (d : List Bool) (hg : g.length ≤ 100) (hm : m.length ≤ 100) (hd : d.length ≤ 100) : Spec Tryz.prog 10 [repA g m d, repA g m d] [] (B true) [] := by
  refine spec_am Tryz.func10 rfl rfl mix 24 rfl [.tmp 4] Tryz.results10 (Nat.le_of_ble_eq_true rfl) ?_
  (try simp (etaStruct := .none) only [push_cast, DrawG, Int.cast_ofNat_Int, seval]); (try simp (disch := omega) only [wrap_in, wk_self, tdv, tmd]); (repeat with_reducible refine obA ?_)
  refine callP (int_eq g g (by omega) (by omega)) (WkL.refl _) ?_
  (try simp (etaStruct := .none) only [push_cast, DrawG, Int.cast_ofNat_Int, seval]); (try simp (disch := omega) only [wrap_in, wk_self, tdv, tmd]); (repeat with_reducible refine obA ?_)
  refine gcallP (fun hcc => int_eq m m (by omega) (by omega)) (WkL.refl _) (by intro hc; (try simp (etaStruct := .none) only [push_cast, DrawG, Int.cast_ofNat_Int, seval]); (try simp_all)) ?_
  (try simp (etaStruct := .none) only [push_cast, DrawG, Int.cast_ofNat_Int, seval]); (try simp (disch := omega) only [wrap_in, wk_self, tdv, tmd]); (repeat with_reducible refine obA ?_)
  refine gcallP (fun hcc => bool_eq d d (by omega) (by omega)) (WkL.refl _) (by intro hc; (try simp (etaStruct := .none) only [push_cast, DrawG, Int.cast_ofNat_Int, seval]); (try simp_all)) ?_
  (try simp (etaStruct := .none) only [push_cast, DrawG, Int.cast_ofNat_Int, seval]); (try simp (disch := omega) only [wrap_in, wk_self, tdv, tmd]); (repeat with_reducible refine obA ?_)
  (first | (refine retA rfl (Wk.of ?_); (try simp (etaStruct := .none) only [push_cast, DrawG, Int.cast_ofNat_Int, seval]); first | done | (simp [*]; done) | (simp_all []; done)) | (refine retA rfl ?_; (try simp (etaStruct := .none) only [push_cast, DrawG, Int.cast_ofNat_Int, seval]); (try simp [*]); (try exact wkc)))
end Go.Proofs.YthiddmncjafklaaGreat
namespace Go.Proofs.YthiddmncjafklaaGreat
set_option linter.all false
open Go.RowKit Go.ChangeShapes Go.WideShapes Go.ChangeAt
def RelCs (w : World) (ps : List PV) (cs : List Value) : Prop := ∀ (j : Nat) p u, ps[j]? = some p → cs[j]? = some u → RelP w (· < w.heap.size) p u
theorem RelCs.nil {w : World} : RelCs w [] [] := fun j p u h => by simp at h
theorem RelCs.cons {w : World} {p : PV} {u : Value} {ps : List PV} {cs : List Value} (h : RelP w (· < w.heap.size) p u) (h' : RelCs w ps cs) : RelCs w (p :: ps) (u :: cs) := by
  intro j q v h1 h2
  cases j with
  | zero => simp at h1 h2; subst h1 h2; exact h
  | succ j => exact h' j q v (by simpa using h1) (by simpa using h2)
theorem RelCs.append {w : World} : ∀ {ps qs : List PV} {cs ds : List Value}, ps.length = cs.length → RelCs w ps cs → RelCs w qs ds → RelCs w (ps ++ qs) (cs ++ ds)
  | [], _, [], _, _, _, h => h
  | [], _, _ :: _, _, hl, _, _ => by simp at hl
  | _ :: _, _, [], _, hl, _, _ => by simp at hl
  | p :: ps, qs, c :: cs, ds, hl, h, h' => by
    refine RelCs.cons (h 0 p c rfl rfl) (RelCs.append (by simpa using hl) (fun j q v h1 h2 => h (j + 1) q v (by simpa using h1) (by simpa using h2)) h')
def OpA (P : Program) (T sz : Nat) (w : World) {α : Type} (pv : α → List PV) (ok : α → Prop) : Prop :=
  ∃ (β : Type) (enc : β → List Value) (okb : β → Prop) (f : β → α), Opens P T sz w enc okb ∧ ∀ y, okb y → ok (f y) ∧ (pv (f y)).length = sz ∧ (enc y).length = sz ∧ RelCs w (pv (f y)) (enc y)
section
variable {P : Program} {T : Nat} {w : World}
theorem OpA.i64 (h : P.underlying T = some (.int .i64)) : OpA P T 1 w i64P In64 :=
  ⟨_, _, _, id, Opens.i64 h, fun y hy => ⟨hy, rfl, rfl, .cons (relP_v rfl) .nil⟩⟩
theorem OpA.u64 (h : P.underlying T = some (.int .u64)) : OpA P T 1 w u64P (fun n => n < 18446744073709551616) :=
  ⟨_, _, _, id, Opens.u64 h, fun y hy => ⟨hy, rfl, rfl, .cons (relP_v rfl) .nil⟩⟩
def u32P (n : Nat) : List PV := [.v (.int .u32 n)]
theorem OpA.u32 (h : P.underlying T = some (.int .u32)) : OpA P T 1 w u32P (fun n => n < 4294967296) :=
  ⟨_, _, _, id, Opens.u32 h, fun y hy => ⟨hy, rfl, rfl, .cons (relP_v rfl) .nil⟩⟩
theorem OpA.bool (h : P.underlying T = some .bool) : OpA P T 1 w boolP (fun _ => True) :=
  ⟨_, _, _, id, Opens.bool h, fun y hy => ⟨hy, rfl, rfl, .cons (relP_v rfl) .nil⟩⟩
theorem OpA.str (h : P.underlying T = some .string) : OpA P T 1 w strP (fun s => s.size ≤ 140737488351232) :=
  ⟨_, _, _, id, Opens.str h, fun y hy => ⟨hy, rfl, rfl, .cons (relP_v rfl) .nil⟩⟩
theorem OpA.map {sz : Nat} {α β : Type} {pv : α → List PV} {ok : α → Prop} {pv' : β → List PV} {ok' : β → Prop} (h : OpA P T sz w pv ok) (f : α → β) (hf : ∀ x, pv' (f x) = pv x) (hok : ∀ x, ok x → ok' (f x)) : OpA P T sz w pv' ok' := by
  obtain ⟨γ, enc, okb, g, h1, h2⟩ := h
  exact ⟨γ, enc, okb, fun y => f (g y), h1, fun y hy => by obtain ⟨a, b, c, d⟩ := h2 y hy; exact ⟨hok _ a, by rw [hf]; exact b, c, by rw [hf]; exact d⟩⟩
theorem OpA.slice {E sz bts : Nat} {α : Type} {pv : α → List PV} {ok : α → Prop} (hT : P.underlying T = some (.slice E)) (hc : P.cellsOf E = sz) (hsz : 0 < sz) (hby : P.bytesOf E = bts) (hE : OpA P E sz w pv ok) :
    OpA P T 1 w (fun xs : List α => [.sl sz (xs.map pv)]) (fun xs => (∀ x ∈ xs, ok x) ∧ xs.length * bts ≤ 140737488351232 ∧ xs.length ≤ 9223372036854775807) := by
  obtain ⟨γ, enc, okb, g, h1, h2⟩ := hE
  refine ⟨_, _, _, fun s => s.xs.map g, Opens.slice hT hc hsz hby h1, fun s hs => ⟨⟨?_, ?_, ?_⟩, rfl, rfl, ?_⟩⟩
  · intro x hx
    obtain ⟨y, hy, rfl⟩ := List.mem_map.1 hx
    exact (h2 y (hs.each y hy).1).1
  · have := hs.reach
    have h3 : s.xs.length * bts ≤ s.c * bts := Nat.mul_le_mul_right _ hs.cap
    simp only [List.length_map]; omega
  · have h3 := hs.cap; have h4 := hs.max; unfold maxLen at h4; simp only [List.length_map]; omega
  · refine .cons ?_ .nil
    have := rel_sl (pv := fun y => pv (g y)) hs fun y hy ho => by
      obtain ⟨_, a, b, d⟩ := h2 y ho
      exact ⟨a, d⟩
    simpa [List.map_map, Function.comp_def] using this
def OpAF (P : Program) (w : World) (fs : List Field) (o sz : Nat) {α : Type} (pv : α → List PV) (ok : α → Prop) : Prop :=
  ∃ (β : Type) (enc : β → List Value) (okb : β → Prop) (f : β → α), OpensF P w fs o sz enc okb ∧ ∀ y, okb y → ok (f y) ∧ (pv (f y)).length = sz ∧ (enc y).length = sz ∧ RelCs w (pv (f y)) (enc y)
theorem OpAF.nil {o : Nat} : OpAF P w [] o 0 (fun _ : Unit => []) (fun _ => True) :=
  ⟨_, _, _, id, OpensF.nil, fun y hy => ⟨trivial, rfl, rfl, .nil⟩⟩
theorem OpAF.cons {f : Field} {fs : List Field} {o n sz : Nat} {α β : Type} {pv : α → List PV} {ok : α → Prop} {pv' : β → List PV} {ok' : β → Prop}
    (ho : f.offset = o) (hn : P.cellsOf f.type = n) (h : OpA P f.type n w pv ok) (h' : OpAF P w fs (o + n) sz pv' ok') :
    OpAF P w (f :: fs) o (n + sz) (fun x : α × β => pv x.1 ++ pv' x.2) (fun x => ok x.1 ∧ ok' x.2) := by
  obtain ⟨γ, enc, okb, g, h1, h2⟩ := h
  obtain ⟨γ', enc', okb', g', h1', h2'⟩ := h'
  refine ⟨_, _, _, fun y => (g y.1, g' y.2), OpensF.cons ho hn h1 h1', fun y hy => ?_⟩
  obtain ⟨a, b, c, d⟩ := h2 y.1 hy.1
  obtain ⟨a', b', c', d'⟩ := h2' y.2 hy.2
  exact ⟨⟨a, a'⟩, by simp [b, b'], by simp [c, c'], .append (by rw [b, c]) d d'⟩
theorem OpA.struct {sz : Nat} {fs : Array Field} {α : Type} {pv : α → List PV} {ok : α → Prop} (hT : P.underlying T = some (.struct fs)) (hc : P.cellsOf T = sz) (h : OpAF P w fs.toList 0 sz pv ok) : OpA P T sz w pv ok := by
  obtain ⟨γ, enc, okb, g, h1, h2⟩ := h
  exact ⟨γ, enc, okb, g, Opens.struct hT hc h1, h2⟩
theorem OpA.arg {sz : Nat} {α : Type} {pv : α → List PV} {ok : α → Prop} (h : OpA P T sz w pv ok) {H : Type} {eH : TypeId × Value → H} {v : Value} {d : DataW H} {p : List MemPlace}
    (hT : DataW.Trod eH P w 0 (fun _ => true) true T v d p) {ts : List TypeId} {ds : List (DataW H)} (hz : (DataW.weightsEach P ts ds).all (· ≤ reachBytes) = true) (j : Nat) (h1 : ts[j]? = some T) (h2 : ds[j]? = some d) : ∃ x : α, ok x ∧ (pv x).length = v.cells.toList.length ∧ RelCs w (pv x) v.cells.toList := by
  obtain ⟨γ, enc, okb, g, k1, k2⟩ := h
  obtain ⟨y, hy, ho⟩ := Opens.arg k1 hT hz j h1 h2
  obtain ⟨a, b, c, e⟩ := k2 y ho
  exact ⟨g y, a, by rw [hy, b, c], by rw [hy]; exact e⟩
theorem rel_one {p : PV} {v : Value} (hv : v.cells = #[v]) (hr : RelCs w [p] v.cells.toList) : RelA (· < 0) w (· < w.heap.size) (fun _ => none) (.c p) v :=
  relA_c (hr 0 p v rfl (by rw [hv]; rfl))
theorem relL_of_cs {U : Nat → Prop} {β : Nat → Option Bind} : ∀ {ps : List PV} {cs : List Value}, ps.length = cs.length → RelCs w ps cs → RelL U w (· < w.heap.size) β (ps.map .c) cs
  | [], [], _, _ => relL_nil
  | [], _ :: _, h, _ => by simp at h
  | _ :: _, [], h, _ => by simp at h
  | p :: ps, c :: cs, h, hr => by
    rw [List.map_cons]
    exact relL_cons (relA_c (hr 0 p c rfl rfl)) (relL_of_cs (by simpa using h) fun j q v h1 h2 => hr (j + 1) q v (by simpa using h1) (by simpa using h2))
theorem rel_agg {ps : List PV} {v : Value} {cs : List Value} (hv : v = .agg cs.toArray) (hl : ps.length = v.cells.toList.length) (hr : RelCs w ps v.cells.toList) : RelA (· < 0) w (· < w.heap.size) (fun _ => none) (.agg (ps.map .c)) v := by
  subst hv
  have e : (Value.agg cs.toArray).cells.toList = cs := rfl
  rw [e] at hl hr
  refine relA_agg (relL_of_cs hl hr) fun x hx => ?_
  obtain ⟨j, hj, rfl⟩ := List.getElem_of_mem hx
  exact (hr j ps[j] cs[j] (by simp) (by simp)).one
theorem one_slice {base e : Nat} {v : Value} (ht : P.underlying T = some (.slice e)) (h : Value.okWide P w .any base T v) : v.cells = #[v] := by obtain ⟨a, l, c, rfl⟩ := okWide_slice ht h; rfl
end
end Go.Proofs.YthiddmncjafklaaGreat
