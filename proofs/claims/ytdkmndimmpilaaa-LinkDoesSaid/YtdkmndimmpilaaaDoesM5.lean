/- Lemmas for the proof of linkDoes.proved. -/
import Derived.Test.YtdkmndimmpilaaaDoesM4
namespace Go.Proofs.Ytdkmndimmpilaaa
set_option linter.all false
open Go.RowKit
set_option maxRecDepth 100000
set_option maxHeartbeats 1000000
theorem int_index (l : List Int) (v : Int) (hl : l.length ≤ 9223372036854775807) : Spec Try.prog 92 [.c (.sl 1 (l.map i64P)), I .i64 v] [] (I .i64 (ixOf (fun x => decide (v = x)) l)) [] := by
 refine spec_am Try.func92 rfl rfl mix 19 rfl [.tmp 4] Try.results92 (Nat.le_of_ble_eq_true rfl) ?_
 (try (refine xst ?_; try exact xtI))
 refine loopI (fun k : Nat => ⟨[(8, I .i64 k), (7, I .i64 l.length), (1, I .i64 v), (0, .c (.sl 1 (l.map i64P)))], [], 0⟩) (fun k : Nat => k ≤ l.length ∧ ∀ j (hj : j < l.length), j < k → decide (v = l[j]) = false) (fun k : Nat => l.length - k) (0) (⟨Nat.zero_le _, fun j _ h => by omega⟩) (To.mk [] rfl rfl List.nodup_nil trivial ?_) ?_
 ·simp (etaStruct := .none) only [push_cast, DrawG, Int.cast_ofNat_Int, seval]
 rintro k ⟨hk, hn⟩
 (try (refine xst ?_; try exact xtI))
 refine cond_i (fun h1 => ?_) (fun h1 => ?_)
 ·(try replace h1 := xhh h1)
  have hlt : k < l.length := by omega
  (iterate 2 ((try simp (etaStruct := .none) only [push_cast, DrawG, Int.cast_ofNat_Int, seval, getD_in _ _ _ hlt, i64P]); (try (refine xsu ?_; try exact xtI))))
  refine cond_i (fun h2 => ?_) (fun h2 => ?_)
  ·(try replace h2 := xhh h2)
   (iterate 2 ((try simp (etaStruct := .none) only [push_cast, DrawG, Int.cast_ofNat_Int, seval, getD_in _ _ _ hlt, i64P]); (try (refine xsu ?_; try exact xtI))))
   exact ret0 rfl trivial (Wk.of (by rw [ixOf_hit (fun x => decide (v = x)) l k hlt (by rw [← getD_at _ _ hlt]; simpa using h2) hn]; rfl))
  ·(try replace h2 := xhh h2)
   (iterate 2 ((try simp (etaStruct := .none) only [push_cast, DrawG, Int.cast_ofNat_Int, seval, getD_in _ _ _ hlt, i64P]); (try (refine xsu ?_; try exact xtI))))
   refine ⟨k + 1, ⟨by omega, fun j hj hjk => by
 rcases Nat.lt_or_ge j k with h | h
 ·simpa using hn j hj h
 ·obtain rfl : j = k := by omega
  rw [← getD_at _ _ hj]; simpa using h2⟩, by omega, To.mk [] rfl rfl List.nodup_nil trivial ?_⟩
   ·(iterate 2 ((try simp (etaStruct := .none) only [push_cast, DrawG, Int.cast_ofNat_Int, seval, getD_in _ _ _ hlt, i64P]); (try (refine xsu ?_; try exact xtI))))
 ·(try replace h1 := xhh h1)
  (try (refine xst ?_; try exact xtI))
  exact ret0 rfl trivial (Wk.of (by rw [ixOf_miss (fun x => decide (v = x)) l (fun j hj => hn j hj (by omega))]; rfl))
theorem int_contains (l : List Int) (v : Int) (hl : l.length ≤ 9223372036854775807) : Spec Try.prog 67 [.c (.sl 1 (l.map i64P)), I .i64 v] [] (B (l.any (fun x => decide (v = x)))) [] := by
 refine spec_am Try.func67 rfl rfl mix 9 rfl [.tmp 4] Try.results67 (Nat.le_of_ble_eq_true rfl) ?_
 (iterate 2 ((try simp (etaStruct := .none) only [push_cast, DrawG, Int.cast_ofNat_Int, seval, ixOf_any]); (try (refine xsu ?_; try exact xtI))))
 refine caP (int_index l v hl) ?_
 (iterate 2 ((try simp (etaStruct := .none) only [push_cast, DrawG, Int.cast_ofNat_Int, seval, ixOf_any]); (try (refine xsu ?_; try exact xtI))))
 exact xrz rfl
theorem any_mem (l : List Int) (k : Int) : (l.any fun x => decide (k = x)) = decide (k ∈ l) := by
 rw [Bool.eq_iff_iff]; simp
theorem there_s (l : Lnk) (n k : Int) (R : LnkR l) : Spec Try.prog 66 ([] ++ [I .i64 k] ++ [.fel 8 [lnkP l] 0 0, .fel 1 [[pI n]] 0 0]) [] (B (thereV l.got.length l.held n k)) [] := by
 have hs := R.s
 have hg := R.g
 have hh := R.h
 refine spec_am Try.func66 rfl rfl mix 21 rfl [.tmp 4] Try.results66 (Nat.le_of_ble_eq_true rfl) ?_
 (iterate 2 ((try simp (etaStruct := .none) only [push_cast, DrawG, Int.cast_ofNat_Int, seval, lnkP]); (try (refine xsu ?_; try exact xtI))))
 refine gcP (fun hcc => int_contains l.held k (by omega)) ?_
 (iterate 2 ((try simp (etaStruct := .none) only [push_cast, DrawG, Int.cast_ofNat_Int, seval, lnkP]); (try (refine xsu ?_; try exact xtI))))
 (first | (refine retA rfl (Wk.of ?_); (try simp (etaStruct := .none) only [push_cast, DrawG, Int.cast_ofNat_Int, seval]); first | done | (simp [thereV, any_mem, *]; done) | (simp_all [thereV, any_mem]; done)) | (refine retA rfl ?_; (try simp (etaStruct := .none) only [push_cast, DrawG, Int.cast_ofNat_Int, seval]); (try simp [thereV, any_mem, *]); (try exact wkc)))
theorem cut_s (l : List Int) (p : Int) (hl : l.length ≤ 1000) (h : 0 ≤ p ∧ p < (l.length : Int)) : Spec Try.prog 65 [.c (.sl 1 (l.map i64P)), I .i64 p] [] (.c (.sl 1 ((cutV l p.toNat).map i64P))) [] := by
 obtain ⟨i, rfl⟩ : ∃ i : Nat, p = i := ⟨p.toNat, by omega⟩
 rw [Int.toNat_natCast]
 have e1 : List.take i (l.map i64P) = (l.take i).map i64P := by rw [List.map_take]
 refine spec_am Try.func65 rfl rfl mix 14 rfl [.tmp 4] Try.results65 (Nat.le_of_ble_eq_true rfl) ?_
 (iterate 2 ((try simp (etaStruct := .none) only [push_cast, DrawG, Int.cast_ofNat_Int, seval, e1]); (try (refine xsu ?_; try exact xtI))))
 refine caM [] (int_clone (l.take i) (by rw [List.length_take]; omega)) ?_
 (iterate 2 ((try simp (etaStruct := .none) only [push_cast, DrawG, Int.cast_ofNat_Int, seval, e1]); (try (refine xsu ?_; try exact xtI))))
 (try (refine ⟨by kernel_rfl, ?_⟩))
 (iterate 2 ((try simp (etaStruct := .none) only [push_cast, DrawG, Int.cast_ofNat_Int, seval, e1]); (try (refine xsu ?_; try exact xtI))))
 refine ret0 rfl (by repeat' (first | exact trivial | exact rfl | omega | refine ⟨?_, ?_⟩)) (Wk.of ?_)
 show AV.c (.sl 1 _) = _
 unfold cutV
 rw [List.map_append, List.map_drop, show ((i : Int) + 1).toNat = i + 1 by omega]
end Go.Proofs.Ytdkmndimmpilaaa
namespace Go.Proofs.Ytdkmndimmpilaaa
set_option linter.all false
open Go.RowKit
set_option maxRecDepth 100000
set_option maxHeartbeats 1000000
theorem L_arg (l : Lnk) (x : Evt) (R : LnkR l) (hk : ¬ (x.kind = 1 ∨ x.kind = 2 ∨ x.kind = 3 ∨ x.kind = 4 ∨ x.kind = 5)) : Spec Try.prog 28 [lnkA l, evtA x] [] (.tup [lnkA l, I .i64 1]) [] := by
 have hs := R.s
 have hg := R.g
 have ha := R.a
 have hh := R.h
 have hy := R.y
 have hb := R.b
 have hw := R.w
 have hn3 := R.n
 have hl := lnkL_of R
 refine spec_am Try.func28 rfl rfl mix 200 rfl [.cell 4 57, .tmp 5] Try.results28 (Nat.le_of_ble_eq_true rfl) ?_
 (iterate 2 ((try simp (etaStruct := .none) only [push_cast, DrawG, Int.cast_ofNat_Int, seval, lnkA, evtA]); (try (refine xsu ?_; try exact xtI))))
 refine cond_i (fun h1 => ?_) (fun h1 => ?_)
 ·(try replace h1 := xhh h1)
  omega
 ·(try replace h1 := xhh h1)
  (iterate 2 ((try simp (etaStruct := .none) only [push_cast, DrawG, Int.cast_ofNat_Int, seval, lnkA, evtA]); (try (refine xsu ?_; try exact xtI))))
  refine cond_i (fun h2 => ?_) (fun h2 => ?_)
  ·(try replace h2 := xhh h2)
   omega
  ·(try replace h2 := xhh h2)
   (iterate 2 ((try simp (etaStruct := .none) only [push_cast, DrawG, Int.cast_ofNat_Int, seval, lnkA, evtA]); (try (refine xsu ?_; try exact xtI))))
   refine cond_i (fun h3 => ?_) (fun h3 => ?_)
   ·(try replace h3 := xhh h3)
    omega
   ·(try replace h3 := xhh h3)
    (iterate 2 ((try simp (etaStruct := .none) only [push_cast, DrawG, Int.cast_ofNat_Int, seval, lnkA, evtA]); (try (refine xsu ?_; try exact xtI))))
    refine cond_i (fun h4 => ?_) (fun h4 => ?_)
    ·(try replace h4 := xhh h4)
     omega
    ·(try replace h4 := xhh h4)
     (iterate 2 ((try simp (etaStruct := .none) only [push_cast, DrawG, Int.cast_ofNat_Int, seval, lnkA, evtA]); (try (refine xsu ?_; try exact xtI))))
     refine cond_i (fun h5 => ?_) (fun h5 => ?_)
     ·(try replace h5 := xhh h5)
      omega
     ·(try replace h5 := xhh h5)
      (iterate 2 ((try simp (etaStruct := .none) only [push_cast, DrawG, Int.cast_ofNat_Int, seval, lnkA, evtA]); (try (refine xsu ?_; try exact xtI))))
      exact xrz rfl
theorem L1_full (l : Lnk) (x : Evt) (R : LnkR l) (hk : x.kind = 1) (h : l.sent.length = 200) : Spec Try.prog 28 [lnkA l, evtA x] [] (.tup [lnkA l, I .i64 6]) [] := by
 have hs := R.s
 have hg := R.g
 have ha := R.a
 have hh := R.h
 have hy := R.y
 have hb := R.b
 have hw := R.w
 have hn3 := R.n
 have hl := lnkL_of R
 refine spec_am Try.func28 rfl rfl mix 200 rfl [.cell 4 57, .tmp 5] Try.results28 (Nat.le_of_ble_eq_true rfl) ?_
 (iterate 2 ((try simp (etaStruct := .none) only [push_cast, DrawG, Int.cast_ofNat_Int, seval, lnkA, evtA, hk]); (try (refine xsu ?_; try exact xtI))))
 refine cond_i (fun h1 => ?_) (fun h1 => ?_)
 ·(try replace h1 := xhh h1)
  (iterate 2 ((try simp (etaStruct := .none) only [push_cast, DrawG, Int.cast_ofNat_Int, seval, lnkA, evtA, hk]); (try (refine xsu ?_; try exact xtI))))
  refine cond_i (fun h2 => ?_) (fun h2 => ?_)
  ·(try replace h2 := xhh h2)
   (iterate 2 ((try simp (etaStruct := .none) only [push_cast, DrawG, Int.cast_ofNat_Int, seval, lnkA, evtA, hk]); (try (refine xsu ?_; try exact xtI))))
   exact xrz rfl
  ·(try replace h2 := xhh h2)
   omega
 ·(try replace h1 := xhh h1)
  simp at h1
theorem L1_ok (l : Lnk) (x : Evt) (R : LnkR l) (hk : x.kind = 1) (h : ¬ l.sent.length = 200) : Spec Try.prog 28 [lnkA l, evtA x] [] (.tup [lnkA { l with sent := l.sent ++ [x.text] }, I .i64 0]) [] := by
 have hs := R.s
 have hg := R.g
 have ha := R.a
 have hh := R.h
 have hy := R.y
 have hb := R.b
 have hw := R.w
 have hn3 := R.n
 have hl := lnkL_of R
 refine spec_am Try.func28 rfl rfl mix 200 rfl [.cell 4 57, .tmp 5] Try.results28 (Nat.le_of_ble_eq_true rfl) ?_
 (iterate 2 ((try simp (etaStruct := .none) only [push_cast, DrawG, Int.cast_ofNat_Int, seval, lnkA, evtA, hk]); (try (refine xsu ?_; try exact xtI))))
 refine cond_i (fun h1 => ?_) (fun h1 => ?_)
 ·(try replace h1 := xhh h1)
  (iterate 2 ((try simp (etaStruct := .none) only [push_cast, DrawG, Int.cast_ofNat_Int, seval, lnkA, evtA, hk]); (try (refine xsu ?_; try exact xtI))))
  refine cond_i (fun h2 => ?_) (fun h2 => ?_)
  ·(try replace h2 := xhh h2)
   omega
  ·(try replace h2 := xhh h2)
   (iterate 2 ((try simp (etaStruct := .none) only [push_cast, DrawG, Int.cast_ofNat_Int, seval, lnkA, evtA, hk]); (try (refine xsu ?_; try exact xtI))))
   refine caM [] (str_clone l.sent (by omega)) ?_
   (iterate 2 ((try simp (etaStruct := .none) only [push_cast, DrawG, Int.cast_ofNat_Int, seval, lnkA, evtA, hk]); (try (refine xsu ?_; try exact xtI))))
   (try (refine ⟨by kernel_rfl, ?_⟩))
   (iterate 2 ((try simp (etaStruct := .none) only [push_cast, DrawG, Int.cast_ofNat_Int, seval, lnkA, evtA, hk]); (try (refine xsu ?_; try exact xtI))))
   exact ret0 rfl (by repeat' (first | exact trivial | exact rfl | omega | refine ⟨?_, ?_⟩)) (Wk.of (by show AV.tup [.agg [_, .c (.sl 1 _), _, _, _, _, _, _], _] = _; simp only [lnkA, List.map_append]; rfl))
 ·(try replace h1 := xhh h1)
  simp at h1
theorem L3_none (l : Lnk) (x : Evt) (R : LnkR l) (hk : x.kind = 3) (h : x.at_ < 0 ∨ (l.way.length : Int) ≤ x.at_) : Spec Try.prog 28 [lnkA l, evtA x] [] (.tup [lnkA l, I .i64 7]) [] := by
 have hs := R.s
 have hg := R.g
 have ha := R.a
 have hh := R.h
 have hy := R.y
 have hb := R.b
 have hw := R.w
 have hn3 := R.n
 have hl := lnkL_of R
 refine spec_am Try.func28 rfl rfl mix 200 rfl [.cell 4 57, .tmp 5] Try.results28 (Nat.le_of_ble_eq_true rfl) ?_
 (iterate 2 ((try simp (etaStruct := .none) only [push_cast, DrawG, Int.cast_ofNat_Int, seval, lnkA, evtA, hk]); (try (refine xsu ?_; try exact xtI))))
 refine cond_i (fun h1 => ?_) (fun h1 => ?_)
 ·(try replace h1 := xhh h1)
  simp at h1
 ·(try replace h1 := xhh h1)
  (iterate 2 ((try simp (etaStruct := .none) only [push_cast, DrawG, Int.cast_ofNat_Int, seval, lnkA, evtA, hk]); (try (refine xsu ?_; try exact xtI))))
  refine cond_i (fun h2 => ?_) (fun h2 => ?_)
  ·(try replace h2 := xhh h2)
   simp at h2
  ·(try replace h2 := xhh h2)
   (iterate 2 ((try simp (etaStruct := .none) only [push_cast, DrawG, Int.cast_ofNat_Int, seval, lnkA, evtA, hk]); (try (refine xsu ?_; try exact xtI))))
   refine cond_i (fun h3 => ?_) (fun h3 => ?_)
   ·(try replace h3 := xhh h3)
    (iterate 2 ((try simp (etaStruct := .none) only [push_cast, DrawG, Int.cast_ofNat_Int, seval, lnkA, evtA, hk]); (try (refine xsu ?_; try exact xtI))))
    refine caP (between_s x.at_ 0 (l.way.length - 1)) ?_
    (iterate 2 ((try simp (etaStruct := .none) only [push_cast, DrawG, Int.cast_ofNat_Int, seval, lnkA, evtA, hk]); (try (refine xsu ?_; try exact xtI))))
    refine cond_i (fun h4 => ?_) (fun h4 => ?_)
    ·(try replace h4 := xhh h4)
     (iterate 2 ((try simp (etaStruct := .none) only [push_cast, DrawG, Int.cast_ofNat_Int, seval, lnkA, evtA, hk]); (try (refine xsu ?_; try exact xtI))))
     exact xrz rfl
    ·(try replace h4 := xhh h4)
     rw [within_f.2 (by omega)] at h4; simp at h4
   ·(try replace h3 := xhh h3)
    simp at h3
theorem L3_full (l : Lnk) (x : Evt) (R : LnkR l) (hk : x.kind = 3) (h : ¬ (x.at_ < 0 ∨ (l.way.length : Int) ≤ x.at_)) (hf : l.acks.length = 1000) : Spec Try.prog 28 [lnkA l, evtA x] [] (.tup [lnkA l, I .i64 6]) [] := by
 have hs := R.s
 have hg := R.g
 have ha := R.a
 have hh := R.h
 have hy := R.y
 have hb := R.b
 have hw := R.w
 have hn3 := R.n
 have hl := lnkL_of R
 refine spec_am Try.func28 rfl rfl mix 200 rfl [.cell 4 57, .tmp 5] Try.results28 (Nat.le_of_ble_eq_true rfl) ?_
 (iterate 2 ((try simp (etaStruct := .none) only [push_cast, DrawG, Int.cast_ofNat_Int, seval, lnkA, evtA, hk]); (try (refine xsu ?_; try exact xtI))))
 refine cond_i (fun h1 => ?_) (fun h1 => ?_)
 ·(try replace h1 := xhh h1)
  simp at h1
 ·(try replace h1 := xhh h1)
  (iterate 2 ((try simp (etaStruct := .none) only [push_cast, DrawG, Int.cast_ofNat_Int, seval, lnkA, evtA, hk]); (try (refine xsu ?_; try exact xtI))))
  refine cond_i (fun h2 => ?_) (fun h2 => ?_)
  ·(try replace h2 := xhh h2)
   simp at h2
  ·(try replace h2 := xhh h2)
   (iterate 2 ((try simp (etaStruct := .none) only [push_cast, DrawG, Int.cast_ofNat_Int, seval, lnkA, evtA, hk]); (try (refine xsu ?_; try exact xtI))))
   refine cond_i (fun h3 => ?_) (fun h3 => ?_)
   ·(try replace h3 := xhh h3)
    (iterate 2 ((try simp (etaStruct := .none) only [push_cast, DrawG, Int.cast_ofNat_Int, seval, lnkA, evtA, hk]); (try (refine xsu ?_; try exact xtI))))
    refine caP (between_s x.at_ 0 (l.way.length - 1)) ?_
    (iterate 2 ((try simp (etaStruct := .none) only [push_cast, DrawG, Int.cast_ofNat_Int, seval, lnkA, evtA, hk]); (try (refine xsu ?_; try exact xtI))))
    refine cond_i (fun h4 => ?_) (fun h4 => ?_)
    ·(try replace h4 := xhh h4)
     rw [within_iff.2 (by omega)] at h4; simp at h4
    ·(try replace h4 := xhh h4)
     (iterate 2 ((try simp (etaStruct := .none) only [push_cast, DrawG, Int.cast_ofNat_Int, seval, lnkA, evtA, hk]); (try (refine xsu ?_; try exact xtI))))
     refine cond_i (fun h5 => ?_) (fun h5 => ?_)
     ·(try replace h5 := xhh h5)
      (iterate 2 ((try simp (etaStruct := .none) only [push_cast, DrawG, Int.cast_ofNat_Int, seval, lnkA, evtA, hk]); (try (refine xsu ?_; try exact xtI))))
      exact xrz rfl
     ·(try replace h5 := xhh h5)
      omega
   ·(try replace h3 := xhh h3)
    simp at h3
theorem L4_none (l : Lnk) (x : Evt) (R : LnkR l) (hk : x.kind = 4) (h : x.at_ < 0 ∨ (l.acks.length : Int) ≤ x.at_) : Spec Try.prog 28 [lnkA l, evtA x] [] (.tup [lnkA l, I .i64 7]) [] := by
 have hs := R.s
 have hg := R.g
 have ha := R.a
 have hh := R.h
 have hy := R.y
 have hb := R.b
 have hw := R.w
 have hn3 := R.n
 have hl := lnkL_of R
 refine spec_am Try.func28 rfl rfl mix 200 rfl [.cell 4 57, .tmp 5] Try.results28 (Nat.le_of_ble_eq_true rfl) ?_
 (iterate 2 ((try simp (etaStruct := .none) only [push_cast, DrawG, Int.cast_ofNat_Int, seval, lnkA, evtA, hk]); (try (refine xsu ?_; try exact xtI))))
 refine cond_i (fun h1 => ?_) (fun h1 => ?_)
 ·(try replace h1 := xhh h1)
  simp at h1
 ·(try replace h1 := xhh h1)
  (iterate 2 ((try simp (etaStruct := .none) only [push_cast, DrawG, Int.cast_ofNat_Int, seval, lnkA, evtA, hk]); (try (refine xsu ?_; try exact xtI))))
  refine cond_i (fun h2 => ?_) (fun h2 => ?_)
  ·(try replace h2 := xhh h2)
   simp at h2
  ·(try replace h2 := xhh h2)
   (iterate 2 ((try simp (etaStruct := .none) only [push_cast, DrawG, Int.cast_ofNat_Int, seval, lnkA, evtA, hk]); (try (refine xsu ?_; try exact xtI))))
   refine cond_i (fun h3 => ?_) (fun h3 => ?_)
   ·(try replace h3 := xhh h3)
    simp at h3
   ·(try replace h3 := xhh h3)
    (iterate 2 ((try simp (etaStruct := .none) only [push_cast, DrawG, Int.cast_ofNat_Int, seval, lnkA, evtA, hk]); (try (refine xsu ?_; try exact xtI))))
    refine cond_i (fun h4 => ?_) (fun h4 => ?_)
    ·(try replace h4 := xhh h4)
     (iterate 2 ((try simp (etaStruct := .none) only [push_cast, DrawG, Int.cast_ofNat_Int, seval, lnkA, evtA, hk]); (try (refine xsu ?_; try exact xtI))))
     refine caP (between_s x.at_ 0 (l.acks.length - 1)) ?_
     (iterate 2 ((try simp (etaStruct := .none) only [push_cast, DrawG, Int.cast_ofNat_Int, seval, lnkA, evtA, hk]); (try (refine xsu ?_; try exact xtI))))
     refine cond_i (fun h5 => ?_) (fun h5 => ?_)
     ·(try replace h5 := xhh h5)
      (iterate 2 ((try simp (etaStruct := .none) only [push_cast, DrawG, Int.cast_ofNat_Int, seval, lnkA, evtA, hk]); (try (refine xsu ?_; try exact xtI))))
      exact xrz rfl
     ·(try replace h5 := xhh h5)
      rw [within_f.2 (by omega)] at h5; simp at h5
    ·(try replace h4 := xhh h4)
     simp at h4
theorem L5_y_none (l : Lnk) (x : Evt) (R : LnkR l) (hk : x.kind = 5) (hkeep : x.keep = false) (h : x.at_ < 0 ∨ (l.way.length : Int) ≤ x.at_) : Spec Try.prog 28 [lnkA l, evtA x] [] (.tup [lnkA l, I .i64 7]) [] := by
 have hs := R.s
 have hg := R.g
 have ha := R.a
 have hh := R.h
 have hy := R.y
 have hb := R.b
 have hw := R.w
 have hn3 := R.n
 have hl := lnkL_of R
 refine spec_am Try.func28 rfl rfl mix 200 rfl [.cell 4 57, .tmp 5] Try.results28 (Nat.le_of_ble_eq_true rfl) ?_
 (iterate 2 ((try simp (etaStruct := .none) only [push_cast, DrawG, Int.cast_ofNat_Int, seval, lnkA, evtA, hk, hkeep]); (try (refine xsu ?_; try exact xtI))))
 refine cond_i (fun h1 => ?_) (fun h1 => ?_)
 ·(try replace h1 := xhh h1)
  simp at h1
 ·(try replace h1 := xhh h1)
  (iterate 2 ((try simp (etaStruct := .none) only [push_cast, DrawG, Int.cast_ofNat_Int, seval, lnkA, evtA, hk, hkeep]); (try (refine xsu ?_; try exact xtI))))
  refine cond_i (fun h2 => ?_) (fun h2 => ?_)
  ·(try replace h2 := xhh h2)
   simp at h2
  ·(try replace h2 := xhh h2)
   (iterate 2 ((try simp (etaStruct := .none) only [push_cast, DrawG, Int.cast_ofNat_Int, seval, lnkA, evtA, hk, hkeep]); (try (refine xsu ?_; try exact xtI))))
   refine cond_i (fun h3 => ?_) (fun h3 => ?_)
   ·(try replace h3 := xhh h3)
    simp at h3
   ·(try replace h3 := xhh h3)
    (iterate 2 ((try simp (etaStruct := .none) only [push_cast, DrawG, Int.cast_ofNat_Int, seval, lnkA, evtA, hk, hkeep]); (try (refine xsu ?_; try exact xtI))))
    refine cond_i (fun h4 => ?_) (fun h4 => ?_)
    ·(try replace h4 := xhh h4)
     simp at h4
    ·(try replace h4 := xhh h4)
     (iterate 2 ((try simp (etaStruct := .none) only [push_cast, DrawG, Int.cast_ofNat_Int, seval, lnkA, evtA, hk, hkeep]); (try (refine xsu ?_; try exact xtI))))
     refine cond_i (fun h5 => ?_) (fun h5 => ?_)
     ·(try replace h5 := xhh h5)
      (iterate 2 ((try simp (etaStruct := .none) only [push_cast, DrawG, Int.cast_ofNat_Int, seval, lnkA, evtA, hk, hkeep]); (try (refine xsu ?_; try exact xtI))))
      refine cond_i (fun h6 => ?_) (fun h6 => ?_)
      ·(try replace h6 := xhh h6)
       simp at h6
      ·(try replace h6 := xhh h6)
       (iterate 2 ((try simp (etaStruct := .none) only [push_cast, DrawG, Int.cast_ofNat_Int, seval, lnkA, evtA, hk, hkeep]); (try (refine xsu ?_; try exact xtI))))
       refine caP (between_s x.at_ 0 (l.way.length - 1)) ?_
       (iterate 2 ((try simp (etaStruct := .none) only [push_cast, DrawG, Int.cast_ofNat_Int, seval, lnkA, evtA, hk, hkeep]); (try (refine xsu ?_; try exact xtI))))
       refine cond_i (fun h7 => ?_) (fun h7 => ?_)
       ·(try replace h7 := xhh h7)
        (iterate 2 ((try simp (etaStruct := .none) only [push_cast, DrawG, Int.cast_ofNat_Int, seval, lnkA, evtA, hk, hkeep]); (try (refine xsu ?_; try exact xtI))))
        exact xrz rfl
       ·(try replace h7 := xhh h7)
        rw [within_f.2 (by omega)] at h7; simp at h7
     ·(try replace h5 := xhh h5)
      simp at h5
theorem L5_y (l : Lnk) (x : Evt) (R : LnkR l) (hk : x.kind = 5) (hkeep : x.keep = false) (h : ¬ (x.at_ < 0 ∨ (l.way.length : Int) ≤ x.at_)) : Spec Try.prog 28 [lnkA l, evtA x] [] (.tup [lnkA { l with way := cutV l.way x.at_.toNat }, I .i64 0]) [] := by
 have hs := R.s
 have hg := R.g
 have ha := R.a
 have hh := R.h
 have hy := R.y
 have hb := R.b
 have hw := R.w
 have hn3 := R.n
 have hl := lnkL_of R
 refine spec_am Try.func28 rfl rfl mix 200 rfl [.cell 4 57, .tmp 5] Try.results28 (Nat.le_of_ble_eq_true rfl) ?_
 (iterate 2 ((try simp (etaStruct := .none) only [push_cast, DrawG, Int.cast_ofNat_Int, seval, lnkA, evtA, hk, hkeep]); (try (refine xsu ?_; try exact xtI))))
 refine cond_i (fun h1 => ?_) (fun h1 => ?_)
 ·(try replace h1 := xhh h1)
  simp at h1
 ·(try replace h1 := xhh h1)
  (iterate 2 ((try simp (etaStruct := .none) only [push_cast, DrawG, Int.cast_ofNat_Int, seval, lnkA, evtA, hk, hkeep]); (try (refine xsu ?_; try exact xtI))))
  refine cond_i (fun h2 => ?_) (fun h2 => ?_)
  ·(try replace h2 := xhh h2)
   simp at h2
  ·(try replace h2 := xhh h2)
   (iterate 2 ((try simp (etaStruct := .none) only [push_cast, DrawG, Int.cast_ofNat_Int, seval, lnkA, evtA, hk, hkeep]); (try (refine xsu ?_; try exact xtI))))
   refine cond_i (fun h3 => ?_) (fun h3 => ?_)
   ·(try replace h3 := xhh h3)
    simp at h3
   ·(try replace h3 := xhh h3)
    (iterate 2 ((try simp (etaStruct := .none) only [push_cast, DrawG, Int.cast_ofNat_Int, seval, lnkA, evtA, hk, hkeep]); (try (refine xsu ?_; try exact xtI))))
    refine cond_i (fun h4 => ?_) (fun h4 => ?_)
    ·(try replace h4 := xhh h4)
     simp at h4
    ·(try replace h4 := xhh h4)
     (iterate 2 ((try simp (etaStruct := .none) only [push_cast, DrawG, Int.cast_ofNat_Int, seval, lnkA, evtA, hk, hkeep]); (try (refine xsu ?_; try exact xtI))))
     refine cond_i (fun h5 => ?_) (fun h5 => ?_)
     ·(try replace h5 := xhh h5)
      (iterate 2 ((try simp (etaStruct := .none) only [push_cast, DrawG, Int.cast_ofNat_Int, seval, lnkA, evtA, hk, hkeep]); (try (refine xsu ?_; try exact xtI))))
      refine cond_i (fun h6 => ?_) (fun h6 => ?_)
      ·(try replace h6 := xhh h6)
       simp at h6
      ·(try replace h6 := xhh h6)
       (iterate 2 ((try simp (etaStruct := .none) only [push_cast, DrawG, Int.cast_ofNat_Int, seval, lnkA, evtA, hk, hkeep]); (try (refine xsu ?_; try exact xtI))))
       refine caP (between_s x.at_ 0 (l.way.length - 1)) ?_
       (iterate 2 ((try simp (etaStruct := .none) only [push_cast, DrawG, Int.cast_ofNat_Int, seval, lnkA, evtA, hk, hkeep]); (try (refine xsu ?_; try exact xtI))))
       refine cond_i (fun h7 => ?_) (fun h7 => ?_)
       ·(try replace h7 := xhh h7)
        rw [within_iff.2 (by omega)] at h7; simp at h7
       ·(try replace h7 := xhh h7)
        (iterate 2 ((try simp (etaStruct := .none) only [push_cast, DrawG, Int.cast_ofNat_Int, seval, lnkA, evtA, hk, hkeep]); (try (refine xsu ?_; try exact xtI))))
        refine caP (cut_s l.way x.at_ (by omega) (by omega)) ?_
        (iterate 2 ((try simp (etaStruct := .none) only [push_cast, DrawG, Int.cast_ofNat_Int, seval, lnkA, evtA, hk, hkeep]); (try (refine xsu ?_; try exact xtI))))
        exact xrz rfl
     ·(try replace h5 := xhh h5)
      simp at h5
theorem L5_a_none (l : Lnk) (x : Evt) (R : LnkR l) (hk : x.kind = 5) (hkeep : x.keep = true) (h : x.at_ < 0 ∨ (l.acks.length : Int) ≤ x.at_) : Spec Try.prog 28 [lnkA l, evtA x] [] (.tup [lnkA l, I .i64 7]) [] := by
 have hs := R.s
 have hg := R.g
 have ha := R.a
 have hh := R.h
 have hy := R.y
 have hb := R.b
 have hw := R.w
 have hn3 := R.n
 have hl := lnkL_of R
 refine spec_am Try.func28 rfl rfl mix 200 rfl [.cell 4 57, .tmp 5] Try.results28 (Nat.le_of_ble_eq_true rfl) ?_
 (iterate 2 ((try simp (etaStruct := .none) only [push_cast, DrawG, Int.cast_ofNat_Int, seval, lnkA, evtA, hk, hkeep]); (try (refine xsu ?_; try exact xtI))))
 refine cond_i (fun h1 => ?_) (fun h1 => ?_)
 ·(try replace h1 := xhh h1)
  simp at h1
 ·(try replace h1 := xhh h1)
  (iterate 2 ((try simp (etaStruct := .none) only [push_cast, DrawG, Int.cast_ofNat_Int, seval, lnkA, evtA, hk, hkeep]); (try (refine xsu ?_; try exact xtI))))
  refine cond_i (fun h2 => ?_) (fun h2 => ?_)
  ·(try replace h2 := xhh h2)
   simp at h2
  ·(try replace h2 := xhh h2)
   (iterate 2 ((try simp (etaStruct := .none) only [push_cast, DrawG, Int.cast_ofNat_Int, seval, lnkA, evtA, hk, hkeep]); (try (refine xsu ?_; try exact xtI))))
   refine cond_i (fun h3 => ?_) (fun h3 => ?_)
   ·(try replace h3 := xhh h3)
    simp at h3
   ·(try replace h3 := xhh h3)
    (iterate 2 ((try simp (etaStruct := .none) only [push_cast, DrawG, Int.cast_ofNat_Int, seval, lnkA, evtA, hk, hkeep]); (try (refine xsu ?_; try exact xtI))))
    refine cond_i (fun h4 => ?_) (fun h4 => ?_)
    ·(try replace h4 := xhh h4)
     simp at h4
    ·(try replace h4 := xhh h4)
     (iterate 2 ((try simp (etaStruct := .none) only [push_cast, DrawG, Int.cast_ofNat_Int, seval, lnkA, evtA, hk, hkeep]); (try (refine xsu ?_; try exact xtI))))
     refine cond_i (fun h5 => ?_) (fun h5 => ?_)
     ·(try replace h5 := xhh h5)
      (iterate 2 ((try simp (etaStruct := .none) only [push_cast, DrawG, Int.cast_ofNat_Int, seval, lnkA, evtA, hk, hkeep]); (try (refine xsu ?_; try exact xtI))))
      refine cond_i (fun h6 => ?_) (fun h6 => ?_)
      ·(try replace h6 := xhh h6)
       (iterate 2 ((try simp (etaStruct := .none) only [push_cast, DrawG, Int.cast_ofNat_Int, seval, lnkA, evtA, hk, hkeep]); (try (refine xsu ?_; try exact xtI))))
       refine caP (between_s x.at_ 0 (l.acks.length - 1)) ?_
       (iterate 2 ((try simp (etaStruct := .none) only [push_cast, DrawG, Int.cast_ofNat_Int, seval, lnkA, evtA, hk, hkeep]); (try (refine xsu ?_; try exact xtI))))
       refine cond_i (fun h7 => ?_) (fun h7 => ?_)
       ·(try replace h7 := xhh h7)
        (iterate 2 ((try simp (etaStruct := .none) only [push_cast, DrawG, Int.cast_ofNat_Int, seval, lnkA, evtA, hk, hkeep]); (try (refine xsu ?_; try exact xtI))))
        exact xrz rfl
       ·(try replace h7 := xhh h7)
        rw [within_f.2 (by omega)] at h7; simp at h7
      ·(try replace h6 := xhh h6)
       simp at h6
     ·(try replace h5 := xhh h5)
      simp at h5
theorem L5_a (l : Lnk) (x : Evt) (R : LnkR l) (hk : x.kind = 5) (hkeep : x.keep = true) (h : ¬ (x.at_ < 0 ∨ (l.acks.length : Int) ≤ x.at_)) : Spec Try.prog 28 [lnkA l, evtA x] [] (.tup [lnkA { l with acks := cutV l.acks x.at_.toNat }, I .i64 0]) [] := by
 have hs := R.s
 have hg := R.g
 have ha := R.a
 have hh := R.h
 have hy := R.y
 have hb := R.b
 have hw := R.w
 have hn3 := R.n
 have hl := lnkL_of R
 refine spec_am Try.func28 rfl rfl mix 200 rfl [.cell 4 57, .tmp 5] Try.results28 (Nat.le_of_ble_eq_true rfl) ?_
 (iterate 2 ((try simp (etaStruct := .none) only [push_cast, DrawG, Int.cast_ofNat_Int, seval, lnkA, evtA, hk, hkeep]); (try (refine xsu ?_; try exact xtI))))
 refine cond_i (fun h1 => ?_) (fun h1 => ?_)
 ·(try replace h1 := xhh h1)
  simp at h1
 ·(try replace h1 := xhh h1)
  (iterate 2 ((try simp (etaStruct := .none) only [push_cast, DrawG, Int.cast_ofNat_Int, seval, lnkA, evtA, hk, hkeep]); (try (refine xsu ?_; try exact xtI))))
  refine cond_i (fun h2 => ?_) (fun h2 => ?_)
  ·(try replace h2 := xhh h2)
   simp at h2
  ·(try replace h2 := xhh h2)
   (iterate 2 ((try simp (etaStruct := .none) only [push_cast, DrawG, Int.cast_ofNat_Int, seval, lnkA, evtA, hk, hkeep]); (try (refine xsu ?_; try exact xtI))))
   refine cond_i (fun h3 => ?_) (fun h3 => ?_)
   ·(try replace h3 := xhh h3)
    simp at h3
   ·(try replace h3 := xhh h3)
    (iterate 2 ((try simp (etaStruct := .none) only [push_cast, DrawG, Int.cast_ofNat_Int, seval, lnkA, evtA, hk, hkeep]); (try (refine xsu ?_; try exact xtI))))
    refine cond_i (fun h4 => ?_) (fun h4 => ?_)
    ·(try replace h4 := xhh h4)
     simp at h4
    ·(try replace h4 := xhh h4)
     (iterate 2 ((try simp (etaStruct := .none) only [push_cast, DrawG, Int.cast_ofNat_Int, seval, lnkA, evtA, hk, hkeep]); (try (refine xsu ?_; try exact xtI))))
     refine cond_i (fun h5 => ?_) (fun h5 => ?_)
     ·(try replace h5 := xhh h5)
      (iterate 2 ((try simp (etaStruct := .none) only [push_cast, DrawG, Int.cast_ofNat_Int, seval, lnkA, evtA, hk, hkeep]); (try (refine xsu ?_; try exact xtI))))
      refine cond_i (fun h6 => ?_) (fun h6 => ?_)
      ·(try replace h6 := xhh h6)
       (iterate 2 ((try simp (etaStruct := .none) only [push_cast, DrawG, Int.cast_ofNat_Int, seval, lnkA, evtA, hk, hkeep]); (try (refine xsu ?_; try exact xtI))))
       refine caP (between_s x.at_ 0 (l.acks.length - 1)) ?_
       (iterate 2 ((try simp (etaStruct := .none) only [push_cast, DrawG, Int.cast_ofNat_Int, seval, lnkA, evtA, hk, hkeep]); (try (refine xsu ?_; try exact xtI))))
       refine cond_i (fun h7 => ?_) (fun h7 => ?_)
       ·(try replace h7 := xhh h7)
        rw [within_iff.2 (by omega)] at h7; simp at h7
       ·(try replace h7 := xhh h7)
        (iterate 2 ((try simp (etaStruct := .none) only [push_cast, DrawG, Int.cast_ofNat_Int, seval, lnkA, evtA, hk, hkeep]); (try (refine xsu ?_; try exact xtI))))
        refine caP (cut_s l.acks x.at_ (by omega) (by omega)) ?_
        (iterate 2 ((try simp (etaStruct := .none) only [push_cast, DrawG, Int.cast_ofNat_Int, seval, lnkA, evtA, hk, hkeep]); (try (refine xsu ?_; try exact xtI))))
        exact xrz rfl
      ·(try replace h6 := xhh h6)
       simp at h6
     ·(try replace h5 := xhh h5)
      simp at h5
theorem L4_k (l : Lnk) (x : Evt) (R : LnkR l) (hk : x.kind = 4) (hkeep : x.keep = true) (h : ¬ (x.at_ < 0 ∨ (l.acks.length : Int) ≤ x.at_)) : Spec Try.prog 28 [lnkA l, evtA x] [] (.tup [lnkA { l with acks := l.acks, base := max l.base (l.acks.getD x.at_.toNat default) }, I .i64 0]) [] := by
 have hs := R.s
 have hg := R.g
 have ha := R.a
 have hh := R.h
 have hy := R.y
 have hb := R.b
 have hw := R.w
 have hn3 := R.n
 have hl := lnkL_of R
 have hv := mem_all (p := fun n => 0 ≤ n ∧ n ≤ l.got.length) R.ak (show x.at_.toNat < l.acks.length by omega)
 have hlt : x.at_.toNat < l.acks.length := by omega
 refine spec_am Try.func28 rfl rfl mix 200 rfl [.cell 4 57, .tmp 5] Try.results28 (Nat.le_of_ble_eq_true rfl) ?_
 (iterate 2 ((try simp (etaStruct := .none) only [push_cast, DrawG, Int.cast_ofNat_Int, seval, lnkA, evtA, hk, hkeep, getD_in _ _ _ hlt, i64P]); (try (refine xsu ?_; try exact xtI))))
 refine cond_i (fun h1 => ?_) (fun h1 => ?_)
 ·(try replace h1 := xhh h1)
  simp at h1
 ·(try replace h1 := xhh h1)
  (iterate 2 ((try simp (etaStruct := .none) only [push_cast, DrawG, Int.cast_ofNat_Int, seval, lnkA, evtA, hk, hkeep, getD_in _ _ _ hlt, i64P]); (try (refine xsu ?_; try exact xtI))))
  refine cond_i (fun h2 => ?_) (fun h2 => ?_)
  ·(try replace h2 := xhh h2)
   simp at h2
  ·(try replace h2 := xhh h2)
   (iterate 2 ((try simp (etaStruct := .none) only [push_cast, DrawG, Int.cast_ofNat_Int, seval, lnkA, evtA, hk, hkeep, getD_in _ _ _ hlt, i64P]); (try (refine xsu ?_; try exact xtI))))
   refine cond_i (fun h3 => ?_) (fun h3 => ?_)
   ·(try replace h3 := xhh h3)
    simp at h3
   ·(try replace h3 := xhh h3)
    (iterate 2 ((try simp (etaStruct := .none) only [push_cast, DrawG, Int.cast_ofNat_Int, seval, lnkA, evtA, hk, hkeep, getD_in _ _ _ hlt, i64P]); (try (refine xsu ?_; try exact xtI))))
    refine cond_i (fun h4 => ?_) (fun h4 => ?_)
    ·(try replace h4 := xhh h4)
     (iterate 2 ((try simp (etaStruct := .none) only [push_cast, DrawG, Int.cast_ofNat_Int, seval, lnkA, evtA, hk, hkeep, getD_in _ _ _ hlt, i64P]); (try (refine xsu ?_; try exact xtI))))
     refine caP (between_s x.at_ 0 (l.acks.length - 1)) ?_
     (iterate 2 ((try simp (etaStruct := .none) only [push_cast, DrawG, Int.cast_ofNat_Int, seval, lnkA, evtA, hk, hkeep, getD_in _ _ _ hlt, i64P]); (try (refine xsu ?_; try exact xtI))))
     refine cond_i (fun h5 => ?_) (fun h5 => ?_)
     ·(try replace h5 := xhh h5)
      rw [within_iff.2 (by omega)] at h5; simp at h5
     ·(try replace h5 := xhh h5)
      (iterate 2 ((try simp (etaStruct := .none) only [push_cast, DrawG, Int.cast_ofNat_Int, seval, lnkA, evtA, hk, hkeep, getD_in _ _ _ hlt, i64P]); (try (refine xsu ?_; try exact xtI))))
      refine cond_i (fun h6 => ?_) (fun h6 => ?_)
      ·(try replace h6 := xhh h6)
       have e1 : max l.base (l.acks.getD x.at_.toNat default) = l.acks.getD x.at_.toNat default := by omega
       (iterate 2 ((try simp (etaStruct := .none) only [push_cast, DrawG, Int.cast_ofNat_Int, seval, lnkA, evtA, hk, hkeep, getD_in _ _ _ hlt, i64P]); (try (refine xsu ?_; try exact xtI))))
       refine cond_i (fun h7 => ?_) (fun h7 => ?_)
       ·(try replace h7 := xhh h7)
        simp at h7
       ·(try replace h7 := xhh h7)
        (iterate 2 ((try simp (etaStruct := .none) only [push_cast, DrawG, Int.cast_ofNat_Int, seval, lnkA, evtA, hk, hkeep, getD_in _ _ _ hlt, i64P]); (try (refine xsu ?_; try exact xtI))))
        exact ret0 rfl (by repeat' (first | exact trivial | exact rfl | omega | refine ⟨?_, ?_⟩)) (Wk.of (by rw [e1]; rfl))
      ·(try replace h6 := xhh h6)
       have e1 : max l.base (l.acks.getD x.at_.toNat default) = l.base := by omega
       (iterate 2 ((try simp (etaStruct := .none) only [push_cast, DrawG, Int.cast_ofNat_Int, seval, lnkA, evtA, hk, hkeep, getD_in _ _ _ hlt, i64P]); (try (refine xsu ?_; try exact xtI))))
       refine cond_i (fun h8 => ?_) (fun h8 => ?_)
       ·(try replace h8 := xhh h8)
        simp at h8
       ·(try replace h8 := xhh h8)
        (iterate 2 ((try simp (etaStruct := .none) only [push_cast, DrawG, Int.cast_ofNat_Int, seval, lnkA, evtA, hk, hkeep, getD_in _ _ _ hlt, i64P]); (try (refine xsu ?_; try exact xtI))))
        exact ret0 rfl (by repeat' (first | exact trivial | exact rfl | omega | refine ⟨?_, ?_⟩)) (Wk.of (by rw [e1]; rfl))
    ·(try replace h4 := xhh h4)
     simp at h4
theorem L4_n (l : Lnk) (x : Evt) (R : LnkR l) (hk : x.kind = 4) (hkeep : x.keep = false) (h : ¬ (x.at_ < 0 ∨ (l.acks.length : Int) ≤ x.at_)) : Spec Try.prog 28 [lnkA l, evtA x] [] (.tup [lnkA { l with acks := cutV l.acks x.at_.toNat, base := max l.base (l.acks.getD x.at_.toNat default) }, I .i64 0]) [] := by
 have hs := R.s
 have hg := R.g
 have ha := R.a
 have hh := R.h
 have hy := R.y
 have hb := R.b
 have hw := R.w
 have hn3 := R.n
 have hl := lnkL_of R
 have hv := mem_all (p := fun n => 0 ≤ n ∧ n ≤ l.got.length) R.ak (show x.at_.toNat < l.acks.length by omega)
 have hlt : x.at_.toNat < l.acks.length := by omega
 refine spec_am Try.func28 rfl rfl mix 200 rfl [.cell 4 57, .tmp 5] Try.results28 (Nat.le_of_ble_eq_true rfl) ?_
 (iterate 2 ((try simp (etaStruct := .none) only [push_cast, DrawG, Int.cast_ofNat_Int, seval, lnkA, evtA, hk, hkeep, getD_in _ _ _ hlt, i64P]); (try (refine xsu ?_; try exact xtI))))
 refine cond_i (fun h1 => ?_) (fun h1 => ?_)
 ·(try replace h1 := xhh h1)
  simp at h1
 ·(try replace h1 := xhh h1)
  (iterate 2 ((try simp (etaStruct := .none) only [push_cast, DrawG, Int.cast_ofNat_Int, seval, lnkA, evtA, hk, hkeep, getD_in _ _ _ hlt, i64P]); (try (refine xsu ?_; try exact xtI))))
  refine cond_i (fun h2 => ?_) (fun h2 => ?_)
  ·(try replace h2 := xhh h2)
   simp at h2
  ·(try replace h2 := xhh h2)
   (iterate 2 ((try simp (etaStruct := .none) only [push_cast, DrawG, Int.cast_ofNat_Int, seval, lnkA, evtA, hk, hkeep, getD_in _ _ _ hlt, i64P]); (try (refine xsu ?_; try exact xtI))))
   refine cond_i (fun h3 => ?_) (fun h3 => ?_)
   ·(try replace h3 := xhh h3)
    simp at h3
   ·(try replace h3 := xhh h3)
    (iterate 2 ((try simp (etaStruct := .none) only [push_cast, DrawG, Int.cast_ofNat_Int, seval, lnkA, evtA, hk, hkeep, getD_in _ _ _ hlt, i64P]); (try (refine xsu ?_; try exact xtI))))
    refine cond_i (fun h4 => ?_) (fun h4 => ?_)
    ·(try replace h4 := xhh h4)
     (iterate 2 ((try simp (etaStruct := .none) only [push_cast, DrawG, Int.cast_ofNat_Int, seval, lnkA, evtA, hk, hkeep, getD_in _ _ _ hlt, i64P]); (try (refine xsu ?_; try exact xtI))))
     refine caP (between_s x.at_ 0 (l.acks.length - 1)) ?_
     (iterate 2 ((try simp (etaStruct := .none) only [push_cast, DrawG, Int.cast_ofNat_Int, seval, lnkA, evtA, hk, hkeep, getD_in _ _ _ hlt, i64P]); (try (refine xsu ?_; try exact xtI))))
     refine cond_i (fun h5 => ?_) (fun h5 => ?_)
     ·(try replace h5 := xhh h5)
      rw [within_iff.2 (by omega)] at h5; simp at h5
     ·(try replace h5 := xhh h5)
      (iterate 2 ((try simp (etaStruct := .none) only [push_cast, DrawG, Int.cast_ofNat_Int, seval, lnkA, evtA, hk, hkeep, getD_in _ _ _ hlt, i64P]); (try (refine xsu ?_; try exact xtI))))
      refine cond_i (fun h6 => ?_) (fun h6 => ?_)
      ·(try replace h6 := xhh h6)
       have e1 : max l.base (l.acks.getD x.at_.toNat default) = l.acks.getD x.at_.toNat default := by omega
       (iterate 2 ((try simp (etaStruct := .none) only [push_cast, DrawG, Int.cast_ofNat_Int, seval, lnkA, evtA, hk, hkeep, getD_in _ _ _ hlt, i64P]); (try (refine xsu ?_; try exact xtI))))
       refine cond_i (fun h7 => ?_) (fun h7 => ?_)
       ·(try replace h7 := xhh h7)
        (iterate 2 ((try simp (etaStruct := .none) only [push_cast, DrawG, Int.cast_ofNat_Int, seval, lnkA, evtA, hk, hkeep, getD_in _ _ _ hlt, i64P]); (try (refine xsu ?_; try exact xtI))))
        refine caP (cut_s l.acks x.at_ (by omega) (by omega)) ?_
        (iterate 2 ((try simp (etaStruct := .none) only [push_cast, DrawG, Int.cast_ofNat_Int, seval, lnkA, evtA, hk, hkeep, getD_in _ _ _ hlt, i64P]); (try (refine xsu ?_; try exact xtI))))
        exact ret0 rfl (by repeat' (first | exact trivial | exact rfl | omega | refine ⟨?_, ?_⟩)) (Wk.of (by rw [e1]; rfl))
       ·(try replace h7 := xhh h7)
        simp at h7
      ·(try replace h6 := xhh h6)
       have e1 : max l.base (l.acks.getD x.at_.toNat default) = l.base := by omega
       (iterate 2 ((try simp (etaStruct := .none) only [push_cast, DrawG, Int.cast_ofNat_Int, seval, lnkA, evtA, hk, hkeep, getD_in _ _ _ hlt, i64P]); (try (refine xsu ?_; try exact xtI))))
       refine cond_i (fun h8 => ?_) (fun h8 => ?_)
       ·(try replace h8 := xhh h8)
        (iterate 2 ((try simp (etaStruct := .none) only [push_cast, DrawG, Int.cast_ofNat_Int, seval, lnkA, evtA, hk, hkeep, getD_in _ _ _ hlt, i64P]); (try (refine xsu ?_; try exact xtI))))
        refine caP (cut_s l.acks x.at_ (by omega) (by omega)) ?_
        (iterate 2 ((try simp (etaStruct := .none) only [push_cast, DrawG, Int.cast_ofNat_Int, seval, lnkA, evtA, hk, hkeep, getD_in _ _ _ hlt, i64P]); (try (refine xsu ?_; try exact xtI))))
        exact ret0 rfl (by repeat' (first | exact trivial | exact rfl | omega | refine ⟨?_, ?_⟩)) (Wk.of (by rw [e1]; rfl))
       ·(try replace h8 := xhh h8)
        simp at h8
    ·(try replace h4 := xhh h4)
     simp at h4
end Go.Proofs.Ytdkmndimmpilaaa
namespace Go.Proofs.Ytdkmndimmpilaaa
set_option linter.all false
open Go.RowKit
set_option maxRecDepth 100000
set_option maxHeartbeats 1000000
theorem LnkR.cutw {l : Lnk} (R : LnkR l) (i : Nat) : LnkR { l with way := cutV l.way i } := ⟨R.w, R.s, Nat.le_trans (cutV_len _ _) R.y, R.a, R.g, R.p, R.b, R.h, R.n, fun m hm => R.wy m (cutV_mem hm), R.ak, R.hd, R.up⟩
theorem L2_ok (l : Lnk) (x : Evt) (R : LnkR l) (hk : x.kind = 2) (h : ¬ 1000 < (l.way.length : Int) + sendTo l - l.base) : Spec Try.prog 28 [lnkA l, evtA x] [] (.tup [lnkA { l with next := sendTo l, way := l.way ++ rngI l.base (sendTo l - l.base).toNat }, I .i64 0]) [] := by
 have hs := R.s
 have hg := R.g
 have ha := R.a
 have hh := R.h
 have hy := R.y
 have hb := R.b
 have hw := R.w
 have hn3 := R.n
 have hl := lnkL_of R
 obtain ⟨b1, b2, b3, b4, b5, b6⟩ := sendTo_b R
 have hmin : ∀ a : Int, (a < l.base + l.window ∧ a < l.sent.length) ↔ a < sendTo l := fun a => by unfold sendTo; omega
 refine spec_am Try.func28 rfl rfl mix 200 rfl [.cell 4 57, .tmp 5] Try.results28 (Nat.le_of_ble_eq_true rfl) ?_
 (iterate 2 ((try simp (etaStruct := .none) only [push_cast, DrawG, Int.cast_ofNat_Int, seval, lnkA, evtA, hk]); (try (refine xsu ?_; try exact xtI))))
 refine cond_i (fun h1 => ?_) (fun h1 => ?_)
 ·(try replace h1 := xhh h1)
  simp at h1
 ·(try replace h1 := xhh h1)
  (iterate 2 ((try simp (etaStruct := .none) only [push_cast, DrawG, Int.cast_ofNat_Int, seval, lnkA, evtA, hk]); (try (refine xsu ?_; try exact xtI))))
  refine cond_i (fun h2 => ?_) (fun h2 => ?_)
  ·(try replace h2 := xhh h2)
   (iterate 2 ((try simp (etaStruct := .none) only [push_cast, DrawG, Int.cast_ofNat_Int, seval, lnkA, evtA, hk]); (try (refine xsu ?_; try exact xtI))))
   refine caM [] (int_clone l.way (by omega)) ?_
   (iterate 2 ((try simp (etaStruct := .none) only [push_cast, DrawG, Int.cast_ofNat_Int, seval, lnkA, evtA, hk]); (try (refine xsu ?_; try exact xtI))))
   refine loopI (fun k : Nat => ⟨[(7, I .i64 (l.base + k)), (6, .own 2), (4, .ptr 1 0 0), (2, .ptr 0 0 0)], [(0, .blk 57 [I .i64 l.window, .c (.sl 1 (l.sent.map strP)), I .i64 l.base, I .i64 l.next, .c (.sl 1 ((l.way).map i64P)), .c (.sl 1 (l.acks.map i64P)), .c (.sl 1 (l.got.map strP)), .c (.sl 1 (l.held.map i64P))]), (1, .blk 57 [I .i64 0, .c (.v (.slice none 0 0)), I .i64 0, I .i64 0, .c (.v (.slice none 0 0)), .c (.v (.slice none 0 0)), .c (.v (.slice none 0 0)), .c (.v (.slice none 0 0))]), (2, .row 3 1 ((l.way ++ rngI l.base k).map i64P))], 3⟩) (fun k : Nat => (k : Int) ≤ sendTo l - l.base) (fun k : Nat => (sendTo l - l.base).toNat - k) (0) (by omega) (To.mk [0, 2, 3] rfl rfl (by decide) ?_ ?_) ?_
   ·simp (etaStruct := .none) only [push_cast, DrawG, Int.cast_ofNat_Int, seval, rngI_0, List.append_nil]
   ·simp (etaStruct := .none) only [push_cast, DrawG, Int.cast_ofNat_Int, seval, Int.natCast_zero, Int.add_zero]
   rintro k hk2
   (iterate 2 ((try simp (etaStruct := .none) only [push_cast, DrawG, Int.cast_ofNat_Int, seval, lnkA, evtA, hk]); (try (refine xsu ?_; try exact xtI))))
   refine cond_i (fun h3 => ?_) (fun h3 => ?_)
   ·(try replace h3 := xhh h3)
    have h3' : l.base + k < sendTo l := (hmin _).1 ⟨by omega, by omega⟩
    have hsn : (l.way ++ rngI l.base (k + 1)).map i64P = (l.way ++ rngI l.base k).map i64P ++ [[pI (l.base + k)]] := by rw [rngI_snoc, ← List.append_assoc, List.map_append (l₁ := l.way ++ rngI l.base k)]; rfl
    (iterate 2 ((try simp (etaStruct := .none) only [push_cast, DrawG, Int.cast_ofNat_Int, seval, lnkA, evtA, hk, List.length_append, rngI_len]); (try (refine xsu ?_; try exact xtI))))
    refine ⟨k + 1, by omega, by omega, To.mk [0, 1, 4] rfl rfl (by decide) ?_ ?_⟩
    ·simp (etaStruct := .none) only [push_cast, DrawG, Int.cast_ofNat_Int, seval, hsn]
    ·simp (etaStruct := .none) only [push_cast, DrawG, Int.cast_ofNat_Int, seval, Int.add_assoc]
   ·(try replace h3 := xhh h3)
    have h3' : ¬ l.base + k < sendTo l := fun hh => by have := (hmin _).2 hh; omega
    obtain rfl : k = (sendTo l - l.base).toNat := by omega
    (iterate 2 ((try simp (etaStruct := .none) only [push_cast, DrawG, Int.cast_ofNat_Int, seval, lnkA, evtA, hk, List.length_append, rngI_len]); (try (refine xsu ?_; try exact xtI))))
    refine cond_i (fun h4 => ?_) (fun h4 => ?_)
    ·(try replace h4 := xhh h4)
     omega
    ·(try replace h4 := xhh h4)
     (iterate 2 ((try simp (etaStruct := .none) only [push_cast, DrawG, Int.cast_ofNat_Int, seval, lnkA, evtA, hk, List.length_append, rngI_len]); (try (refine xsu ?_; try exact xtI))))
     exact ret0 rfl (by repeat' (first | exact trivial | exact rfl | omega | refine ⟨?_, ?_⟩)) (Wk.of (by rw [show l.base + ((sendTo l - l.base).toNat : Int) = sendTo l by omega]; rfl))
  ·(try replace h2 := xhh h2)
   simp at h2
theorem L2_full (l : Lnk) (x : Evt) (R : LnkR l) (hk : x.kind = 2) (h : 1000 < (l.way.length : Int) + sendTo l - l.base) : Spec Try.prog 28 [lnkA l, evtA x] [] (.tup [lnkA l, I .i64 6]) [] := by
 have hs := R.s
 have hg := R.g
 have ha := R.a
 have hh := R.h
 have hy := R.y
 have hb := R.b
 have hw := R.w
 have hn3 := R.n
 have hl := lnkL_of R
 obtain ⟨b1, b2, b3, b4, b5, b6⟩ := sendTo_b R
 have hmin : ∀ a : Int, (a < l.base + l.window ∧ a < l.sent.length) ↔ a < sendTo l := fun a => by unfold sendTo; omega
 refine spec_am Try.func28 rfl rfl mix 200 rfl [.cell 4 57, .tmp 5] Try.results28 (Nat.le_of_ble_eq_true rfl) ?_
 (iterate 2 ((try simp (etaStruct := .none) only [push_cast, DrawG, Int.cast_ofNat_Int, seval, lnkA, evtA, hk]); (try (refine xsu ?_; try exact xtI))))
 refine cond_i (fun h1 => ?_) (fun h1 => ?_)
 ·(try replace h1 := xhh h1)
  simp at h1
 ·(try replace h1 := xhh h1)
  (iterate 2 ((try simp (etaStruct := .none) only [push_cast, DrawG, Int.cast_ofNat_Int, seval, lnkA, evtA, hk]); (try (refine xsu ?_; try exact xtI))))
  refine cond_i (fun h2 => ?_) (fun h2 => ?_)
  ·(try replace h2 := xhh h2)
   (iterate 2 ((try simp (etaStruct := .none) only [push_cast, DrawG, Int.cast_ofNat_Int, seval, lnkA, evtA, hk]); (try (refine xsu ?_; try exact xtI))))
   refine caM [] (int_clone l.way (by omega)) ?_
   (iterate 2 ((try simp (etaStruct := .none) only [push_cast, DrawG, Int.cast_ofNat_Int, seval, lnkA, evtA, hk]); (try (refine xsu ?_; try exact xtI))))
   refine loopI (fun k : Nat => ⟨[(7, I .i64 (l.base + k)), (6, .own 2), (4, .ptr 1 0 0), (2, .ptr 0 0 0)], [(0, .blk 57 [I .i64 l.window, .c (.sl 1 (l.sent.map strP)), I .i64 l.base, I .i64 l.next, .c (.sl 1 ((l.way).map i64P)), .c (.sl 1 (l.acks.map i64P)), .c (.sl 1 (l.got.map strP)), .c (.sl 1 (l.held.map i64P))]), (1, .blk 57 [I .i64 0, .c (.v (.slice none 0 0)), I .i64 0, I .i64 0, .c (.v (.slice none 0 0)), .c (.v (.slice none 0 0)), .c (.v (.slice none 0 0)), .c (.v (.slice none 0 0))]), (2, .row 3 1 ((l.way ++ rngI l.base k).map i64P))], 3⟩) (fun k : Nat => (k : Int) ≤ sendTo l - l.base) (fun k : Nat => (sendTo l - l.base).toNat - k) (0) (by omega) (To.mk [0, 2, 3] rfl rfl (by decide) ?_ ?_) ?_
   ·simp (etaStruct := .none) only [push_cast, DrawG, Int.cast_ofNat_Int, seval, rngI_0, List.append_nil]
   ·simp (etaStruct := .none) only [push_cast, DrawG, Int.cast_ofNat_Int, seval, Int.natCast_zero, Int.add_zero]
   rintro k hk2
   (iterate 2 ((try simp (etaStruct := .none) only [push_cast, DrawG, Int.cast_ofNat_Int, seval, lnkA, evtA, hk]); (try (refine xsu ?_; try exact xtI))))
   refine cond_i (fun h3 => ?_) (fun h3 => ?_)
   ·(try replace h3 := xhh h3)
    have h3' : l.base + k < sendTo l := (hmin _).1 ⟨by omega, by omega⟩
    have hsn : (l.way ++ rngI l.base (k + 1)).map i64P = (l.way ++ rngI l.base k).map i64P ++ [[pI (l.base + k)]] := by rw [rngI_snoc, ← List.append_assoc, List.map_append (l₁ := l.way ++ rngI l.base k)]; rfl
    (iterate 2 ((try simp (etaStruct := .none) only [push_cast, DrawG, Int.cast_ofNat_Int, seval, lnkA, evtA, hk, List.length_append, rngI_len]); (try (refine xsu ?_; try exact xtI))))
    refine ⟨k + 1, by omega, by omega, To.mk [0, 1, 4] rfl rfl (by decide) ?_ ?_⟩
    ·simp (etaStruct := .none) only [push_cast, DrawG, Int.cast_ofNat_Int, seval, hsn]
    ·simp (etaStruct := .none) only [push_cast, DrawG, Int.cast_ofNat_Int, seval, Int.add_assoc]
   ·(try replace h3 := xhh h3)
    have h3' : ¬ l.base + k < sendTo l := fun hh => by have := (hmin _).2 hh; omega
    obtain rfl : k = (sendTo l - l.base).toNat := by omega
    (iterate 2 ((try simp (etaStruct := .none) only [push_cast, DrawG, Int.cast_ofNat_Int, seval, lnkA, evtA, hk, List.length_append, rngI_len]); (try (refine xsu ?_; try exact xtI))))
    refine cond_i (fun h4 => ?_) (fun h4 => ?_)
    ·(try replace h4 := xhh h4)
     (iterate 2 ((try simp (etaStruct := .none) only [push_cast, DrawG, Int.cast_ofNat_Int, seval, lnkA, evtA, hk, List.length_append, rngI_len]); (try (refine xsu ?_; try exact xtI))))
     exact xrz rfl
    ·(try replace h4 := xhh h4)
     omega
  ·(try replace h2 := xhh h2)
   simp at h2
theorem L3_k (l : Lnk) (x : Evt) (R : LnkR l) (hk : x.kind = 3) (hkeep : x.keep = true) (h : ¬ (x.at_ < 0 ∨ (l.way.length : Int) ≤ x.at_)) (hf : ¬ l.acks.length = 1000) (G : Nat) (hd : List Int) (hr : comesV l.got.length l.held (l.way.getD x.at_.toNat default) = ((G : Int), hd)) : Spec Try.prog 28 [lnkA l, evtA x] [] (.tup [lnkA { l with way := l.way, got := l.sent.take G, held := hd, acks := l.acks ++ [(G : Int)] }, I .i64 0]) [] := by
 have hs := R.s
 have hg := R.g
 have ha := R.a
 have hh := R.h
 have hy := R.y
 have hb := R.b
 have hw := R.w
 have hn3 := R.n
 have hl := lnkL_of R
 have hlt : x.at_.toNat < l.way.length := by omega
 have hN := mem_all (p := fun n => 0 ≤ n ∧ n < l.next) R.wy hlt
 obtain ⟨c1, c2, c3, c4, c5⟩ := comes_ok l.got.length l.next l.held (l.way.getD x.at_.toNat default) (by omega) R.up R.hd hN
 rw [hr] at c1 c2 c3 c4 c5
 simp only at c1 c2 c3 c4 c5
 refine spec_am Try.func28 rfl rfl mix 200 rfl [.cell 4 57, .tmp 5] Try.results28 (Nat.le_of_ble_eq_true rfl) ?_
 (iterate 2 ((try simp (etaStruct := .none) only [push_cast, DrawG, Int.cast_ofNat_Int, seval, lnkA, evtA, hk, hkeep, getD_in _ _ _ hlt, i64P]); (try (refine xsu ?_; try exact xtI))))
 refine cond_i (fun h1 => ?_) (fun h1 => ?_)
 ·(try replace h1 := xhh h1)
  simp at h1
 ·(try replace h1 := xhh h1)
  (iterate 2 ((try simp (etaStruct := .none) only [push_cast, DrawG, Int.cast_ofNat_Int, seval, lnkA, evtA, hk, hkeep, getD_in _ _ _ hlt, i64P]); (try (refine xsu ?_; try exact xtI))))
  refine cond_i (fun h2 => ?_) (fun h2 => ?_)
  ·(try replace h2 := xhh h2)
   simp at h2
  ·(try replace h2 := xhh h2)
   (iterate 2 ((try simp (etaStruct := .none) only [push_cast, DrawG, Int.cast_ofNat_Int, seval, lnkA, evtA, hk, hkeep, getD_in _ _ _ hlt, i64P]); (try (refine xsu ?_; try exact xtI))))
   refine cond_i (fun h3 => ?_) (fun h3 => ?_)
   ·(try replace h3 := xhh h3)
    (iterate 2 ((try simp (etaStruct := .none) only [push_cast, DrawG, Int.cast_ofNat_Int, seval, lnkA, evtA, hk, hkeep, getD_in _ _ _ hlt, i64P]); (try (refine xsu ?_; try exact xtI))))
    refine caP (between_s x.at_ 0 (l.way.length - 1)) ?_
    (iterate 2 ((try simp (etaStruct := .none) only [push_cast, DrawG, Int.cast_ofNat_Int, seval, lnkA, evtA, hk, hkeep, getD_in _ _ _ hlt, i64P]); (try (refine xsu ?_; try exact xtI))))
    refine cond_i (fun h4 => ?_) (fun h4 => ?_)
    ·(try replace h4 := xhh h4)
     rw [within_iff.2 (by omega)] at h4; simp at h4
    ·(try replace h4 := xhh h4)
     (iterate 2 ((try simp (etaStruct := .none) only [push_cast, DrawG, Int.cast_ofNat_Int, seval, lnkA, evtA, hk, hkeep, getD_in _ _ _ hlt, i64P]); (try (refine xsu ?_; try exact xtI))))
     refine cond_i (fun h5 => ?_) (fun h5 => ?_)
     ·(try replace h5 := xhh h5)
      omega
     ·(try replace h5 := xhh h5)
      (iterate 2 ((try simp (etaStruct := .none) only [push_cast, DrawG, Int.cast_ofNat_Int, seval, lnkA, evtA, hk, hkeep, getD_in _ _ _ hlt, i64P]); (try (refine xsu ?_; try exact xtI))))
      refine cond_i (fun h6 => ?_) (fun h6 => ?_)
      ·(try replace h6 := xhh h6)
       simp at h6
      ·(try replace h6 := xhh h6)
       (iterate 2 ((try simp (etaStruct := .none) only [push_cast, DrawG, Int.cast_ofNat_Int, seval, lnkA, evtA, hk, hkeep, getD_in _ _ _ hlt, i64P]); (try (refine xsu ?_; try exact xtI))))
       refine loopI (fun k : Nat => ⟨[(10, I .i64 k), (9, .clo (.func 66) [] [.ptr 0 0 0, .ptr 2 0 0]), (4, .ptr 1 0 0), (2, .ptr 0 0 0)], [(0, .blk 57 [I .i64 l.window, .c (.sl 1 (l.sent.map strP)), I .i64 l.base, I .i64 l.next, .c (.sl 1 ((l.way).map i64P)), .c (.sl 1 (l.acks.map i64P)), .c (.sl 1 (l.got.map strP)), .c (.sl 1 (l.held.map i64P))]), (1, .blk 57 [I .i64 0, .c (.v (.slice none 0 0)), I .i64 0, I .i64 0, .c (.v (.slice none 0 0)), .c (.v (.slice none 0 0)), .c (.v (.slice none 0 0)), .c (.v (.slice none 0 0))]), (2, .blk 3 [I .i64 (l.way.getD x.at_.toNat default)])], 3⟩) (fun k : Nat => k ≤ G) (fun k : Nat => G - k) (0) (Nat.zero_le _) (To.mk [0, 2, 3] rfl rfl (by decide) ?_ ?_) ?_
       ·simp (etaStruct := .none) only [push_cast, DrawG, Int.cast_ofNat_Int, seval]
       ·simp (etaStruct := .none) only [push_cast, DrawG, Int.cast_ofNat_Int, seval]
       rintro k hk2
       (iterate 2 ((try simp (etaStruct := .none) only [push_cast, DrawG, Int.cast_ofNat_Int, seval, lnkA, evtA, hk, hkeep, getD_in _ _ _ hlt, i64P]); (try (refine xsu ?_; try exact xtI))))
       refine callB (there_s l (l.way.getD x.at_.toNat default) (k : Int) R) (WkL.refl _) rfl ?_
       (iterate 2 ((try simp (etaStruct := .none) only [push_cast, DrawG, Int.cast_ofNat_Int, seval, lnkA, evtA, hk, hkeep, getD_in _ _ _ hlt, i64P]); (try (refine xsu ?_; try exact xtI))))
       refine cond_i (fun h7 => ?_) (fun h7 => ?_)
       ·(try replace h7 := xhh h7)
        have hkg : k < G := by
         rcases Nat.lt_or_ge k G with hh2 | hh2
         ·exact hh2
         ·obtain rfl : k = G := by omega
          rw [c4] at h7; cases h7
        (iterate 2 ((try simp (etaStruct := .none) only [push_cast, DrawG, Int.cast_ofNat_Int, seval, lnkA, evtA, hk, hkeep, getD_in _ _ _ hlt, i64P]); (try (refine xsu ?_; try exact xtI))))
        refine ⟨k + 1, by omega, by omega, To.mk [0, 1, 2] rfl rfl (by decide) ?_ ?_⟩
        ·(iterate 2 ((try simp (etaStruct := .none) only [push_cast, DrawG, Int.cast_ofNat_Int, seval, lnkA, evtA, hk, hkeep, getD_in _ _ _ hlt, i64P]); (try (refine xsu ?_; try exact xtI))))
        ·(iterate 2 ((try simp (etaStruct := .none) only [push_cast, DrawG, Int.cast_ofNat_Int, seval, lnkA, evtA, hk, hkeep, getD_in _ _ _ hlt, i64P]); (try (refine xsu ?_; try exact xtI))))
       ·(try replace h7 := xhh h7)
        obtain rfl : k = G := by
         rcases Nat.lt_or_ge k G with hh2 | hh2
         ·rw [c3 k (by omega)] at h7; cases h7
         ·omega
        (iterate 2 ((try simp (etaStruct := .none) only [push_cast, DrawG, Int.cast_ofNat_Int, seval, lnkA, evtA, hk, hkeep, getD_in _ _ _ hlt, i64P]); (try (refine xsu ?_; try exact xtI))))
        refine loopI (fun j : Nat => ⟨[(12, I .i64 ((k : Int) + j)), (11, .own 3), (10, I .i64 k), (9, .clo (.func 66) [] [.ptr 0 0 0, .ptr 2 0 0]), (4, .ptr 1 0 0), (2, .ptr 0 0 0)], [(0, .blk 57 [I .i64 l.window, .c (.sl 1 (l.sent.map strP)), I .i64 l.base, I .i64 l.next, .c (.sl 1 ((l.way).map i64P)), .c (.sl 1 (l.acks.map i64P)), .c (.sl 1 (l.got.map strP)), .c (.sl 1 (l.held.map i64P))]), (1, .blk 57 [I .i64 0, .c (.v (.slice none 0 0)), I .i64 0, I .i64 0, .c (.v (.slice none 0 0)), .c (.v (.slice none 0 0)), .c (.v (.slice none 0 0)), .c (.v (.slice none 0 0))]), (2, .blk 3 [I .i64 (l.way.getD x.at_.toNat default)]), (3, .row 3 1 (((rngI k j).filter (thereV l.got.length l.held (l.way.getD x.at_.toNat default))).map i64P))], 4⟩) (fun j : Nat => (k : Int) + j ≤ l.next) (fun j : Nat => (l.next - k).toNat - j) (0) (by omega) ((To.nil 11 3 1 rfl).trans (To.mk [0, 1, 2, 3] rfl rfl (by decide) ?_ ?_)) ?_
        ·simp (etaStruct := .none) only [push_cast, DrawG, Int.cast_ofNat_Int, seval, rngI_0, List.filter_nil, List.map_nil]
        ·simp (etaStruct := .none) only [push_cast, DrawG, Int.cast_ofNat_Int, seval, Int.natCast_zero, Int.add_zero]
        rintro j hj
        (iterate 2 ((try simp (etaStruct := .none) only [push_cast, DrawG, Int.cast_ofNat_Int, seval, lnkA, evtA, hk, hkeep, getD_in _ _ _ hlt, i64P]); (try (refine xsu ?_; try exact xtI))))
        refine cond_i (fun h8 => ?_) (fun h8 => ?_)
        ·(try replace h8 := xhh h8)
         have hfl : ((rngI k j).filter (thereV l.got.length l.held (l.way.getD x.at_.toNat default))).length ≤ 200 := Nat.le_trans (List.length_filter_le _ _) (by rw [rngI_len]; omega)
         (iterate 2 ((try simp (etaStruct := .none) only [push_cast, DrawG, Int.cast_ofNat_Int, seval, lnkA, evtA, hk, hkeep, getD_in _ _ _ hlt, i64P]); (try (refine xsu ?_; try exact xtI))))
         refine callB (there_s l (l.way.getD x.at_.toNat default) ((k : Int) + j) R) (WkL.refl _) rfl ?_
         (iterate 2 ((try simp (etaStruct := .none) only [push_cast, DrawG, Int.cast_ofNat_Int, seval, lnkA, evtA, hk, hkeep, getD_in _ _ _ hlt, i64P]); (try (refine xsu ?_; try exact xtI))))
         refine cond_i (fun h9 => ?_) (fun h9 => ?_)
         ·(try replace h9 := xhh h9)
          have hsn : ((rngI k (j + 1)).filter (thereV l.got.length l.held (l.way.getD x.at_.toNat default))).map i64P = ((rngI k j).filter (thereV l.got.length l.held (l.way.getD x.at_.toNat default))).map i64P ++ [[pI ((k : Int) + j)]] := by rw [rngI_snoc, List.filter_append, List.map_append]; congr 1; rw [List.filter_cons, if_pos h9]; rfl
          (iterate 2 ((try simp (etaStruct := .none) only [push_cast, DrawG, Int.cast_ofNat_Int, seval, lnkA, evtA, hk, hkeep, getD_in _ _ _ hlt, i64P]); (try (refine xsu ?_; try exact xtI))))
          refine ⟨j + 1, by omega, by omega, To.mk [0, 1, 2, 5] rfl rfl (by decide) ?_ ?_⟩
          ·simp (etaStruct := .none) only [push_cast, DrawG, Int.cast_ofNat_Int, seval, hsn]
          ·simp (etaStruct := .none) only [push_cast, DrawG, Int.cast_ofNat_Int, seval, Int.add_assoc]
         ·(try replace h9 := xhh h9)
          have hsn : ((rngI k (j + 1)).filter (thereV l.got.length l.held (l.way.getD x.at_.toNat default))).map i64P = ((rngI k j).filter (thereV l.got.length l.held (l.way.getD x.at_.toNat default))).map i64P := by rw [rngI_snoc, List.filter_append, List.map_append]; rw [List.filter_cons, if_neg (by rw [h9]; simp)]; simp
          (iterate 2 ((try simp (etaStruct := .none) only [push_cast, DrawG, Int.cast_ofNat_Int, seval, lnkA, evtA, hk, hkeep, getD_in _ _ _ hlt, i64P]); (try (refine xsu ?_; try exact xtI))))
          refine ⟨j + 1, by omega, by omega, To.mk [0, 1, 2, 3] rfl rfl (by decide) ?_ ?_⟩
          ·simp (etaStruct := .none) only [push_cast, DrawG, Int.cast_ofNat_Int, seval, hsn]
          ·simp (etaStruct := .none) only [push_cast, DrawG, Int.cast_ofNat_Int, seval, Int.add_assoc]
        ·(try replace h8 := xhh h8)
         obtain rfl : j = (l.next - k).toNat := by omega
         rw [c5]
         have ets : List.take k (l.sent.map strP) = (l.sent.take k).map strP := by rw [List.map_take]
         (iterate 2 ((try simp (etaStruct := .none) only [push_cast, DrawG, Int.cast_ofNat_Int, seval, lnkA, evtA, hk, hkeep, getD_in _ _ _ hlt, i64P, ets]); (try (refine xsu ?_; try exact xtI))))
         refine caP (str_copy (l.sent.take k) (by rw [List.length_take]; omega)) ?_
         (iterate 2 ((try simp (etaStruct := .none) only [push_cast, DrawG, Int.cast_ofNat_Int, seval, lnkA, evtA, hk, hkeep, getD_in _ _ _ hlt, i64P, ets]); (try (refine xsu ?_; try exact xtI))))
         refine caM [] (int_clone l.acks (by omega)) ?_
         (iterate 2 ((try simp (etaStruct := .none) only [push_cast, DrawG, Int.cast_ofNat_Int, seval, lnkA, evtA, hk, hkeep, getD_in _ _ _ hlt, i64P, ets]); (try (refine xsu ?_; try exact xtI))))
         exact ret0 rfl (by repeat' (first | exact trivial | exact rfl | omega | refine ⟨?_, ?_⟩)) (Wk.of (by simp only [lnkA, List.map_append]; rfl))
   ·(try replace h3 := xhh h3)
    simp at h3
theorem L3_n (l : Lnk) (x : Evt) (R : LnkR l) (hk : x.kind = 3) (hkeep : x.keep = false) (h : ¬ (x.at_ < 0 ∨ (l.way.length : Int) ≤ x.at_)) (hf : ¬ l.acks.length = 1000) (G : Nat) (hd : List Int) (hr : comesV l.got.length l.held (l.way.getD x.at_.toNat default) = ((G : Int), hd)) : Spec Try.prog 28 [lnkA l, evtA x] [] (.tup [lnkA { l with way := cutV l.way x.at_.toNat, got := l.sent.take G, held := hd, acks := l.acks ++ [(G : Int)] }, I .i64 0]) [] := by
 have hs := R.s
 have hg := R.g
 have ha := R.a
 have hh := R.h
 have hy := R.y
 have hb := R.b
 have hw := R.w
 have hn3 := R.n
 have hl := lnkL_of R
 have hlt : x.at_.toNat < l.way.length := by omega
 have hN := mem_all (p := fun n => 0 ≤ n ∧ n < l.next) R.wy hlt
 obtain ⟨c1, c2, c3, c4, c5⟩ := comes_ok l.got.length l.next l.held (l.way.getD x.at_.toNat default) (by omega) R.up R.hd hN
 rw [hr] at c1 c2 c3 c4 c5
 simp only at c1 c2 c3 c4 c5
 refine spec_am Try.func28 rfl rfl mix 200 rfl [.cell 4 57, .tmp 5] Try.results28 (Nat.le_of_ble_eq_true rfl) ?_
 (iterate 2 ((try simp (etaStruct := .none) only [push_cast, DrawG, Int.cast_ofNat_Int, seval, lnkA, evtA, hk, hkeep, getD_in _ _ _ hlt, i64P]); (try (refine xsu ?_; try exact xtI))))
 refine cond_i (fun h1 => ?_) (fun h1 => ?_)
 ·(try replace h1 := xhh h1)
  simp at h1
 ·(try replace h1 := xhh h1)
  (iterate 2 ((try simp (etaStruct := .none) only [push_cast, DrawG, Int.cast_ofNat_Int, seval, lnkA, evtA, hk, hkeep, getD_in _ _ _ hlt, i64P]); (try (refine xsu ?_; try exact xtI))))
  refine cond_i (fun h2 => ?_) (fun h2 => ?_)
  ·(try replace h2 := xhh h2)
   simp at h2
  ·(try replace h2 := xhh h2)
   (iterate 2 ((try simp (etaStruct := .none) only [push_cast, DrawG, Int.cast_ofNat_Int, seval, lnkA, evtA, hk, hkeep, getD_in _ _ _ hlt, i64P]); (try (refine xsu ?_; try exact xtI))))
   refine cond_i (fun h3 => ?_) (fun h3 => ?_)
   ·(try replace h3 := xhh h3)
    (iterate 2 ((try simp (etaStruct := .none) only [push_cast, DrawG, Int.cast_ofNat_Int, seval, lnkA, evtA, hk, hkeep, getD_in _ _ _ hlt, i64P]); (try (refine xsu ?_; try exact xtI))))
    refine caP (between_s x.at_ 0 (l.way.length - 1)) ?_
    (iterate 2 ((try simp (etaStruct := .none) only [push_cast, DrawG, Int.cast_ofNat_Int, seval, lnkA, evtA, hk, hkeep, getD_in _ _ _ hlt, i64P]); (try (refine xsu ?_; try exact xtI))))
    refine cond_i (fun h4 => ?_) (fun h4 => ?_)
    ·(try replace h4 := xhh h4)
     rw [within_iff.2 (by omega)] at h4; simp at h4
    ·(try replace h4 := xhh h4)
     (iterate 2 ((try simp (etaStruct := .none) only [push_cast, DrawG, Int.cast_ofNat_Int, seval, lnkA, evtA, hk, hkeep, getD_in _ _ _ hlt, i64P]); (try (refine xsu ?_; try exact xtI))))
     refine cond_i (fun h5 => ?_) (fun h5 => ?_)
     ·(try replace h5 := xhh h5)
      omega
     ·(try replace h5 := xhh h5)
      (iterate 2 ((try simp (etaStruct := .none) only [push_cast, DrawG, Int.cast_ofNat_Int, seval, lnkA, evtA, hk, hkeep, getD_in _ _ _ hlt, i64P]); (try (refine xsu ?_; try exact xtI))))
      refine cond_i (fun h6 => ?_) (fun h6 => ?_)
      ·(try replace h6 := xhh h6)
       (iterate 2 ((try simp (etaStruct := .none) only [push_cast, DrawG, Int.cast_ofNat_Int, seval, lnkA, evtA, hk, hkeep, getD_in _ _ _ hlt, i64P]); (try (refine xsu ?_; try exact xtI))))
       refine caP (cut_s l.way x.at_ (by omega) (by omega)) ?_
       (iterate 2 ((try simp (etaStruct := .none) only [push_cast, DrawG, Int.cast_ofNat_Int, seval, lnkA, evtA, hk, hkeep, getD_in _ _ _ hlt, i64P]); (try (refine xsu ?_; try exact xtI))))
       refine loopI (fun k : Nat => ⟨[(10, I .i64 k), (9, .clo (.func 66) [] [.ptr 0 0 0, .ptr 2 0 0]), (4, .ptr 1 0 0), (2, .ptr 0 0 0)], [(0, .blk 57 [I .i64 l.window, .c (.sl 1 (l.sent.map strP)), I .i64 l.base, I .i64 l.next, .c (.sl 1 ((cutV l.way x.at_.toNat).map i64P)), .c (.sl 1 (l.acks.map i64P)), .c (.sl 1 (l.got.map strP)), .c (.sl 1 (l.held.map i64P))]), (1, .blk 57 [I .i64 0, .c (.v (.slice none 0 0)), I .i64 0, I .i64 0, .c (.v (.slice none 0 0)), .c (.v (.slice none 0 0)), .c (.v (.slice none 0 0)), .c (.v (.slice none 0 0))]), (2, .blk 3 [I .i64 (l.way.getD x.at_.toNat default)])], 3⟩) (fun k : Nat => k ≤ G) (fun k : Nat => G - k) (0) (Nat.zero_le _) (To.mk [0, 2, 3] rfl rfl (by decide) ?_ ?_) ?_
       ·simp (etaStruct := .none) only [push_cast, DrawG, Int.cast_ofNat_Int, seval]
       ·simp (etaStruct := .none) only [push_cast, DrawG, Int.cast_ofNat_Int, seval]
       rintro k hk2
       (iterate 2 ((try simp (etaStruct := .none) only [push_cast, DrawG, Int.cast_ofNat_Int, seval, lnkA, evtA, hk, hkeep, getD_in _ _ _ hlt, i64P]); (try (refine xsu ?_; try exact xtI))))
       refine callB (there_s { l with way := cutV l.way x.at_.toNat } (l.way.getD x.at_.toNat default) (k : Int) (R.cutw _)) (WkL.refl _) rfl ?_
       (iterate 2 ((try simp (etaStruct := .none) only [push_cast, DrawG, Int.cast_ofNat_Int, seval, lnkA, evtA, hk, hkeep, getD_in _ _ _ hlt, i64P]); (try (refine xsu ?_; try exact xtI))))
       refine cond_i (fun h7 => ?_) (fun h7 => ?_)
       ·(try replace h7 := xhh h7)
        have hkg : k < G := by
         rcases Nat.lt_or_ge k G with hh2 | hh2
         ·exact hh2
         ·obtain rfl : k = G := by omega
          rw [c4] at h7; cases h7
        (iterate 2 ((try simp (etaStruct := .none) only [push_cast, DrawG, Int.cast_ofNat_Int, seval, lnkA, evtA, hk, hkeep, getD_in _ _ _ hlt, i64P]); (try (refine xsu ?_; try exact xtI))))
        refine ⟨k + 1, by omega, by omega, To.mk [0, 1, 2] rfl rfl (by decide) ?_ ?_⟩
        ·(iterate 2 ((try simp (etaStruct := .none) only [push_cast, DrawG, Int.cast_ofNat_Int, seval, lnkA, evtA, hk, hkeep, getD_in _ _ _ hlt, i64P]); (try (refine xsu ?_; try exact xtI))))
        ·(iterate 2 ((try simp (etaStruct := .none) only [push_cast, DrawG, Int.cast_ofNat_Int, seval, lnkA, evtA, hk, hkeep, getD_in _ _ _ hlt, i64P]); (try (refine xsu ?_; try exact xtI))))
       ·(try replace h7 := xhh h7)
        obtain rfl : k = G := by
         rcases Nat.lt_or_ge k G with hh2 | hh2
         ·rw [c3 k (by omega)] at h7; cases h7
         ·omega
        (iterate 2 ((try simp (etaStruct := .none) only [push_cast, DrawG, Int.cast_ofNat_Int, seval, lnkA, evtA, hk, hkeep, getD_in _ _ _ hlt, i64P]); (try (refine xsu ?_; try exact xtI))))
        refine loopI (fun j : Nat => ⟨[(12, I .i64 ((k : Int) + j)), (11, .own 3), (10, I .i64 k), (9, .clo (.func 66) [] [.ptr 0 0 0, .ptr 2 0 0]), (4, .ptr 1 0 0), (2, .ptr 0 0 0)], [(0, .blk 57 [I .i64 l.window, .c (.sl 1 (l.sent.map strP)), I .i64 l.base, I .i64 l.next, .c (.sl 1 ((cutV l.way x.at_.toNat).map i64P)), .c (.sl 1 (l.acks.map i64P)), .c (.sl 1 (l.got.map strP)), .c (.sl 1 (l.held.map i64P))]), (1, .blk 57 [I .i64 0, .c (.v (.slice none 0 0)), I .i64 0, I .i64 0, .c (.v (.slice none 0 0)), .c (.v (.slice none 0 0)), .c (.v (.slice none 0 0)), .c (.v (.slice none 0 0))]), (2, .blk 3 [I .i64 (l.way.getD x.at_.toNat default)]), (3, .row 3 1 (((rngI k j).filter (thereV l.got.length l.held (l.way.getD x.at_.toNat default))).map i64P))], 4⟩) (fun j : Nat => (k : Int) + j ≤ l.next) (fun j : Nat => (l.next - k).toNat - j) (0) (by omega) ((To.nil 11 3 1 rfl).trans (To.mk [0, 1, 2, 3] rfl rfl (by decide) ?_ ?_)) ?_
        ·simp (etaStruct := .none) only [push_cast, DrawG, Int.cast_ofNat_Int, seval, rngI_0, List.filter_nil, List.map_nil]
        ·simp (etaStruct := .none) only [push_cast, DrawG, Int.cast_ofNat_Int, seval, Int.natCast_zero, Int.add_zero]
        rintro j hj
        (iterate 2 ((try simp (etaStruct := .none) only [push_cast, DrawG, Int.cast_ofNat_Int, seval, lnkA, evtA, hk, hkeep, getD_in _ _ _ hlt, i64P]); (try (refine xsu ?_; try exact xtI))))
        refine cond_i (fun h8 => ?_) (fun h8 => ?_)
        ·(try replace h8 := xhh h8)
         have hfl : ((rngI k j).filter (thereV l.got.length l.held (l.way.getD x.at_.toNat default))).length ≤ 200 := Nat.le_trans (List.length_filter_le _ _) (by rw [rngI_len]; omega)
         (iterate 2 ((try simp (etaStruct := .none) only [push_cast, DrawG, Int.cast_ofNat_Int, seval, lnkA, evtA, hk, hkeep, getD_in _ _ _ hlt, i64P]); (try (refine xsu ?_; try exact xtI))))
         refine callB (there_s { l with way := cutV l.way x.at_.toNat } (l.way.getD x.at_.toNat default) ((k : Int) + j) (R.cutw _)) (WkL.refl _) rfl ?_
         (iterate 2 ((try simp (etaStruct := .none) only [push_cast, DrawG, Int.cast_ofNat_Int, seval, lnkA, evtA, hk, hkeep, getD_in _ _ _ hlt, i64P]); (try (refine xsu ?_; try exact xtI))))
         refine cond_i (fun h9 => ?_) (fun h9 => ?_)
         ·(try replace h9 := xhh h9)
          have hsn : ((rngI k (j + 1)).filter (thereV l.got.length l.held (l.way.getD x.at_.toNat default))).map i64P = ((rngI k j).filter (thereV l.got.length l.held (l.way.getD x.at_.toNat default))).map i64P ++ [[pI ((k : Int) + j)]] := by rw [rngI_snoc, List.filter_append, List.map_append]; congr 1; rw [List.filter_cons, if_pos h9]; rfl
          (iterate 2 ((try simp (etaStruct := .none) only [push_cast, DrawG, Int.cast_ofNat_Int, seval, lnkA, evtA, hk, hkeep, getD_in _ _ _ hlt, i64P]); (try (refine xsu ?_; try exact xtI))))
          refine ⟨j + 1, by omega, by omega, To.mk [0, 1, 2, 5] rfl rfl (by decide) ?_ ?_⟩
          ·simp (etaStruct := .none) only [push_cast, DrawG, Int.cast_ofNat_Int, seval, hsn]
          ·simp (etaStruct := .none) only [push_cast, DrawG, Int.cast_ofNat_Int, seval, Int.add_assoc]
         ·(try replace h9 := xhh h9)
          have hsn : ((rngI k (j + 1)).filter (thereV l.got.length l.held (l.way.getD x.at_.toNat default))).map i64P = ((rngI k j).filter (thereV l.got.length l.held (l.way.getD x.at_.toNat default))).map i64P := by rw [rngI_snoc, List.filter_append, List.map_append]; rw [List.filter_cons, if_neg (by rw [h9]; simp)]; simp
          (iterate 2 ((try simp (etaStruct := .none) only [push_cast, DrawG, Int.cast_ofNat_Int, seval, lnkA, evtA, hk, hkeep, getD_in _ _ _ hlt, i64P]); (try (refine xsu ?_; try exact xtI))))
          refine ⟨j + 1, by omega, by omega, To.mk [0, 1, 2, 3] rfl rfl (by decide) ?_ ?_⟩
          ·simp (etaStruct := .none) only [push_cast, DrawG, Int.cast_ofNat_Int, seval, hsn]
          ·simp (etaStruct := .none) only [push_cast, DrawG, Int.cast_ofNat_Int, seval, Int.add_assoc]
        ·(try replace h8 := xhh h8)
         obtain rfl : j = (l.next - k).toNat := by omega
         rw [c5]
         have ets : List.take k (l.sent.map strP) = (l.sent.take k).map strP := by rw [List.map_take]
         (iterate 2 ((try simp (etaStruct := .none) only [push_cast, DrawG, Int.cast_ofNat_Int, seval, lnkA, evtA, hk, hkeep, getD_in _ _ _ hlt, i64P, ets]); (try (refine xsu ?_; try exact xtI))))
         refine caP (str_copy (l.sent.take k) (by rw [List.length_take]; omega)) ?_
         (iterate 2 ((try simp (etaStruct := .none) only [push_cast, DrawG, Int.cast_ofNat_Int, seval, lnkA, evtA, hk, hkeep, getD_in _ _ _ hlt, i64P, ets]); (try (refine xsu ?_; try exact xtI))))
         refine caM [] (int_clone l.acks (by omega)) ?_
         (iterate 2 ((try simp (etaStruct := .none) only [push_cast, DrawG, Int.cast_ofNat_Int, seval, lnkA, evtA, hk, hkeep, getD_in _ _ _ hlt, i64P, ets]); (try (refine xsu ?_; try exact xtI))))
         exact ret0 rfl (by repeat' (first | exact trivial | exact rfl | omega | refine ⟨?_, ?_⟩)) (Wk.of (by simp only [lnkA, List.map_append]; rfl))
      ·(try replace h6 := xhh h6)
       simp at h6
   ·(try replace h3 := xhh h3)
    simp at h3
end Go.Proofs.Ytdkmndimmpilaaa
namespace Go.Proofs.Ytdkmndimmpilaaa
set_option linter.all false
open Go.RowKit
set_option maxRecDepth 100000
set_option maxHeartbeats 1000000
theorem linked_s (l : Lnk) (x : Evt) (R : LnkR l) : Spec Try.prog 28 [lnkA l, evtA x] [] (.tup [lnkA (lnkD l x).1, I .i64 (lnkD l x).2]) [] := by
 by_cases k1 : x.kind = 1
 ·by_cases h : l.sent.length = 200
  ·rw [show lnkD l x = (l, 6) by unfold lnkD; rw [if_pos k1, if_pos h]]
   exact L1_full l x R k1 h
  ·rw [show lnkD l x = ({ l with sent := l.sent ++ [x.text] }, 0) by unfold lnkD; rw [if_pos k1, if_neg h]]
   exact L1_ok l x R k1 h
 by_cases k2 : x.kind = 2
 ·by_cases h : 1000 < (l.way.length : Int) + sendTo l - l.base
  ·rw [show lnkD l x = (l, 6) by unfold lnkD; rw [if_neg k1, if_pos k2, if_pos h]]
   exact L2_full l x R k2 h
  ·rw [show lnkD l x = ({ l with next := sendTo l, way := l.way ++ rngI l.base (sendTo l - l.base).toNat }, 0) by unfold lnkD; rw [if_neg k1, if_pos k2, if_neg h]]
   exact L2_ok l x R k2 h
 by_cases k3 : x.kind = 3
 ·by_cases h : x.at_ < 0 ∨ (l.way.length : Int) ≤ x.at_
  ·rw [show lnkD l x = (l, 7) by unfold lnkD; rw [if_neg k1, if_neg k2, if_pos k3, if_pos h]]
   exact L3_none l x R k3 h
  by_cases hf : l.acks.length = 1000
  ·rw [show lnkD l x = (l, 6) by unfold lnkD; rw [if_neg k1, if_neg k2, if_pos k3, if_neg h, if_pos hf]]
   exact L3_full l x R k3 h hf
  have e : lnkD l x = ({ l with way := takeV l.way x.at_ x.keep, got := l.sent.take (comesV l.got.length l.held (l.way.getD x.at_.toNat default)).1.toNat, held := (comesV l.got.length l.held (l.way.getD x.at_.toNat default)).2, acks := l.acks ++ [(comesV l.got.length l.held (l.way.getD x.at_.toNat default)).1] }, 0) := by
   unfold lnkD; rw [if_neg k1, if_neg k2, if_pos k3, if_neg h, if_neg hf]; rfl
  rw [e]
  have hlt : x.at_.toNat < l.way.length := by omega
  have hN := mem_all (p := fun n => 0 ≤ n ∧ n < l.next) R.wy hlt
  obtain ⟨c1, c2, c3, c4, c5⟩ := comes_ok l.got.length l.next l.held (l.way.getD x.at_.toNat default) (by have := R.n; omega) R.up R.hd hN
  obtain ⟨G, hd, hr⟩ : ∃ (G : Nat) (hd : List Int), comesV l.got.length l.held (l.way.getD x.at_.toNat default) = ((G : Int), hd) := ⟨(comesV l.got.length l.held (l.way.getD x.at_.toNat default)).1.toNat, _, by
   rw [Int.toNat_of_nonneg (by omega)]⟩
  rw [hr]
  simp only [Int.toNat_natCast]
  cases hk : x.keep
  ·exact L3_n l x R k3 hk h hf G hd hr
  ·exact L3_k l x R k3 hk h hf G hd hr
 by_cases k4 : x.kind = 4
 ·by_cases h : x.at_ < 0 ∨ (l.acks.length : Int) ≤ x.at_
  ·rw [show lnkD l x = (l, 7) by unfold lnkD; rw [if_neg k1, if_neg k2, if_neg k3, if_pos k4, if_pos h]]
   exact L4_none l x R k4 h
  have e : lnkD l x = ({ l with acks := takeV l.acks x.at_ x.keep, base := max l.base (l.acks.getD x.at_.toNat default), next := max l.next (max l.base (l.acks.getD x.at_.toNat default)) }, 0) := by
   unfold lnkD; rw [if_neg k1, if_neg k2, if_neg k3, if_pos k4, if_neg h]; rfl
  have hv := mem_all (p := fun n => 0 ≤ n ∧ n ≤ l.got.length) R.ak (show x.at_.toNat < l.acks.length by omega)
  rw [e, show max l.next (max l.base (l.acks.getD x.at_.toNat default)) = l.next by have := R.n; have := R.b; omega]
  cases hk : x.keep
  ·exact L4_n l x R k4 hk h
  ·exact L4_k l x R k4 hk h
 by_cases k5 : x.kind = 5
 ·cases hk : x.keep
  ·by_cases h : x.at_ < 0 ∨ (l.way.length : Int) ≤ x.at_
   ·rw [show lnkD l x = (l, 7) by unfold lnkD; rw [if_neg k1, if_neg k2, if_neg k3, if_neg k4, if_pos k5, if_neg (by rw [hk]; simp), if_pos h]]
    exact L5_y_none l x R k5 hk h
   ·rw [show lnkD l x = ({ l with way := cutV l.way x.at_.toNat }, 0) by unfold lnkD; rw [if_neg k1, if_neg k2, if_neg k3, if_neg k4, if_pos k5, if_neg (by rw [hk]; simp), if_neg h]]
    exact L5_y l x R k5 hk h
  ·by_cases h : x.at_ < 0 ∨ (l.acks.length : Int) ≤ x.at_
   ·rw [show lnkD l x = (l, 7) by unfold lnkD; rw [if_neg k1, if_neg k2, if_neg k3, if_neg k4, if_pos k5, if_pos hk, if_pos h]]
    exact L5_a_none l x R k5 hk h
   ·rw [show lnkD l x = ({ l with acks := cutV l.acks x.at_.toNat }, 0) by unfold lnkD; rw [if_neg k1, if_neg k2, if_neg k3, if_neg k4, if_pos k5, if_pos hk, if_neg h]]
    exact L5_a l x R k5 hk h
 ·rw [show lnkD l x = (l, 1) by unfold lnkD; rw [if_neg k1, if_neg k2, if_neg k3, if_neg k4, if_neg k5]]
  exact L_arg l x R (by omega)
end Go.Proofs.Ytdkmndimmpilaaa
namespace Go.Proofs.Ytdkmndimmpilaaa
set_option linter.all false
open Go.RowKit
set_option maxRecDepth 100000
set_option maxHeartbeats 1000000
def newL (n : Int) : Lnk := if 1 ≤ n ∧ n ≤ 16 then ⟨n, [], 0, 0, [], [], [], []⟩ else ⟨0, [], 0, 0, [], [], [], []⟩
def newLE (n : Int) : Int := if 1 ≤ n ∧ n ≤ 16 then 0 else 1
theorem newL_t {n : Int} (h : 1 ≤ n ∧ n ≤ 16) : newL n = ⟨n, [], 0, 0, [], [], [], []⟩ := by unfold newL; rw [if_pos h]
theorem newL_f {n : Int} (h : ¬ (1 ≤ n ∧ n ≤ 16)) : newL n = ⟨0, [], 0, 0, [], [], [], []⟩ := by unfold newL; rw [if_neg h]
theorem newLE_t {n : Int} (h : 1 ≤ n ∧ n ≤ 16) : newLE n = 0 := by unfold newLE; rw [if_pos h]
theorem newLE_f {n : Int} (h : ¬ (1 ≤ n ∧ n ≤ 16)) : newLE n = 1 := by unfold newLE; rw [if_neg h]
theorem lnew_s (n : Int) : Spec Try.prog 29 [I .i64 n] [] (.tup [lnkA (newL n), I .i64 (newLE n)]) [] := by
 by_cases h : 1 ≤ n ∧ n ≤ 16
 ·rw [newL_t h, newLE_t h]; exact lnew_ok n h
 ·rw [newL_f h, newLE_f h]; exact lnew_bad n h
theorem same_zeroL (w : Int) : Spec Try.prog 30 [lnkA ⟨w, [], 0, 0, [], [], [], []⟩, .agg [I .i64 w, .c (.v (.slice none 0 0)), I .i64 0, I .i64 0, .c (.v (.slice none 0 0)), .c (.v (.slice none 0 0)), .c (.v (.slice none 0 0)), .c (.v (.slice none 0 0))]] [] (B true) [] :=
 Spec.hand 0 (same_lnk ⟨w, [], 0, 0, [], [], [], []⟩ ⟨by simp, by simp, by simp, by simp, by simp⟩) (Nat.zero_le _) rfl (by exact ⟨Wk.refl _, Wk.agg ⟨Wk.refl _, Wk.nil _, Wk.refl _, Wk.refl _, Wk.nil _, Wk.nil _, Wk.nil _, Wk.nil _, trivial⟩, trivial⟩) rfl
theorem doesA (l : Lnk) (x : Evt) (n : Int) (R : LnkR l) : Spec Try.prog 6 [lnkA l, evtA x, I .i64 n] [] (B true) [] := by
 have hl := lnkL_of R
 have hd := lnkL_of (lnkD_right R x)
 have hC := lcheck_s l hl
 have hL := lright_s l hl
 rw [(lnkR_iff l).2 R] at hC hL
 refine spec_am Try.func6 rfl rfl mix 69 rfl [.tmp 6] Try.results6 (Nat.le_of_ble_eq_true rfl) ?_
 (iterate 2 ((try simp (etaStruct := .none) only [push_cast, DrawG, Int.cast_ofNat_Int, seval, lnkA, evtA]); (try (refine xsu ?_; try exact xtI))))
 refine caP (Do_s l x R) ?_
 (iterate 2 ((try simp (etaStruct := .none) only [push_cast, DrawG, Int.cast_ofNat_Int, seval, lnkA, evtA]); (try (refine xsu ?_; try exact xtI))))
 refine callM [] (hL) (WkL.refl _) rfl (by decide) (by simp [lookC_c, onlyC, memN]) ?_
 (iterate 2 ((try simp (etaStruct := .none) only [push_cast, DrawG, Int.cast_ofNat_Int, seval, lnkA, evtA]); (try (refine xsu ?_; try exact xtI))))
 (try (refine ⟨by kernel_rfl, ?_⟩))
 (iterate 2 ((try simp (etaStruct := .none) only [push_cast, DrawG, Int.cast_ofNat_Int, seval, lnkA, evtA]); (try (refine xsu ?_; try exact xtI))))
 refine cond_i (fun h1 => ?_) (fun h1 => ?_)
 ·(try replace h1 := xhh h1)
  (iterate 2 ((try simp (etaStruct := .none) only [push_cast, DrawG, Int.cast_ofNat_Int, seval, lnkA, evtA]); (try (refine xsu ?_; try exact xtI))))
  refine caP (linked_s l x R) ?_
  (iterate 2 ((try simp (etaStruct := .none) only [push_cast, DrawG, Int.cast_ofNat_Int, seval, lnkA, evtA]); (try (refine xsu ?_; try exact xtI))))
  refine caP (lnew_s n) ?_
  (iterate 2 ((try simp (etaStruct := .none) only [push_cast, DrawG, Int.cast_ofNat_Int, seval, lnkA, evtA]); (try (refine xsu ?_; try exact xtI))))
  refine caP (between_s n 1 16) ?_
  (iterate 2 ((try simp (etaStruct := .none) only [push_cast, DrawG, Int.cast_ofNat_Int, seval, lnkA, evtA]); (try (refine xsu ?_; try exact xtI))))
  refine cond_i (fun h2 => ?_) (fun h2 => ?_)
  ·(try replace h2 := xhh h2)
   have hn : 1 ≤ n ∧ n ≤ 16 := within_iff.1 h2
   (iterate 2 ((try simp (etaStruct := .none) only [push_cast, DrawG, Int.cast_ofNat_Int, seval, lnkA, evtA, newLE_t hn, newL_t hn]); (try (refine xsu ?_; try exact xtI))))
   refine gcP (fun hcc => same_zeroL n) ?_
   (iterate 2 ((try simp (etaStruct := .none) only [push_cast, DrawG, Int.cast_ofNat_Int, seval, lnkA, evtA, newLE_t hn, newL_t hn]); (try (refine xsu ?_; try exact xtI))))
   refine cond_i (fun h3 => ?_) (fun h3 => ?_)
   ·(try replace h3 := xhh h3)
    simp at h3
   ·(try replace h3 := xhh h3)
    (iterate 2 ((try simp (etaStruct := .none) only [push_cast, DrawG, Int.cast_ofNat_Int, seval, lnkA, evtA, newLE_t hn, newL_t hn]); (try (refine xsu ?_; try exact xtI))))
    refine caP (hC) ?_
    (iterate 2 ((try simp (etaStruct := .none) only [push_cast, DrawG, Int.cast_ofNat_Int, seval, lnkA, evtA, newLE_t hn, newL_t hn]); (try (refine xsu ?_; try exact xtI))))
    refine caP (hL) ?_
    (iterate 2 ((try simp (etaStruct := .none) only [push_cast, DrawG, Int.cast_ofNat_Int, seval, lnkA, evtA, newLE_t hn, newL_t hn]); (try (refine xsu ?_; try exact xtI))))
    refine gcP (fun hcc => same_lnk (lnkD l x).1 hd) ?_
    (iterate 2 ((try simp (etaStruct := .none) only [push_cast, DrawG, Int.cast_ofNat_Int, seval, lnkA, evtA, newLE_t hn, newL_t hn]); (try (refine xsu ?_; try exact xtI))))
    (try (refine ⟨by kernel_rfl, ?_⟩))
    (iterate 2 ((try simp (etaStruct := .none) only [push_cast, DrawG, Int.cast_ofNat_Int, seval, lnkA, evtA, newLE_t hn, newL_t hn]); (try (refine xsu ?_; try exact xtI))))
    exact xrz rfl
  ·(try replace h2 := xhh h2)
   have hn : ¬ (1 ≤ n ∧ n ≤ 16) := within_f.1 h2
   (iterate 2 ((try simp (etaStruct := .none) only [push_cast, DrawG, Int.cast_ofNat_Int, seval, lnkA, evtA, newLE_f hn, newL_f hn]); (try (refine xsu ?_; try exact xtI))))
   refine gcP (fun hcc => same_zeroL 0) ?_
   (iterate 2 ((try simp (etaStruct := .none) only [push_cast, DrawG, Int.cast_ofNat_Int, seval, lnkA, evtA, newLE_f hn, newL_f hn]); (try (refine xsu ?_; try exact xtI))))
   refine cond_i (fun h4 => ?_) (fun h4 => ?_)
   ·(try replace h4 := xhh h4)
    simp at h4
   ·(try replace h4 := xhh h4)
    (iterate 2 ((try simp (etaStruct := .none) only [push_cast, DrawG, Int.cast_ofNat_Int, seval, lnkA, evtA, newLE_f hn, newL_f hn]); (try (refine xsu ?_; try exact xtI))))
    refine caP (hC) ?_
    (iterate 2 ((try simp (etaStruct := .none) only [push_cast, DrawG, Int.cast_ofNat_Int, seval, lnkA, evtA, newLE_f hn, newL_f hn]); (try (refine xsu ?_; try exact xtI))))
    refine caP (hL) ?_
    (iterate 2 ((try simp (etaStruct := .none) only [push_cast, DrawG, Int.cast_ofNat_Int, seval, lnkA, evtA, newLE_f hn, newL_f hn]); (try (refine xsu ?_; try exact xtI))))
    refine gcP (fun hcc => same_lnk (lnkD l x).1 hd) ?_
    (iterate 2 ((try simp (etaStruct := .none) only [push_cast, DrawG, Int.cast_ofNat_Int, seval, lnkA, evtA, newLE_f hn, newL_f hn]); (try (refine xsu ?_; try exact xtI))))
    (try (refine ⟨by kernel_rfl, ?_⟩))
    (iterate 2 ((try simp (etaStruct := .none) only [push_cast, DrawG, Int.cast_ofNat_Int, seval, lnkA, evtA, newLE_f hn, newL_f hn]); (try (refine xsu ?_; try exact xtI))))
    exact xrz rfl
 ·(try replace h1 := xhh h1)
  simp at h1
theorem doesB (l : Lnk) (x : Evt) (n : Int) (hl : LnkL l) (h : lnkE l ≠ 0) : Spec Try.prog 6 [lnkA l, evtA x, I .i64 n] [] (B true) [] := by
 refine spec_am Try.func6 rfl rfl mix 69 rfl [.tmp 6] Try.results6 (Nat.le_of_ble_eq_true rfl) ?_
 (iterate 2 ((try simp (etaStruct := .none) only [push_cast, DrawG, Int.cast_ofNat_Int, seval, lnkA, evtA]); (try (refine xsu ?_; try exact xtI))))
 refine caP (Do_bad l x hl h) ?_
 (iterate 2 ((try simp (etaStruct := .none) only [push_cast, DrawG, Int.cast_ofNat_Int, seval, lnkA, evtA]); (try (refine xsu ?_; try exact xtI))))
 refine callM [] (lright_s l hl) (WkL.refl _) rfl (by decide) (by simp [lookC_c, onlyC, memN]) ?_
 (iterate 2 ((try simp (etaStruct := .none) only [push_cast, DrawG, Int.cast_ofNat_Int, seval, lnkA, evtA]); (try (refine xsu ?_; try exact xtI))))
 (try (refine ⟨by kernel_rfl, ?_⟩))
 (iterate 2 ((try simp (etaStruct := .none) only [push_cast, DrawG, Int.cast_ofNat_Int, seval, lnkA, evtA]); (try (refine xsu ?_; try exact xtI))))
 refine cond_i (fun h1 => ?_) (fun h1 => ?_)
 ·(try replace h1 := xhh h1)
  exact absurd h1 h
 ·(try replace h1 := xhh h1)
  (iterate 2 ((try simp (etaStruct := .none) only [push_cast, DrawG, Int.cast_ofNat_Int, seval, lnkA, evtA]); (try (refine xsu ?_; try exact xtI))))
  refine caP (lnew_s n) ?_
  (iterate 2 ((try simp (etaStruct := .none) only [push_cast, DrawG, Int.cast_ofNat_Int, seval, lnkA, evtA]); (try (refine xsu ?_; try exact xtI))))
  refine caP (between_s n 1 16) ?_
  (iterate 2 ((try simp (etaStruct := .none) only [push_cast, DrawG, Int.cast_ofNat_Int, seval, lnkA, evtA]); (try (refine xsu ?_; try exact xtI))))
  refine cond_i (fun h2 => ?_) (fun h2 => ?_)
  ·(try replace h2 := xhh h2)
   have hn : 1 ≤ n ∧ n ≤ 16 := within_iff.1 h2
   (iterate 2 ((try simp (etaStruct := .none) only [push_cast, DrawG, Int.cast_ofNat_Int, seval, lnkA, evtA, newLE_t hn, newL_t hn]); (try (refine xsu ?_; try exact xtI))))
   refine gcP (fun hcc => same_zeroL n) ?_
   (iterate 2 ((try simp (etaStruct := .none) only [push_cast, DrawG, Int.cast_ofNat_Int, seval, lnkA, evtA, newLE_t hn, newL_t hn]); (try (refine xsu ?_; try exact xtI))))
   refine cond_i (fun h3 => ?_) (fun h3 => ?_)
   ·(try replace h3 := xhh h3)
    simp at h3
   ·(try replace h3 := xhh h3)
    (iterate 2 ((try simp (etaStruct := .none) only [push_cast, DrawG, Int.cast_ofNat_Int, seval, lnkA, evtA, newLE_t hn, newL_t hn]); (try (refine xsu ?_; try exact xtI))))
    refine caP (lcheck_s l hl) ?_
    (iterate 2 ((try simp (etaStruct := .none) only [push_cast, DrawG, Int.cast_ofNat_Int, seval, lnkA, evtA, newLE_t hn, newL_t hn]); (try (refine xsu ?_; try exact xtI))))
    refine caP (lright_s l hl) ?_
    (iterate 2 ((try simp (etaStruct := .none) only [push_cast, DrawG, Int.cast_ofNat_Int, seval, lnkA, evtA, newLE_t hn, newL_t hn]); (try (refine xsu ?_; try exact xtI))))
    refine gcP (fun hcc => same_lnk l hl) ?_
    (iterate 2 ((try simp (etaStruct := .none) only [push_cast, DrawG, Int.cast_ofNat_Int, seval, lnkA, evtA, newLE_t hn, newL_t hn]); (try (refine xsu ?_; try exact xtI))))
    (try (refine ⟨by kernel_rfl, ?_⟩))
    (iterate 2 ((try simp (etaStruct := .none) only [push_cast, DrawG, Int.cast_ofNat_Int, seval, lnkA, evtA, newLE_t hn, newL_t hn]); (try (refine xsu ?_; try exact xtI))))
    exact xrz rfl
  ·(try replace h2 := xhh h2)
   have hn : ¬ (1 ≤ n ∧ n ≤ 16) := within_f.1 h2
   (iterate 2 ((try simp (etaStruct := .none) only [push_cast, DrawG, Int.cast_ofNat_Int, seval, lnkA, evtA, newLE_f hn, newL_f hn]); (try (refine xsu ?_; try exact xtI))))
   refine gcP (fun hcc => same_zeroL 0) ?_
   (iterate 2 ((try simp (etaStruct := .none) only [push_cast, DrawG, Int.cast_ofNat_Int, seval, lnkA, evtA, newLE_f hn, newL_f hn]); (try (refine xsu ?_; try exact xtI))))
   refine cond_i (fun h4 => ?_) (fun h4 => ?_)
   ·(try replace h4 := xhh h4)
    simp at h4
   ·(try replace h4 := xhh h4)
    (iterate 2 ((try simp (etaStruct := .none) only [push_cast, DrawG, Int.cast_ofNat_Int, seval, lnkA, evtA, newLE_f hn, newL_f hn]); (try (refine xsu ?_; try exact xtI))))
    refine caP (lcheck_s l hl) ?_
    (iterate 2 ((try simp (etaStruct := .none) only [push_cast, DrawG, Int.cast_ofNat_Int, seval, lnkA, evtA, newLE_f hn, newL_f hn]); (try (refine xsu ?_; try exact xtI))))
    refine caP (lright_s l hl) ?_
    (iterate 2 ((try simp (etaStruct := .none) only [push_cast, DrawG, Int.cast_ofNat_Int, seval, lnkA, evtA, newLE_f hn, newL_f hn]); (try (refine xsu ?_; try exact xtI))))
    refine gcP (fun hcc => same_lnk l hl) ?_
    (iterate 2 ((try simp (etaStruct := .none) only [push_cast, DrawG, Int.cast_ofNat_Int, seval, lnkA, evtA, newLE_f hn, newL_f hn]); (try (refine xsu ?_; try exact xtI))))
    (try (refine ⟨by kernel_rfl, ?_⟩))
    (iterate 2 ((try simp (etaStruct := .none) only [push_cast, DrawG, Int.cast_ofNat_Int, seval, lnkA, evtA, newLE_f hn, newL_f hn]); (try (refine xsu ?_; try exact xtI))))
    exact xrz rfl
theorem doesLaw (l : Lnk) (x : Evt) (n : Int) (hl : LnkL l) : Spec Try.prog 6 [lnkA l, evtA x, I .i64 n] [] (B true) [] := by
 by_cases h : lnkE l = 0
 ·exact doesA l x n ((lnkR_iff l).1 h)
 ·exact doesB l x n hl h
end Go.Proofs.Ytdkmndimmpilaaa
namespace Go.Proofs.Ytdkmndimmpilaaa
set_option linter.all false
open Go.RowKit Go.ChangeShapes Go.WideShapes Go.ChangeAt
def RelCs (w : World) (ps : List PV) (cs : List Value) : Prop := ∀ (j : Nat) p u, ps[j]? = some p → cs[j]? = some u → RelP w (· < w.heap.size) p u
theorem RelCs.nil {w : World} : RelCs w [] [] := fun j p u h => by simp at h
theorem RelCs.cons {w : World} {p : PV} {u : Value} {ps : List PV} {cs : List Value} (h : RelP w (· < w.heap.size) p u) (h' : RelCs w ps cs) : RelCs w (p :: ps) (u :: cs) := by
 intro j q v h1 h2
 cases j with
 | zero => simp at h1 h2; subst h1 h2; exact h
 | succ j => exact h' j q v (by simpa using h1) (by simpa using h2)
theorem RelCs.append {w : World} : ∀ {ps qs : List PV} {cs ds : List Value}, ps.length = cs.length → RelCs w ps cs → RelCs w qs ds → RelCs w (ps ++ qs) (cs ++ ds)
 | [], _, [], _, _, _, h => h
 | [], _, _ :: _, _, hl, _, _ => by simp at hl
 | _ :: _, _, [], _, hl, _, _ => by simp at hl
 | p :: ps, qs, c :: cs, ds, hl, h, h' => by
  refine RelCs.cons (h 0 p c rfl rfl) (RelCs.append (by simpa using hl) (fun j q v h1 h2 => h (j + 1) q v (by simpa using h1) (by simpa using h2)) h')
def OpA (P : Program) (T sz : Nat) (w : World) {α : Type} (pv : α → List PV) (ok : α → Prop) : Prop :=
 ∃ (β : Type) (enc : β → List Value) (okb : β → Prop) (f : β → α), Opens P T sz w enc okb ∧ ∀ y, okb y → ok (f y) ∧ (pv (f y)).length = sz ∧ (enc y).length = sz ∧ RelCs w (pv (f y)) (enc y)
section
variable {P : Program} {T : Nat} {w : World}
theorem OpA.i64 (h : P.underlying T = some (.int .i64)) : OpA P T 1 w i64P In64 :=
 ⟨_, _, _, id, Opens.i64 h, fun y hy => ⟨hy, rfl, rfl, .cons (relP_v rfl) .nil⟩⟩
theorem OpA.u64 (h : P.underlying T = some (.int .u64)) : OpA P T 1 w u64P (fun n => n < 18446744073709551616) :=
 ⟨_, _, _, id, Opens.u64 h, fun y hy => ⟨hy, rfl, rfl, .cons (relP_v rfl) .nil⟩⟩
def u32P (n : Nat) : List PV := [.v (.int .u32 n)]
theorem OpA.u32 (h : P.underlying T = some (.int .u32)) : OpA P T 1 w u32P (fun n => n < 4294967296) :=
 ⟨_, _, _, id, Opens.u32 h, fun y hy => ⟨hy, rfl, rfl, .cons (relP_v rfl) .nil⟩⟩
theorem OpA.bool (h : P.underlying T = some .bool) : OpA P T 1 w boolP (fun _ => True) :=
 ⟨_, _, _, id, Opens.bool h, fun y hy => ⟨hy, rfl, rfl, .cons (relP_v rfl) .nil⟩⟩
theorem OpA.str (h : P.underlying T = some .string) : OpA P T 1 w strP (fun s => s.size ≤ 140737488351232) :=
 ⟨_, _, _, id, Opens.str h, fun y hy => ⟨hy, rfl, rfl, .cons (relP_v rfl) .nil⟩⟩
theorem OpA.map {sz : Nat} {α β : Type} {pv : α → List PV} {ok : α → Prop} {pv' : β → List PV} {ok' : β → Prop} (h : OpA P T sz w pv ok) (f : α → β) (hf : ∀ x, pv' (f x) = pv x) (hok : ∀ x, ok x → ok' (f x)) : OpA P T sz w pv' ok' := by
 obtain ⟨γ, enc, okb, g, h1, h2⟩ := h
 exact ⟨γ, enc, okb, fun y => f (g y), h1, fun y hy => by obtain ⟨a, b, c, d⟩ := h2 y hy; exact ⟨hok _ a, by rw [hf]; exact b, c, by rw [hf]; exact d⟩⟩
theorem OpA.slice {E sz bts : Nat} {α : Type} {pv : α → List PV} {ok : α → Prop} (hT : P.underlying T = some (.slice E)) (hc : P.cellsOf E = sz) (hsz : 0 < sz) (hby : P.bytesOf E = bts) (hE : OpA P E sz w pv ok) :
 OpA P T 1 w (fun xs : List α => [.sl sz (xs.map pv)]) (fun xs => (∀ x ∈ xs, ok x) ∧ xs.length * bts ≤ 140737488351232 ∧ xs.length ≤ 9223372036854775807) := by
 obtain ⟨γ, enc, okb, g, h1, h2⟩ := hE
 refine ⟨_, _, _, fun s => s.xs.map g, Opens.slice hT hc hsz hby h1, fun s hs => ⟨⟨?_, ?_, ?_⟩, rfl, rfl, ?_⟩⟩
 ·intro x hx
  obtain ⟨y, hy, rfl⟩ := List.mem_map.1 hx
  exact (h2 y (hs.each y hy).1).1
 ·have := hs.reach
  have h3 : s.xs.length * bts ≤ s.c * bts := Nat.mul_le_mul_right _ hs.cap
  simp only [List.length_map]; omega
 ·have h3 := hs.cap; have h4 := hs.max; unfold maxLen at h4; simp only [List.length_map]; omega
 ·refine .cons ?_ .nil
  have := rel_sl (pv := fun y => pv (g y)) hs fun y hy ho => by
   obtain ⟨_, a, b, d⟩ := h2 y ho
   exact ⟨a, d⟩
  simpa [List.map_map, Function.comp_def] using this
def OpAF (P : Program) (w : World) (fs : List Field) (o sz : Nat) {α : Type} (pv : α → List PV) (ok : α → Prop) : Prop :=
 ∃ (β : Type) (enc : β → List Value) (okb : β → Prop) (f : β → α), OpensF P w fs o sz enc okb ∧ ∀ y, okb y → ok (f y) ∧ (pv (f y)).length = sz ∧ (enc y).length = sz ∧ RelCs w (pv (f y)) (enc y)
theorem OpAF.nil {o : Nat} : OpAF P w [] o 0 (fun _ : Unit => []) (fun _ => True) :=
 ⟨_, _, _, id, OpensF.nil, fun y hy => ⟨trivial, rfl, rfl, .nil⟩⟩
theorem OpAF.cons {f : Field} {fs : List Field} {o n sz : Nat} {α β : Type} {pv : α → List PV} {ok : α → Prop} {pv' : β → List PV} {ok' : β → Prop}
 (ho : f.offset = o) (hn : P.cellsOf f.type = n) (h : OpA P f.type n w pv ok) (h' : OpAF P w fs (o + n) sz pv' ok') :
 OpAF P w (f :: fs) o (n + sz) (fun x : α × β => pv x.1 ++ pv' x.2) (fun x => ok x.1 ∧ ok' x.2) := by
 obtain ⟨γ, enc, okb, g, h1, h2⟩ := h
 obtain ⟨γ', enc', okb', g', h1', h2'⟩ := h'
 refine ⟨_, _, _, fun y => (g y.1, g' y.2), OpensF.cons ho hn h1 h1', fun y hy => ?_⟩
 obtain ⟨a, b, c, d⟩ := h2 y.1 hy.1
 obtain ⟨a', b', c', d'⟩ := h2' y.2 hy.2
 exact ⟨⟨a, a'⟩, by simp [b, b'], by simp [c, c'], .append (by rw [b, c]) d d'⟩
theorem OpA.struct {sz : Nat} {fs : Array Field} {α : Type} {pv : α → List PV} {ok : α → Prop} (hT : P.underlying T = some (.struct fs)) (hc : P.cellsOf T = sz) (h : OpAF P w fs.toList 0 sz pv ok) : OpA P T sz w pv ok := by
 obtain ⟨γ, enc, okb, g, h1, h2⟩ := h
 exact ⟨γ, enc, okb, g, Opens.struct hT hc h1, h2⟩
theorem OpA.arg {sz : Nat} {α : Type} {pv : α → List PV} {ok : α → Prop} (h : OpA P T sz w pv ok) {H : Type} {eH : TypeId × Value → H} {v : Value} {d : DataW H} {p : List MemPlace}
 (hT : DataW.Trod eH P w 0 (fun _ => true) true T v d p) {ts : List TypeId} {ds : List (DataW H)} (hz : (DataW.weightsEach P ts ds).all (· ≤ reachBytes) = true) (j : Nat) (h1 : ts[j]? = some T) (h2 : ds[j]? = some d) : ∃ x : α, ok x ∧ (pv x).length = v.cells.toList.length ∧ RelCs w (pv x) v.cells.toList := by
 obtain ⟨γ, enc, okb, g, k1, k2⟩ := h
 obtain ⟨y, hy, ho⟩ := Opens.arg k1 hT hz j h1 h2
 obtain ⟨a, b, c, e⟩ := k2 y ho
 exact ⟨g y, a, by rw [hy, b, c], by rw [hy]; exact e⟩
theorem rel_one {p : PV} {v : Value} (hv : v.cells = #[v]) (hr : RelCs w [p] v.cells.toList) : RelA (· < 0) w (· < w.heap.size) (fun _ => none) (.c p) v :=
 relA_c (hr 0 p v rfl (by rw [hv]; rfl))
theorem relL_of_cs {U : Nat → Prop} {β : Nat → Option Bind} : ∀ {ps : List PV} {cs : List Value}, ps.length = cs.length → RelCs w ps cs → RelL U w (· < w.heap.size) β (ps.map .c) cs
 | [], [], _, _ => relL_nil
 | [], _ :: _, h, _ => by simp at h
 | _ :: _, [], h, _ => by simp at h
 | p :: ps, c :: cs, h, hr => by
  rw [List.map_cons]
  exact relL_cons (relA_c (hr 0 p c rfl rfl)) (relL_of_cs (by simpa using h) fun j q v h1 h2 => hr (j + 1) q v (by simpa using h1) (by simpa using h2))
theorem rel_agg {ps : List PV} {v : Value} {cs : List Value} (hv : v = .agg cs.toArray) (hl : ps.length = v.cells.toList.length) (hr : RelCs w ps v.cells.toList) : RelA (· < 0) w (· < w.heap.size) (fun _ => none) (.agg (ps.map .c)) v := by
 subst hv
 have e : (Value.agg cs.toArray).cells.toList = cs := rfl
 rw [e] at hl hr
 refine relA_agg (relL_of_cs hl hr) fun x hx => ?_
 obtain ⟨j, hj, rfl⟩ := List.getElem_of_mem hx
 exact (hr j ps[j] cs[j] (by simp) (by simp)).one
theorem one_int {base : Nat} {k : IntKind} {v : Value} (ht : P.underlying T = some (.int k)) (h : Value.okWide P w .any base T v) : v.cells = #[v] := by obtain ⟨n, rfl⟩ := okWide_int ht h; rfl
end
end Go.Proofs.Ytdkmndimmpilaaa
