/- Lemmas for the proof of seatSays.proved. -/
import Derived.Test.YtdkmndimmpilaaaSeatM3
namespace Go.Proofs.Ytdkmndimmpilaaa
set_option linter.all false
open Go.RowKit
set_option maxRecDepth 100000
set_option maxHeartbeats 1000000
theorem snew_s (n : Int) (h : 1 ≤ n ∧ n ≤ 8) : Spec Try.prog 10 [I .i64 n] [] (.tup [.c (.sl 3 ((List.replicate n.toNat (⟨[], 0, false⟩ : Sea)).map seaP)), I .i64 0]) [] := by
 refine spec_am Try.func10 rfl rfl mix 12 rfl [.tmp 2, .tmp 3] Try.results10 (Nat.le_of_ble_eq_true rfl) ?_
 (try (refine xst ?_; try exact xtI))
 refine cond_i (fun h1 => ?_) (fun h1 => ?_)
 ·(try replace h1 := xhh h1)
  omega
 ·(try replace h1 := xhh h1)
  (try (refine xst ?_; try exact xtI))
  refine ret0 rfl (by repeat' (first | exact trivial | exact rfl | omega | refine ⟨?_, ?_⟩)) (Wk.tup ⟨?_, ?_, trivial⟩)
  ·refine Wk.rows ?_
   simp only [List.map_replicate]
   exact RowsLe.rep sea_zero _
  ·exact Wk.refl _
theorem snew_bad (n : Int) (h : ¬ (1 ≤ n ∧ n ≤ 8)) : Spec Try.prog 10 [I .i64 n] [] (.tup [.c (.sl 3 (([] : List Sea).map seaP)), I .i64 1]) [] := by
 refine spec_am Try.func10 rfl rfl mix 12 rfl [.tmp 2, .tmp 3] Try.results10 (Nat.le_of_ble_eq_true rfl) ?_
 (try (refine xst ?_; try exact xtI))
 refine cond_i (fun h1 => ?_) (fun h1 => ?_)
 ·(try replace h1 := xhh h1)
  (try (refine xst ?_; try exact xtI))
  exact xrz rfl
 ·(try replace h1 := xhh h1)
  omega
theorem sown_n (l : List Sea) (hl : l.length ≤ 100000) (hs : ∀ s ∈ l, seaL s) (i : Nat) (hi : i < l.length) : Spec Try.prog 33 [.c (.sl 3 (l.map seaP))] [] (.own 0) [.nst 38 3 0 27 6 (l.map seaU) (l.map waP) (some (i, 1)), .row 27 6 ((l.getD i default).waits.map ordP)] := by
 refine spec_am Try.func33 rfl rfl mix 25 rfl [.tmp 2] Try.results33 (Nat.le_of_ble_eq_true rfl) ?_
 (iterate 2 ((try simp (etaStruct := .none) only [push_cast, DrawG, Int.cast_ofNat_Int, seval, List.length_take, List.length_map]); (try (refine xsu ?_; try exact xtI))))
 refine loopI (fun k : Nat => ⟨[(11, I .i64 k), (10, I .i64 l.length), (9, .c (.sl 3 (l.map seaP))), (3, .own 0)], [(0, .nst 38 3 0 27 6 ((l.take k).map seaU) ((l.take k).map waP) none)], 1⟩) (fun k : Nat => k ≤ l.length) (fun k : Nat => l.length - k) (0) (Nat.zero_le _) ((To.nst 0 38 3 0 27 6 [] rfl (by decide) (by simp)).trans (To.mk [0] rfl rfl (by decide) ?_ ?_)) ?_
 ·simp (etaStruct := .none) only [push_cast, DrawG, Int.cast_ofNat_Int, seval]
 ·simp (etaStruct := .none) only [push_cast, DrawG, Int.cast_ofNat_Int, seval]
 rintro k hk
 (iterate 2 ((try simp (etaStruct := .none) only [push_cast, DrawG, Int.cast_ofNat_Int, seval, List.length_take, List.length_map]); (try (refine xsu ?_; try exact xtI))))
 refine cond_i (fun h1 => ?_) (fun h1 => ?_)
 ·(try replace h1 := xhh h1)
  have hlt : k < l.length := by omega
  (iterate 2 ((try simp (etaStruct := .none) only [push_cast, DrawG, Int.cast_ofNat_Int, seval, List.length_take, List.length_map, getD_in _ _ _ hlt, seaP]); (try (refine xsu ?_; try exact xtI))))
  have ts := take_snoc l k hlt
  refine caM [] ((ord_clone (l.getD k default).waits (hs _ (by rw [getD_at _ _ hlt]; exact List.getElem_mem hlt))).keep) ?_
  (iterate 2 ((try simp (etaStruct := .none) only [push_cast, DrawG, Int.cast_ofNat_Int, seval, List.length_take, List.length_map, getD_in _ _ _ hlt, seaP]); (try (refine xsu ?_; try exact xtI))))
  refine ⟨k + 1, by omega, by omega, To.mk [4] rfl rfl (by decide) ?_ ?_⟩
  ·(iterate 2 ((try simp (etaStruct := .none) only [push_cast, DrawG, Int.cast_ofNat_Int, seval, ts, List.map_append, seaU, waP]); (try (refine xsu ?_; try exact xtI))))
  ·(iterate 2 ((try simp (etaStruct := .none) only [push_cast, DrawG, Int.cast_ofNat_Int, seval, List.length_take, List.length_map, getD_in _ _ _ hlt, seaP]); (try (refine xsu ?_; try exact xtI))))
 ·(try replace h1 := xhh h1)
  obtain rfl : k = l.length := by omega
  (iterate 2 ((try simp (etaStruct := .none) only [push_cast, DrawG, Int.cast_ofNat_Int, seval, List.length_take, List.length_map]); (try (refine xsu ?_; try exact xtI))))
  refine retTo (To.open 0 i 38 3 0 27 6 _ _ rfl (by simpa using hi)) (retM [0, 1] rfl rfl (by decide) ⟨?_, ?_, trivial⟩ trivial ?_)
  ·simp (etaStruct := .none) only [push_cast, DrawG, Int.cast_ofNat_Int, seval, List.take_length]
  ·simp (etaStruct := .none) only [push_cast, DrawG, Int.cast_ofNat_Int, seval, List.take_length, waP_at l i hi]
  ·simp (etaStruct := .none) only [push_cast, DrawG, Int.cast_ofNat_Int, seval]
theorem ssay_ok (l : List Sea) (o : Ord) (hl : l.length ≤ 9223372036854775807) (hs : ∀ s ∈ l, seaL s) (h : sayE l o = 0) : Spec Try.prog 8 [.c (.sl 3 (l.map seaP)), ordA o] [] (.tup [.c (.sl 3 ((sayV l o).map seaP)), I .i64 0]) [] := by
 have SC := scheck_s l hl hs
 have OC := ocheck_s o
 unfold sayE at h
 split at h
 ·rename_i h'; exact absurd h h'
 rename_i hE
 have hE : seasE l = 0 := by simpa using hE
 split at h
 ·rename_i h'; exact absurd h h'
 rename_i hO
 have hO : ordE o = 0 := by simpa using hO
 split at h
 ·simp at h
 rename_i hby
 split at h
 ·simp at h
 rename_i hg
 split at h
 ·simp at h
 rename_i hw
 have hb0 := (ordE_ok hO).1.1
 have hlt : o.by_.toNat < l.length := by omega
 have hl8 := (seasE_ok hE).2.1
 have hwl : (l.getD o.by_.toNat default).waits.length ≤ 50 := (seasE_ok hE).2.2.1 _ (by rw [getD_at _ _ hlt]; exact List.getElem_mem hlt)
 rw [hE] at SC
 rw [hO] at OC
 refine spec_am Try.func8 rfl rfl mix 58 rfl [.tmp 4, .tmp 5] Try.results8 (Nat.le_of_ble_eq_true rfl) ?_
 (try (refine xst ?_; try exact xtI))
 refine caP (SC) ?_
 (try (refine xst ?_; try exact xtI))
 refine cond_i (fun h1 => ?_) (fun h1 => ?_)
 ·(try replace h1 := xhh h1)
  (try (refine xst ?_; try exact xtI))
  refine caP (OC) ?_
  (try (refine xst ?_; try exact xtI))
  refine cond_i (fun h2 => ?_) (fun h2 => ?_)
  ·(try replace h2 := xhh h2)
   simp at h2
  ·(try replace h2 := xhh h2)
   (try (refine xst ?_; try exact xtI))
   refine cond_i (fun h3 => ?_) (fun h3 => ?_)
   ·(try replace h3 := xhh h3)
    omega
   ·(try replace h3 := xhh h3)
    (iterate 2 ((try simp (etaStruct := .none) only [push_cast, DrawG, Int.cast_ofNat_Int, seval, getD_in _ _ _ hlt, seaP]); (try (refine xsu ?_; try exact xtI))))
    refine cond_i (fun h4 => ?_) (fun h4 => ?_)
    ·(try replace h4 := xhh h4)
     exact absurd h4 hg
    ·(try replace h4 := xhh h4)
     (iterate 2 ((try simp (etaStruct := .none) only [push_cast, DrawG, Int.cast_ofNat_Int, seval, getD_in _ _ _ hlt, seaP]); (try (refine xsu ?_; try exact xtI))))
     refine cond_i (fun h5 => ?_) (fun h5 => ?_)
     ·(try replace h5 := xhh h5)
      omega
     ·(try replace h5 := xhh h5)
      (iterate 2 ((try simp (etaStruct := .none) only [push_cast, DrawG, Int.cast_ofNat_Int, seval, getD_in _ _ _ hlt, seaP]); (try (refine xsu ?_; try exact xtI))))
      refine cond_i (fun h6 => ?_) (fun h6 => ?_)
      ·(try replace h6 := xhh h6)
       simp at h6
      ·(try replace h6 := xhh h6)
       (iterate 2 ((try simp (etaStruct := .none) only [push_cast, DrawG, Int.cast_ofNat_Int, seval, getD_in _ _ _ hlt, seaP]); (try (refine xsu ?_; try exact xtI))))
       refine caM [] (sown_n l (by omega) hs o.by_.toNat hlt) ?_
       (iterate 2 ((try simp (etaStruct := .none) only [push_cast, DrawG, Int.cast_ofNat_Int, seval, getD_in _ _ _ hlt, seaP]); (try (refine xsu ?_; try exact xtI))))
       (try (refine ⟨by kernel_rfl, ?_⟩))
       (iterate 2 ((try simp (etaStruct := .none) only [push_cast, DrawG, Int.cast_ofNat_Int, seval, getD_in _ _ _ hlt, seaP]); (try (refine xsu ?_; try exact xtI))))
       refine retTo (To.close 1 _ _ _ _ _ _ _ _ _ _ rfl rfl) (retTo (To.frzN 1 _ _ _ _ _ _ _ rfl) (ret0 rfl (by repeat' (first | exact trivial | exact rfl | omega | refine ⟨?_, ?_⟩)) (Wk.tup ⟨Wk.of ?_, Wk.refl _, trivial⟩)))
       have ha : ∀ x, x = ordP o → (l.getD o.by_.toNat default).waits.map ordP ++ [x] = ((l.getD o.by_.toNat default).waits ++ [o]).map ordP := by rintro _ rfl; simp
       show AV.c (.sl 3 _) = _
       rw [ha]
       ·rw [unN_sea l _ _ hlt]; rfl
       ·rfl
 ·(try replace h1 := xhh h1)
  simp at h1
theorem sayE_cases (l : List Sea) (o : Ord) : sayE l o = 0 ∨ (seasE l ≠ 0 ∧ sayE l o = seasE l) ∨ (seasE l = 0 ∧ ordE o ≠ 0 ∧ sayE l o = ordE o) ∨ (seasE l = 0 ∧ ordE o = 0 ∧ (l.length : Int) ≤ o.by_ ∧ sayE l o = 7) ∨
 (seasE l = 0 ∧ ordE o = 0 ∧ ¬ (l.length : Int) ≤ o.by_ ∧ (l.getD o.by_.toNat default).gone = true ∧ sayE l o = 9) ∨
 (seasE l = 0 ∧ ordE o = 0 ∧ ¬ (l.length : Int) ≤ o.by_ ∧ (l.getD o.by_.toNat default).gone = false ∧ (l.getD o.by_.toNat default).waits.length = 50 ∧ sayE l o = 6) := by
 unfold sayE
 split
 ·rename_i h; exact .inr (.inl ⟨h, rfl⟩)
 rename_i h1
 split
 ·rename_i h; exact .inr (.inr (.inl ⟨by simpa using h1, h, rfl⟩))
 rename_i h2
 split
 ·rename_i h; exact .inr (.inr (.inr (.inl ⟨by simpa using h1, by simpa using h2, h, rfl⟩)))
 rename_i h3
 split
 ·rename_i h; exact .inr (.inr (.inr (.inr (.inl ⟨by simpa using h1, by simpa using h2, h3, h, rfl⟩))))
 rename_i h4
 split
 ·rename_i h; exact .inr (.inr (.inr (.inr (.inr ⟨by simpa using h1, by simpa using h2, h3, by simpa using h4, h, rfl⟩))))
 ·exact .inl rfl
theorem ssay_b1 (l : List Sea) (o : Ord) (hl : l.length ≤ 9223372036854775807) (hs : ∀ s ∈ l, seaL s) (h : seasE l ≠ 0) : Spec Try.prog 8 [.c (.sl 3 (l.map seaP)), ordA o] [] (.tup [.c (.sl 3 (([] : List Sea).map seaP)), I .i64 (seasE l)]) [] := by
 have SC := scheck_s l hl hs
 refine spec_am Try.func8 rfl rfl mix 58 rfl [.tmp 4, .tmp 5] Try.results8 (Nat.le_of_ble_eq_true rfl) ?_
 (try (refine xst ?_; try exact xtI))
 refine caP (SC) ?_
 (try (refine xst ?_; try exact xtI))
 refine cond_i (fun h1 => ?_) (fun h1 => ?_)
 ·(try replace h1 := xhh h1)
  exact absurd h1 h
 ·(try replace h1 := xhh h1)
  (try (refine xst ?_; try exact xtI))
  refine cond_i (fun h2 => ?_) (fun h2 => ?_)
  ·(try replace h2 := xhh h2)
   (try (refine xst ?_; try exact xtI))
   refine cond_i (fun h3 => ?_) (fun h3 => ?_)
   ·(try replace h3 := xhh h3)
    (try (refine xst ?_; try exact xtI))
    exact xrz rfl
   ·(try replace h3 := xhh h3)
    exact absurd h3 h
  ·(try replace h2 := xhh h2)
   exact absurd h2 h
theorem ssay_b2 (l : List Sea) (o : Ord) (hl : l.length ≤ 9223372036854775807) (hs : ∀ s ∈ l, seaL s) (hE : seasE l = 0) (h : ordE o ≠ 0) : Spec Try.prog 8 [.c (.sl 3 (l.map seaP)), ordA o] [] (.tup [.c (.sl 3 (([] : List Sea).map seaP)), I .i64 (ordE o)]) [] := by
 have SC := scheck_s l hl hs
 have OC := ocheck_s o
 rw [hE] at SC
 refine spec_am Try.func8 rfl rfl mix 58 rfl [.tmp 4, .tmp 5] Try.results8 (Nat.le_of_ble_eq_true rfl) ?_
 (try (refine xst ?_; try exact xtI))
 refine caP (SC) ?_
 (try (refine xst ?_; try exact xtI))
 refine cond_i (fun h1 => ?_) (fun h1 => ?_)
 ·(try replace h1 := xhh h1)
  (try (refine xst ?_; try exact xtI))
  refine caP (OC) ?_
  (try (refine xst ?_; try exact xtI))
  refine cond_i (fun h2 => ?_) (fun h2 => ?_)
  ·(try replace h2 := xhh h2)
   (try (refine xst ?_; try exact xtI))
   refine cond_i (fun h3 => ?_) (fun h3 => ?_)
   ·(try replace h3 := xhh h3)
    (try (refine xst ?_; try exact xtI))
    exact xrz rfl
   ·(try replace h3 := xhh h3)
    exact absurd h3 h
  ·(try replace h2 := xhh h2)
   exact absurd h2 h
 ·(try replace h1 := xhh h1)
  simp at h1
theorem ssay_b3 (l : List Sea) (o : Ord) (hl : l.length ≤ 9223372036854775807) (hs : ∀ s ∈ l, seaL s) (hE : seasE l = 0) (hO : ordE o = 0) (h : (l.length : Int) ≤ o.by_) : Spec Try.prog 8 [.c (.sl 3 (l.map seaP)), ordA o] [] (.tup [.c (.sl 3 (([] : List Sea).map seaP)), I .i64 7]) [] := by
 have SC := scheck_s l hl hs
 have OC := ocheck_s o
 rw [hE] at SC
 rw [hO] at OC
 refine spec_am Try.func8 rfl rfl mix 58 rfl [.tmp 4, .tmp 5] Try.results8 (Nat.le_of_ble_eq_true rfl) ?_
 (try (refine xst ?_; try exact xtI))
 refine caP (SC) ?_
 (try (refine xst ?_; try exact xtI))
 refine cond_i (fun h1 => ?_) (fun h1 => ?_)
 ·(try replace h1 := xhh h1)
  (try (refine xst ?_; try exact xtI))
  refine caP (OC) ?_
  (try (refine xst ?_; try exact xtI))
  refine cond_i (fun h2 => ?_) (fun h2 => ?_)
  ·(try replace h2 := xhh h2)
   simp at h2
  ·(try replace h2 := xhh h2)
   (try (refine xst ?_; try exact xtI))
   refine cond_i (fun h3 => ?_) (fun h3 => ?_)
   ·(try replace h3 := xhh h3)
    (try (refine xst ?_; try exact xtI))
    refine cond_i (fun h4 => ?_) (fun h4 => ?_)
    ·(try replace h4 := xhh h4)
     (try (refine xst ?_; try exact xtI))
     exact xrz rfl
    ·(try replace h4 := xhh h4)
     simp at h4
   ·(try replace h3 := xhh h3)
    omega
 ·(try replace h1 := xhh h1)
  simp at h1
theorem ssay_b4 (l : List Sea) (o : Ord) (hl : l.length ≤ 9223372036854775807) (hs : ∀ s ∈ l, seaL s) (hE : seasE l = 0) (hO : ordE o = 0) (h : ¬ (l.length : Int) ≤ o.by_) (hg : (l.getD o.by_.toNat default).gone = true) : Spec Try.prog 8 [.c (.sl 3 (l.map seaP)), ordA o] [] (.tup [.c (.sl 3 (([] : List Sea).map seaP)), I .i64 9]) [] := by
 have SC := scheck_s l hl hs
 have OC := ocheck_s o
 rw [hE] at SC
 rw [hO] at OC
 have hb0 := (ordE_ok hO).1.1
 have hlt : o.by_.toNat < l.length := by omega
 refine spec_am Try.func8 rfl rfl mix 58 rfl [.tmp 4, .tmp 5] Try.results8 (Nat.le_of_ble_eq_true rfl) ?_
 (try (refine xst ?_; try exact xtI))
 refine caP (SC) ?_
 (try (refine xst ?_; try exact xtI))
 refine cond_i (fun h1 => ?_) (fun h1 => ?_)
 ·(try replace h1 := xhh h1)
  (try (refine xst ?_; try exact xtI))
  refine caP (OC) ?_
  (try (refine xst ?_; try exact xtI))
  refine cond_i (fun h2 => ?_) (fun h2 => ?_)
  ·(try replace h2 := xhh h2)
   simp at h2
  ·(try replace h2 := xhh h2)
   (try (refine xst ?_; try exact xtI))
   refine cond_i (fun h3 => ?_) (fun h3 => ?_)
   ·(try replace h3 := xhh h3)
    omega
   ·(try replace h3 := xhh h3)
    (iterate 2 ((try simp (etaStruct := .none) only [push_cast, DrawG, Int.cast_ofNat_Int, seval, getD_in _ _ _ hlt, seaP]); (try (refine xsu ?_; try exact xtI))))
    refine cond_i (fun h4 => ?_) (fun h4 => ?_)
    ·(try replace h4 := xhh h4)
     (iterate 2 ((try simp (etaStruct := .none) only [push_cast, DrawG, Int.cast_ofNat_Int, seval, getD_in _ _ _ hlt, seaP]); (try (refine xsu ?_; try exact xtI))))
     refine cond_i (fun h5 => ?_) (fun h5 => ?_)
     ·(try replace h5 := xhh h5)
      (iterate 2 ((try simp (etaStruct := .none) only [push_cast, DrawG, Int.cast_ofNat_Int, seval, getD_in _ _ _ hlt, seaP]); (try (refine xsu ?_; try exact xtI))))
      exact xrz rfl
     ·(try replace h5 := xhh h5)
      simp at h5
    ·(try replace h4 := xhh h4)
     rw [hg] at h4; simp at h4
 ·(try replace h1 := xhh h1)
  simp at h1
theorem ssay_b5 (l : List Sea) (o : Ord) (hl : l.length ≤ 9223372036854775807) (hs : ∀ s ∈ l, seaL s) (hE : seasE l = 0) (hO : ordE o = 0) (h : ¬ (l.length : Int) ≤ o.by_) (hg : (l.getD o.by_.toNat default).gone = false) (hw : (l.getD o.by_.toNat default).waits.length = 50) : Spec Try.prog 8 [.c (.sl 3 (l.map seaP)), ordA o] [] (.tup [.c (.sl 3 (([] : List Sea).map seaP)), I .i64 6]) [] := by
 have SC := scheck_s l hl hs
 have OC := ocheck_s o
 rw [hE] at SC
 rw [hO] at OC
 have hb0 := (ordE_ok hO).1.1
 have hlt : o.by_.toNat < l.length := by omega
 refine spec_am Try.func8 rfl rfl mix 58 rfl [.tmp 4, .tmp 5] Try.results8 (Nat.le_of_ble_eq_true rfl) ?_
 (try (refine xst ?_; try exact xtI))
 refine caP (SC) ?_
 (try (refine xst ?_; try exact xtI))
 refine cond_i (fun h1 => ?_) (fun h1 => ?_)
 ·(try replace h1 := xhh h1)
  (try (refine xst ?_; try exact xtI))
  refine caP (OC) ?_
  (try (refine xst ?_; try exact xtI))
  refine cond_i (fun h2 => ?_) (fun h2 => ?_)
  ·(try replace h2 := xhh h2)
   simp at h2
  ·(try replace h2 := xhh h2)
   (try (refine xst ?_; try exact xtI))
   refine cond_i (fun h3 => ?_) (fun h3 => ?_)
   ·(try replace h3 := xhh h3)
    omega
   ·(try replace h3 := xhh h3)
    (iterate 2 ((try simp (etaStruct := .none) only [push_cast, DrawG, Int.cast_ofNat_Int, seval, getD_in _ _ _ hlt, seaP]); (try (refine xsu ?_; try exact xtI))))
    refine cond_i (fun h4 => ?_) (fun h4 => ?_)
    ·(try replace h4 := xhh h4)
     rw [hg] at h4; simp at h4
    ·(try replace h4 := xhh h4)
     (iterate 2 ((try simp (etaStruct := .none) only [push_cast, DrawG, Int.cast_ofNat_Int, seval, getD_in _ _ _ hlt, seaP]); (try (refine xsu ?_; try exact xtI))))
     refine cond_i (fun h5 => ?_) (fun h5 => ?_)
     ·(try replace h5 := xhh h5)
      (iterate 2 ((try simp (etaStruct := .none) only [push_cast, DrawG, Int.cast_ofNat_Int, seval, getD_in _ _ _ hlt, seaP]); (try (refine xsu ?_; try exact xtI))))
      refine cond_i (fun h6 => ?_) (fun h6 => ?_)
      ·(try replace h6 := xhh h6)
       (iterate 2 ((try simp (etaStruct := .none) only [push_cast, DrawG, Int.cast_ofNat_Int, seval, getD_in _ _ _ hlt, seaP]); (try (refine xsu ?_; try exact xtI))))
       exact xrz rfl
      ·(try replace h6 := xhh h6)
       simp at h6
     ·(try replace h5 := xhh h5)
      omega
 ·(try replace h1 := xhh h1)
  simp at h1
theorem ssay_s (l : List Sea) (o : Ord) (hl : l.length ≤ 9223372036854775807) (hs : ∀ s ∈ l, seaL s) : Spec Try.prog 8 [.c (.sl 3 (l.map seaP)), ordA o] [] (.tup [.c (.sl 3 ((if sayE l o = 0 then sayV l o else []).map seaP)), I .i64 (sayE l o)]) [] := by
 rcases sayE_cases l o with h | ⟨h1, h⟩ | ⟨h1, h2, h⟩ | ⟨h1, h2, h3, h⟩ | ⟨h1, h2, h3, h4, h⟩ | ⟨h1, h2, h3, h4, h5, h⟩
 ·rw [if_pos h]; rw [h]; exact ssay_ok l o hl hs h
 ·rw [if_neg (by omega), h]; exact ssay_b1 l o hl hs h1
 ·rw [if_neg (by omega), h]; exact ssay_b2 l o hl hs h1 h2
 ·rw [if_neg (by omega), h]; exact ssay_b3 l o hl hs h1 h2 h3
 ·rw [if_neg (by omega), h]; exact ssay_b4 l o hl hs h1 h2 h3 h4
 ·rw [if_neg (by omega), h]; exact ssay_b5 l o hl hs h1 h2 h3 h4 h5
theorem leaveE_cases (l : List Sea) (p : Int) : leaveE l p = 0 ∧ seasE l = 0 ∧ ¬ (p < 0 ∨ (l.length : Int) ≤ p) ∧ (l.getD p.toNat default).gone = false ∨ (seasE l ≠ 0 ∧ leaveE l p = seasE l) ∨ (seasE l = 0 ∧ (p < 0 ∨ (l.length : Int) ≤ p) ∧ leaveE l p = 7) ∨
 (seasE l = 0 ∧ ¬ (p < 0 ∨ (l.length : Int) ≤ p) ∧ (l.getD p.toNat default).gone = true ∧ leaveE l p = 8) := by
 unfold leaveE
 split
 ·rename_i h; exact .inr (.inl ⟨h, rfl⟩)
 rename_i h1
 split
 ·rename_i h; exact .inr (.inr (.inl ⟨by simpa using h1, h, rfl⟩))
 rename_i h2
 split
 ·rename_i h; exact .inr (.inr (.inr ⟨by simpa using h1, h2, h, rfl⟩))
 ·rename_i h; exact .inl ⟨rfl, by simpa using h1, h2, by simpa using h⟩
theorem sleave_ok (l : List Sea) (p : Int) (hl : l.length ≤ 9223372036854775807) (hs : ∀ s ∈ l, seaL s) (hE : seasE l = 0) (hp : ¬ (p < 0 ∨ (l.length : Int) ≤ p)) (hg : (l.getD p.toNat default).gone = false) : Spec Try.prog 11 [.c (.sl 3 (l.map seaP)), I .i64 p] [] (.tup [.c (.sl 3 ((leaveV l p).map seaP)), I .i64 0]) [] := by
 have SC := scheck_s l hl hs
 rw [hE] at SC
 have hl8 := (seasE_ok hE).2.1
 have hlt : p.toNat < l.length := by omega
 refine spec_am Try.func11 rfl rfl mix 37 rfl [.tmp 4, .tmp 5] Try.results11 (Nat.le_of_ble_eq_true rfl) ?_
 (try (refine xst ?_; try exact xtI))
 refine caP (SC) ?_
 (try (refine xst ?_; try exact xtI))
 refine cond_i (fun h1 => ?_) (fun h1 => ?_)
 ·(try replace h1 := xhh h1)
  simp at h1
 ·(try replace h1 := xhh h1)
  (try (refine xst ?_; try exact xtI))
  refine cond_i (fun h2 => ?_) (fun h2 => ?_)
  ·(try replace h2 := xhh h2)
   omega
  ·(try replace h2 := xhh h2)
   (iterate 2 ((try simp (etaStruct := .none) only [push_cast, DrawG, Int.cast_ofNat_Int, seval, getD_in _ _ _ hlt, seaP]); (try (refine xsu ?_; try exact xtI))))
   refine cond_i (fun h3 => ?_) (fun h3 => ?_)
   ·(try replace h3 := xhh h3)
    rw [hg] at h3; simp at h3
   ·(try replace h3 := xhh h3)
    (iterate 2 ((try simp (etaStruct := .none) only [push_cast, DrawG, Int.cast_ofNat_Int, seval, getD_in _ _ _ hlt, seaP]); (try (refine xsu ?_; try exact xtI))))
    refine cond_i (fun h4 => ?_) (fun h4 => ?_)
    ·(try replace h4 := xhh h4)
     simp at h4
    ·(try replace h4 := xhh h4)
     (iterate 2 ((try simp (etaStruct := .none) only [push_cast, DrawG, Int.cast_ofNat_Int, seval, getD_in _ _ _ hlt, seaP]); (try (refine xsu ?_; try exact xtI))))
     refine caM [] (sown_s l (by omega) hs) ?_
     (iterate 2 ((try simp (etaStruct := .none) only [push_cast, DrawG, Int.cast_ofNat_Int, seval, getD_in _ _ _ hlt, seaP]); (try (refine xsu ?_; try exact xtI))))
     refine ret0 rfl (by repeat' (first | exact trivial | exact rfl | omega | refine ⟨?_, ?_⟩)) (Wk.tup ⟨?_, Wk.refl _, trivial⟩)
     show Wk (AV.c (.sl 3 _)) _
     rw [leaveV_map]
     exact Wk.rows (RowsLe.set sea_gone _ _)
theorem sleave_b1 (l : List Sea) (p : Int) (hl : l.length ≤ 9223372036854775807) (hs : ∀ s ∈ l, seaL s) (h : seasE l ≠ 0) : Spec Try.prog 11 [.c (.sl 3 (l.map seaP)), I .i64 p] [] (.tup [.c (.sl 3 (([] : List Sea).map seaP)), I .i64 (seasE l)]) [] := by
 have SC := scheck_s l hl hs
 refine spec_am Try.func11 rfl rfl mix 37 rfl [.tmp 4, .tmp 5] Try.results11 (Nat.le_of_ble_eq_true rfl) ?_
 (try (refine xst ?_; try exact xtI))
 refine caP (SC) ?_
 (try (refine xst ?_; try exact xtI))
 refine cond_i (fun h1 => ?_) (fun h1 => ?_)
 ·(try replace h1 := xhh h1)
  (try (refine xst ?_; try exact xtI))
  refine cond_i (fun h2 => ?_) (fun h2 => ?_)
  ·(try replace h2 := xhh h2)
   (try (refine xst ?_; try exact xtI))
   exact xrz rfl
  ·(try replace h2 := xhh h2)
   exact absurd h2 h
 ·(try replace h1 := xhh h1)
  exact absurd h1 h
theorem sleave_b2 (l : List Sea) (p : Int) (hl : l.length ≤ 9223372036854775807) (hs : ∀ s ∈ l, seaL s) (hE : seasE l = 0) (hp : p < 0 ∨ (l.length : Int) ≤ p) : Spec Try.prog 11 [.c (.sl 3 (l.map seaP)), I .i64 p] [] (.tup [.c (.sl 3 (([] : List Sea).map seaP)), I .i64 7]) [] := by
 have SC := scheck_s l hl hs
 rw [hE] at SC
 refine spec_am Try.func11 rfl rfl mix 37 rfl [.tmp 4, .tmp 5] Try.results11 (Nat.le_of_ble_eq_true rfl) ?_
 (try (refine xst ?_; try exact xtI))
 refine caP (SC) ?_
 (try (refine xst ?_; try exact xtI))
 refine cond_i (fun h1 => ?_) (fun h1 => ?_)
 ·(try replace h1 := xhh h1)
  simp at h1
 ·(try replace h1 := xhh h1)
  (try (refine xst ?_; try exact xtI))
  refine cond_i (fun h2 => ?_) (fun h2 => ?_)
  ·(try replace h2 := xhh h2)
   (try (refine xst ?_; try exact xtI))
   refine cond_i (fun h3 => ?_) (fun h3 => ?_)
   ·(try replace h3 := xhh h3)
    (try (refine xst ?_; try exact xtI))
    exact xrz rfl
   ·(try replace h3 := xhh h3)
    simp at h3
  ·(try replace h2 := xhh h2)
   omega
theorem sleave_b3 (l : List Sea) (p : Int) (hl : l.length ≤ 9223372036854775807) (hs : ∀ s ∈ l, seaL s) (hE : seasE l = 0) (hp : ¬ (p < 0 ∨ (l.length : Int) ≤ p)) (hg : (l.getD p.toNat default).gone = true) : Spec Try.prog 11 [.c (.sl 3 (l.map seaP)), I .i64 p] [] (.tup [.c (.sl 3 (([] : List Sea).map seaP)), I .i64 8]) [] := by
 have SC := scheck_s l hl hs
 rw [hE] at SC
 have hlt : p.toNat < l.length := by omega
 refine spec_am Try.func11 rfl rfl mix 37 rfl [.tmp 4, .tmp 5] Try.results11 (Nat.le_of_ble_eq_true rfl) ?_
 (try (refine xst ?_; try exact xtI))
 refine caP (SC) ?_
 (try (refine xst ?_; try exact xtI))
 refine cond_i (fun h1 => ?_) (fun h1 => ?_)
 ·(try replace h1 := xhh h1)
  simp at h1
 ·(try replace h1 := xhh h1)
  (try (refine xst ?_; try exact xtI))
  refine cond_i (fun h2 => ?_) (fun h2 => ?_)
  ·(try replace h2 := xhh h2)
   omega
  ·(try replace h2 := xhh h2)
   (iterate 2 ((try simp (etaStruct := .none) only [push_cast, DrawG, Int.cast_ofNat_Int, seval, getD_in _ _ _ hlt, seaP]); (try (refine xsu ?_; try exact xtI))))
   refine cond_i (fun h3 => ?_) (fun h3 => ?_)
   ·(try replace h3 := xhh h3)
    (iterate 2 ((try simp (etaStruct := .none) only [push_cast, DrawG, Int.cast_ofNat_Int, seval, getD_in _ _ _ hlt, seaP]); (try (refine xsu ?_; try exact xtI))))
    refine cond_i (fun h4 => ?_) (fun h4 => ?_)
    ·(try replace h4 := xhh h4)
     (iterate 2 ((try simp (etaStruct := .none) only [push_cast, DrawG, Int.cast_ofNat_Int, seval, getD_in _ _ _ hlt, seaP]); (try (refine xsu ?_; try exact xtI))))
     exact xrz rfl
    ·(try replace h4 := xhh h4)
     simp at h4
   ·(try replace h3 := xhh h3)
    rw [hg] at h3; simp at h3
end Go.Proofs.Ytdkmndimmpilaaa
namespace Go.Proofs.Ytdkmndimmpilaaa
set_option linter.all false
open Go.RowKit
set_option maxRecDepth 100000
set_option maxHeartbeats 1000000
def dropS (l : List Sea) (T : List Nat) : List Sea := (List.range l.length).map fun i => ⟨(l.getD i default).waits.drop (T.getD i default), (lateS (l.getD i default)).late, (l.getD i default).gone⟩
theorem dropS_len (l : List Sea) (T : List Nat) : (dropS l T).length = l.length := by simp [dropS]
theorem dropS_at (l : List Sea) (T : List Nat) (i : Nat) (h : i < l.length) : (dropS l T).getD i default = ⟨(l.getD i default).waits.drop (T.getD i default), (lateS (l.getD i default)).late, (l.getD i default).gone⟩ := by
 rw [getD_at _ _ (by rw [dropS_len]; exact h)]
 simp [dropS]
theorem ext_getD {α : Type} [Inhabited α] {l m : List α} (h : l.length = m.length) (h2 : ∀ i, i < l.length → l.getD i default = m.getD i default) : l = m := by
 refine List.ext_getElem h fun i i1 i2 => ?_
 have := h2 i i1
 rwa [getD_at _ _ i1, getD_at _ _ i2] at this
theorem set_getD {α : Type} [Inhabited α] (l : List α) (i j : Nat) (x : α) (h : i < l.length) : (l.set i x).getD j default = if i = j then x else l.getD j default := by
 by_cases e : i = j
 ·subst e; rw [if_pos rfl, getD_at _ _ (by simpa using h)]; simp
 ·rw [if_neg e, List.getD_eq_getElem?_getD, List.getElem?_set_ne e, List.getD_eq_getElem?_getD]
def TkQ (most : Int) (l : List Sea) (k i : Nat) (o : List Ord) (U : List Nat) : Prop :=
 U.length = l.length ∧ o.length ≤ 100 ∧ (∀ j, j < l.length → U.getD j default ≤ (l.getD j default).waits.length) ∧
 ((o.length : Int) < most → ∀ j, j < l.length → U.getD j default = if j < i then min (k + 1) (l.getD j default).waits.length else min k (l.getD j default).waits.length)
theorem TkQ.t {most : Int} {l : List Sea} {k i : Nat} {o : List Ord} {U : List Nat} (h : TkQ most l k i o U) (hi : i < l.length) (hk : k < (l.getD i default).waits.length) (hm : (o.length : Int) < most) (hm2 : most ≤ 100) (x : Ord) :
 U.getD i default = k ∧ TkQ most l k (i + 1) (o ++ [x]) (U.set i (k + 1)) := by
 obtain ⟨h1, h2, h3, h4⟩ := h
 have e := h4 hm i hi
 rw [if_neg (by omega), Nat.min_eq_left (by omega)] at e
 refine ⟨e, by simp [h1], by simp; omega, fun j hj => ?_, fun hm' j hj => ?_⟩
 ·rw [set_getD _ _ _ _ (by omega)]
  split
  ·rename_i e'; subst e'; omega
  ·exact h3 j hj
 ·have := h4 hm j hj
  rw [set_getD _ _ _ _ (by omega)]
  by_cases e' : i = j
  ·subst e'; rw [if_pos rfl, if_pos (by omega)]; omega
  ·rw [if_neg e', this]
   by_cases e2 : j < i
   ·rw [if_pos e2, if_pos (by omega)]
   ·rw [if_neg e2, if_neg (by omega)]
theorem TkQ.f {most : Int} {l : List Sea} {k i : Nat} {o : List Ord} {U : List Nat} (h : TkQ most l k i o U) (hi : i < l.length) (hc : ¬ (k < (l.getD i default).waits.length ∧ (o.length : Int) < most)) : TkQ most l k (i + 1) o U ∧ ¬ (0 < ((dropS l U).getD i default).waits.length ∧ (o.length : Int) < most) := by
 obtain ⟨h1, h2, h3, h4⟩ := h
 refine ⟨⟨h1, h2, h3, fun hm j hj => ?_⟩, ?_⟩
 ·rw [h4 hm j hj]
  by_cases e : j = i
  ·subst e; rw [if_neg (by omega), if_pos (by omega)]; omega
  ·by_cases e2 : j < i
   ·rw [if_pos e2, if_pos (by omega)]
   ·rw [if_neg e2, if_neg (by omega)]
 ·rw [dropS_at _ _ _ hi]
  simp only [List.length_drop]
  rintro ⟨h5, h6⟩
  have := h4 h6 i hi
  rw [if_neg (by omega)] at this
  omega
theorem TkQ.next {most : Int} {l : List Sea} {k : Nat} {o : List Ord} {U : List Nat} (h : TkQ most l k l.length o U) : TkQ most l (k + 1) 0 o U := by
 obtain ⟨h1, h2, h3, h4⟩ := h
 refine ⟨h1, h2, h3, fun hm j hj => ?_⟩
 rw [h4 hm j hj, if_pos hj, if_neg (by omega)]
theorem TkQ.zero (most : Int) (l : List Sea) : TkQ most l 0 0 [] (List.replicate l.length 0) := by
 refine ⟨by simp, by simp, fun j hj => ?_, fun _ j hj => ?_⟩ <;> rw [getD_at _ _ (by simpa using hj)] <;> simp
end Go.Proofs.Ytdkmndimmpilaaa
namespace Go.Proofs.Ytdkmndimmpilaaa
set_option linter.all false
open Go.RowKit
set_option maxRecDepth 100000
set_option maxHeartbeats 1000000
theorem sea_clone (l : List Sea) (hl : l.length ≤ 100000000000) : Spec Try.prog 15 [.c (.sl 3 (l.map seaP))] [] (.own 0) [.row 38 3 (l.map seaP)] := by
 refine spec_am Try.func15 rfl rfl mix 8 rfl [.tmp 2] Try.results15 (Nat.le_of_ble_eq_true rfl) ?_
 (try (refine xst ?_; try exact xtI))
 intro b hb
 (try (refine xst ?_; try exact xtI))
 refine cond_i (fun h => ?_) (fun h => ?_)
 ·(try (refine xst ?_; try exact xtI))
  have e := hb h
  refine retTo (To.nil 2 38 3 rfl) (retM [0] rfl rfl (by decide) ⟨?_, trivial⟩ trivial ?_)
  ·simp (etaStruct := .none) only [push_cast, DrawG, Int.cast_ofNat_Int, seval, e]
  ·simp (etaStruct := .none) only [push_cast, DrawG, Int.cast_ofNat_Int, seval]
 ·(try (refine xst ?_; try exact xtI))
  refine retM [1] rfl rfl (by decide) ⟨?_, trivial⟩ trivial ?_
  ·simp (etaStruct := .none) only [push_cast, DrawG, Int.cast_ofNat_Int, seval]
  ·simp (etaStruct := .none) only [push_cast, DrawG, Int.cast_ofNat_Int, seval]
end Go.Proofs.Ytdkmndimmpilaaa
namespace Go.Proofs.Ytdkmndimmpilaaa
set_option linter.all false
open Go.RowKit
set_option maxRecDepth 100000
set_option maxHeartbeats 1000000
theorem seasR_s (l : List Sea) (hl : l.length ≤ 9223372036854775807) (hs : ∀ s ∈ l, seaL s) : Spec Try.prog 14 [.c (.sl 3 (l.map seaP))] [] (I .i64 (seasE l)) [] := by
 have bad4 : ∀ k, k < l.length → (1 ≤ l.length ∧ l.length ≤ 8) → (∀ j, j < l.length → ¬ 50 < (l.getD j default).waits.length) → seaR (l.getD k default) k = false → seasE l = 4 := by
  intro k hk h1 h2 h3
  unfold seasE
  rw [if_neg (by omega), if_neg, if_neg]
  ·rw [List.all_eq_true]
   intro hh
   have := hh k (by simpa using hk)
   rw [h3] at this; simp at this
  ·simp only [List.any_eq_true, decide_eq_true_eq, not_exists, not_and]
   intro s hss
   obtain ⟨i, hi, rfl⟩ := List.getElem_of_mem hss
   have := h2 i hi
   rwa [getD_at _ _ hi] at this
 refine spec_am Try.func14 rfl rfl mix 68 rfl [.tmp 2] Try.results14 (Nat.le_of_ble_eq_true rfl) ?_
 (try (refine xst ?_; try exact xtI))
 refine caP (between_s l.length 1 8) ?_
 (try (refine xst ?_; try exact xtI))
 refine cond_i (fun h1 => ?_) (fun h1 => ?_)
 ·(try replace h1 := xhh h1)
  have e : seasE l = 1 := by unfold seasE; rw [if_pos]; rw [within_f] at h1; omega
  (try (refine xst ?_; try exact xtI))
  (first | (refine retA rfl (Wk.of ?_); (try simp (etaStruct := .none) only [push_cast, DrawG, Int.cast_ofNat_Int, seval]); first | done | (simp [e, *]; done) | (simp_all [e]; done)) | (refine retA rfl ?_; (try simp (etaStruct := .none) only [push_cast, DrawG, Int.cast_ofNat_Int, seval]); (try simp [e, *]); (try exact wkc)))
 ·(try replace h1 := xhh h1)
  have h18 := within_iff.1 h1
  (try (refine xst ?_; try exact xtI))
  refine loopI (fun k : Nat => ⟨[(15, I .i64 k), (14, I .i64 l.length), (13, .c (.sl 3 (l.map seaP))), (0, .c (.sl 3 (l.map seaP)))], [], 0⟩) (fun k : Nat => k ≤ l.length ∧ ∀ j, j < k → ¬ 50 < (l.getD j default).waits.length) (fun k : Nat => l.length - k) (0) (⟨Nat.zero_le _, fun j h => by omega⟩) (To.mk [] rfl rfl List.nodup_nil trivial ?_) ?_
  ·simp (etaStruct := .none) only [push_cast, DrawG, Int.cast_ofNat_Int, seval]
  rintro k ⟨hk, hn⟩
  (try (refine xst ?_; try exact xtI))
  refine cond_i (fun h2 => ?_) (fun h2 => ?_)
  ·(try replace h2 := xhh h2)
   have hlt : k < l.length := by omega
   (iterate 2 ((try simp (etaStruct := .none) only [push_cast, DrawG, Int.cast_ofNat_Int, seval, getD_in _ _ _ hlt, seaP]); (try (refine xsu ?_; try exact xtI))))
   refine cond_i (fun h3 => ?_) (fun h3 => ?_)
   ·(try replace h3 := xhh h3)
    have e : seasE l = 2 := by
     unfold seasE
     rw [if_neg (by omega), if_pos]
     rw [List.any_eq_true]
     exact ⟨_, getD_mem l k hlt, by simpa using (show 50 < (l.getD k default).waits.length by omega)⟩
    (iterate 2 ((try simp (etaStruct := .none) only [push_cast, DrawG, Int.cast_ofNat_Int, seval, getD_in _ _ _ hlt, seaP]); (try (refine xsu ?_; try exact xtI))))
    (first | (refine retA rfl (Wk.of ?_); (try simp (etaStruct := .none) only [push_cast, DrawG, Int.cast_ofNat_Int, seval]); first | done | (simp [e, *]; done) | (simp_all [e]; done)) | (refine retA rfl ?_; (try simp (etaStruct := .none) only [push_cast, DrawG, Int.cast_ofNat_Int, seval]); (try simp [e, *]); (try exact wkc)))
   ·(try replace h3 := xhh h3)
    (iterate 2 ((try simp (etaStruct := .none) only [push_cast, DrawG, Int.cast_ofNat_Int, seval, getD_in _ _ _ hlt, seaP]); (try (refine xsu ?_; try exact xtI))))
    refine ⟨k + 1, ⟨by omega, fun j hj => by rcases Nat.lt_or_ge j k with h | h; exact hn j h; rw [show j = k by omega]; omega⟩, by omega, To.mk [] rfl rfl List.nodup_nil trivial ?_⟩
    ·(iterate 2 ((try simp (etaStruct := .none) only [push_cast, DrawG, Int.cast_ofNat_Int, seval, getD_in _ _ _ hlt, seaP]); (try (refine xsu ?_; try exact xtI))))
  ·(try replace h2 := xhh h2)
   have h50 : ∀ j, j < l.length → ¬ 50 < (l.getD j default).waits.length := fun j hj => hn j (by omega)
   clear hn
   (try (refine xst ?_; try exact xtI))
   refine loopI (fun k : Nat => ⟨[(26, I .i64 k), (25, I .i64 l.length), (24, .c (.sl 3 (l.map seaP)))], [], 0⟩) (fun k : Nat => k ≤ l.length ∧ ∀ j, j < k → seaR (l.getD j default) j = true) (fun k : Nat => l.length - k) (0) (⟨Nat.zero_le _, fun j h => by omega⟩) (To.mk [] rfl rfl List.nodup_nil trivial ?_) ?_
   ·simp (etaStruct := .none) only [push_cast, DrawG, Int.cast_ofNat_Int, seval]
   rintro k ⟨hk, hn⟩
   (try (refine xst ?_; try exact xtI))
   refine cond_i (fun h4 => ?_) (fun h4 => ?_)
   ·(try replace h4 := xhh h4)
    have hlt : k < l.length := by omega
    have hw := h50 k hlt
    (iterate 2 ((try simp (etaStruct := .none) only [push_cast, DrawG, Int.cast_ofNat_Int, seval, getD_in _ _ _ hlt, seaP]); (try (refine xsu ?_; try exact xtI))))
    refine caP (between_s (l.getD k default).late 0 1000000) ?_
    (iterate 2 ((try simp (etaStruct := .none) only [push_cast, DrawG, Int.cast_ofNat_Int, seval, getD_in _ _ _ hlt, seaP]); (try (refine xsu ?_; try exact xtI))))
    refine cond_i (fun h5 => ?_) (fun h5 => ?_)
    ·(try replace h5 := xhh h5)
     have hb : seaBad (l.getD k default) = true := by
      unfold seaBad
      rw [Bool.or_eq_true, Bool.and_eq_true, Bool.not_eq_true']
      rcases h5 with h | ⟨h, h'⟩
      ·exact .inl h
      ·refine .inr ⟨h, ?_⟩
       rw [Bool.or_eq_true, Bool.not_eq_true', decide_eq_false_iff_not, decide_eq_true_eq]; omega
     have e : seasE l = 4 := bad4 k hlt ⟨by omega, by omega⟩ h50 (by unfold seaR; rw [hb]; rfl)
     (iterate 2 ((try simp (etaStruct := .none) only [push_cast, DrawG, Int.cast_ofNat_Int, seval, getD_in _ _ _ hlt, seaP]); (try (refine xsu ?_; try exact xtI))))
     (first | (refine retA rfl (Wk.of ?_); (try simp (etaStruct := .none) only [push_cast, DrawG, Int.cast_ofNat_Int, seval]); first | done | (simp [e, *]; done) | (simp_all [e]; done)) | (refine retA rfl ?_; (try simp (etaStruct := .none) only [push_cast, DrawG, Int.cast_ofNat_Int, seval]); (try simp [e, *]); (try exact wkc)))
    ·(try replace h5 := xhh h5)
     have hb : seaBad (l.getD k default) = false := by
      unfold seaBad
      rw [Bool.or_eq_false_iff, Bool.not_eq_false']
      refine ⟨h5.1, ?_⟩
      have hwi := within_iff.1 h5.1
      rcases h5.2 with h | h
      ·rw [h]; rfl
      ·rw [Bool.and_eq_false_iff]; right; rw [Bool.or_eq_false_iff, Bool.not_eq_false', decide_eq_true_eq, decide_eq_false_iff_not]; omega
     (iterate 2 ((try simp (etaStruct := .none) only [push_cast, DrawG, Int.cast_ofNat_Int, seval, getD_in _ _ _ hlt, seaP]); (try (refine xsu ?_; try exact xtI))))
     refine loopI (fun m : Nat => ⟨[(53, I .i64 m), (52, I .i64 (l.getD k default).waits.length), (51, .c (.sl 6 ((l.getD k default).waits.map ordP))), (26, I .i64 k), (25, I .i64 l.length), (24, .c (.sl 3 (l.map seaP))), (5, I .i64 k)], [], 0⟩) (fun m : Nat => m ≤ (l.getD k default).waits.length ∧ ∀ j, j < m → ordNot k ((l.getD k default).waits.getD j default) = false) (fun m : Nat => (l.getD k default).waits.length - m) (0) (⟨Nat.zero_le _, fun j h => by omega⟩) (To.mk [] rfl rfl List.nodup_nil trivial ?_) ?_
     ·simp (etaStruct := .none) only [push_cast, DrawG, Int.cast_ofNat_Int, seval]
     rintro m ⟨hk2, hn2⟩
     (iterate 2 ((try simp (etaStruct := .none) only [push_cast, DrawG, Int.cast_ofNat_Int, seval, getD_in _ _ _ hlt, seaP]); (try (refine xsu ?_; try exact xtI))))
     refine cond_i (fun h6 => ?_) (fun h6 => ?_)
     ·(try replace h6 := xhh h6)
      have hlt2 : m < (l.getD k default).waits.length := by omega
      (iterate 2 ((try simp (etaStruct := .none) only [push_cast, DrawG, Int.cast_ofNat_Int, seval, getD_in _ _ _ hlt, seaP, getD_in _ _ _ hlt2, ordP]); (try (refine xsu ?_; try exact xtI))))
      refine caP (oright_s ((l.getD k default).waits.getD m default)) ?_
      (iterate 2 ((try simp (etaStruct := .none) only [push_cast, DrawG, Int.cast_ofNat_Int, seval, getD_in _ _ _ hlt, seaP, getD_in _ _ _ hlt2, ordP]); (try (refine xsu ?_; try exact xtI))))
      refine cond_i (fun h7 => ?_) (fun h7 => ?_)
      ·(try replace h7 := xhh h7)
       have hb2 : ordNot k ((l.getD k default).waits.getD m default) = true := by unfold ordNot; rw [Bool.or_eq_true, Bool.not_eq_true', Bool.not_eq_true', decide_eq_false_iff_not, decide_eq_false_iff_not]; omega
       have e : seasE l = 4 := bad4 k hlt ⟨by omega, by omega⟩ h50 (by
        unfold seaR
        rw [Bool.and_eq_false_iff]; right
        rw [Bool.not_eq_false', List.any_eq_true]
        exact ⟨_, getD_mem _ m hlt2, hb2⟩)
       (iterate 2 ((try simp (etaStruct := .none) only [push_cast, DrawG, Int.cast_ofNat_Int, seval, getD_in _ _ _ hlt, seaP, getD_in _ _ _ hlt2, ordP]); (try (refine xsu ?_; try exact xtI))))
       (first | (refine retA rfl (Wk.of ?_); (try simp (etaStruct := .none) only [push_cast, DrawG, Int.cast_ofNat_Int, seval]); first | done | (simp [e, *]; done) | (simp_all [e]; done)) | (refine retA rfl ?_; (try simp (etaStruct := .none) only [push_cast, DrawG, Int.cast_ofNat_Int, seval]); (try simp [e, *]); (try exact wkc)))
      ·(try replace h7 := xhh h7)
       (iterate 2 ((try simp (etaStruct := .none) only [push_cast, DrawG, Int.cast_ofNat_Int, seval, getD_in _ _ _ hlt, seaP, getD_in _ _ _ hlt2, ordP]); (try (refine xsu ?_; try exact xtI))))
       refine ⟨m + 1, ⟨by omega, fun j hj => by rcases Nat.lt_or_ge j m with h | h; exact hn2 j h; rw [show j = m by omega]; unfold ordNot; rw [Bool.or_eq_false_iff, Bool.not_eq_false', Bool.not_eq_false', decide_eq_true_eq, decide_eq_true_eq]; omega⟩, by omega, To.mk [] rfl rfl List.nodup_nil trivial ?_⟩
       ·(iterate 2 ((try simp (etaStruct := .none) only [push_cast, DrawG, Int.cast_ofNat_Int, seval, getD_in _ _ _ hlt, seaP, getD_in _ _ _ hlt2, ordP]); (try (refine xsu ?_; try exact xtI))))
     ·(try replace h6 := xhh h6)
      have hm : m = (l.getD k default).waits.length := by omega
      (iterate 2 ((try simp (etaStruct := .none) only [push_cast, DrawG, Int.cast_ofNat_Int, seval, getD_in _ _ _ hlt, seaP]); (try (refine xsu ?_; try exact xtI))))
      refine ⟨k + 1, ⟨by omega, fun j hj => by
 rcases Nat.lt_or_ge j k with h | h
 ·exact hn j h
 ·rw [show j = k by omega]
  unfold seaR
  rw [hb, Bool.not_false, Bool.true_and, Bool.not_eq_true', List.any_eq_false]
  intro o ho
  obtain ⟨q, hq, rfl⟩ := List.getElem_of_mem ho
  have := hn2 q (by omega)
  rw [getD_at _ _ hq] at this
  rw [this]; simp⟩, by omega, To.mk [] rfl rfl List.nodup_nil trivial ?_⟩
      ·(iterate 2 ((try simp (etaStruct := .none) only [push_cast, DrawG, Int.cast_ofNat_Int, seval, getD_in _ _ _ hlt, seaP]); (try (refine xsu ?_; try exact xtI))))
   ·(try replace h4 := xhh h4)
    have e : seasE l = 0 := by
     unfold seasE
     rw [if_neg (by omega), if_neg, if_pos]
     ·rw [List.all_eq_true]
      intro i hi
      exact hn i (by simp at hi; omega)
     ·simp only [List.any_eq_true, decide_eq_true_eq, not_exists, not_and]
      intro s hss
      obtain ⟨i, hi, rfl⟩ := List.getElem_of_mem hss
      have := h50 i hi
      rwa [getD_at _ _ hi] at this
    (try (refine xst ?_; try exact xtI))
    (first | (refine retA rfl (Wk.of ?_); (try simp (etaStruct := .none) only [push_cast, DrawG, Int.cast_ofNat_Int, seval]); first | done | (simp [e, *]; done) | (simp_all [e]; done)) | (refine retA rfl ?_; (try simp (etaStruct := .none) only [push_cast, DrawG, Int.cast_ofNat_Int, seval]); (try simp [e, *]); (try exact wkc)))
theorem ord_eq (l m : List Ord) (hl : l.length ≤ 9223372036854775807) (hm : m.length ≤ 9223372036854775807) : Spec Try.prog 23 [.c (.sl 6 (l.map ordP)), .c (.sl 6 (m.map ordP))] [] (B (decide (l = m))) [] := by
 refine spec_am Try.func23 rfl rfl mix 26 rfl [.tmp 4] Try.results23 (Nat.le_of_ble_eq_true rfl) ?_
 (try (refine xst ?_; try exact xtI))
 refine cond_i (fun h1 => ?_) (fun h1 => ?_)
 ·(try replace h1 := xhh h1)
  have e : l ≠ m := by intro e; subst e; simp at h1
  (try (refine xst ?_; try exact xtI))
  exact ret0 rfl trivial (Wk.of (by rw [decide_eq_false e]; rfl))
 ·(try replace h1 := xhh h1)
  (try (refine xst ?_; try exact xtI))
  refine loopI (fun k : Nat => ⟨[(13, I .i64 k), (12, I .i64 l.length), (1, .c (.sl 6 (m.map ordP))), (0, .c (.sl 6 (l.map ordP)))], [], 0⟩) (fun k : Nat => k ≤ l.length ∧ ∀ j, j < k → l.getD j default = m.getD j default) (fun k : Nat => l.length - k) (0) (⟨Nat.zero_le _, fun j h => by omega⟩) (To.mk [] rfl rfl List.nodup_nil trivial ?_) ?_
  ·simp (etaStruct := .none) only [push_cast, DrawG, Int.cast_ofNat_Int, seval]
  rintro k ⟨hk, hn⟩
  (try (refine xst ?_; try exact xtI))
  refine cond_i (fun h2 => ?_) (fun h2 => ?_)
  ·(try replace h2 := xhh h2)
   have hlt : k < l.length := by omega
   have hlt2 : k < m.length := by omega
   (iterate 2 ((try simp (etaStruct := .none) only [push_cast, DrawG, Int.cast_ofNat_Int, seval, getD_in _ _ _ hlt, getD_in _ _ _ hlt2, ordP, ord_dec]); (try (refine xsu ?_; try exact xtI))))
   (try (refine ⟨by kernel_rfl, ?_⟩))
   (iterate 2 ((try simp (etaStruct := .none) only [push_cast, DrawG, Int.cast_ofNat_Int, seval, getD_in _ _ _ hlt, getD_in _ _ _ hlt2, ordP, ord_dec]); (try (refine xsu ?_; try exact xtI))))
   refine cond_i (fun h3 => ?_) (fun h3 => ?_)
   ·(try replace h3 := xhh h3)
    have e : l ≠ m := by intro e; subst e; simp at h3
    (iterate 2 ((try simp (etaStruct := .none) only [push_cast, DrawG, Int.cast_ofNat_Int, seval, getD_in _ _ _ hlt, getD_in _ _ _ hlt2, ordP, ord_dec]); (try (refine xsu ?_; try exact xtI))))
    exact ret0 rfl trivial (Wk.of (by rw [decide_eq_false e]; rfl))
   ·(try replace h3 := xhh h3)
    (iterate 2 ((try simp (etaStruct := .none) only [push_cast, DrawG, Int.cast_ofNat_Int, seval, getD_in _ _ _ hlt, getD_in _ _ _ hlt2, ordP, ord_dec]); (try (refine xsu ?_; try exact xtI))))
    refine ⟨k + 1, ⟨by omega, fun j hj => by rcases Nat.lt_or_ge j k with h | h; exact hn j h; rw [show j = k by omega]; simpa using h3⟩, by omega, To.mk [] rfl rfl List.nodup_nil trivial ?_⟩
    ·(iterate 2 ((try simp (etaStruct := .none) only [push_cast, DrawG, Int.cast_ofNat_Int, seval, getD_in _ _ _ hlt, getD_in _ _ _ hlt2, ordP, ord_dec]); (try (refine xsu ?_; try exact xtI))))
  ·(try replace h2 := xhh h2)
   have e : l = m := by
    refine List.ext_getElem (by omega) fun i i1 i2 => ?_
    have := hn i (by omega)
    rwa [getD_at _ _ i1, getD_at _ _ i2] at this
   (try (refine xst ?_; try exact xtI))
   exact ret0 rfl trivial (Wk.of (by rw [decide_eq_true e]; rfl))
theorem sea_eqf (F : FuncId) (p : Sea → Sea → Bool) (l m : List Sea) (hl : l.length ≤ 9223372036854775807) (hm : m.length ≤ 9223372036854775807) (hp : ∀ x ∈ l, ∀ y ∈ m, Spec Try.prog F ([] ++ [seaA x, seaA y] ++ []) [] (B (p x y)) []) :
 Spec Try.prog 36 [.c (.sl 3 (l.map seaP)), .c (.sl 3 (m.map seaP)), .clo (.func F) [] []] [] (B (decide (l.length = m.length) && (List.range l.length).all fun i => p (l.getD i default) (m.getD i default))) [] := by
 refine spec_am Try.func36 rfl rfl mix 32 rfl [.tmp 6] Try.results36 (Nat.le_of_ble_eq_true rfl) ?_
 (try (refine xst ?_; try exact xtI))
 refine cond_i (fun h1 => ?_) (fun h1 => ?_)
 ·(try replace h1 := xhh h1)
  have e : (decide (l.length = m.length) && (List.range l.length).all fun i => p (l.getD i default) (m.getD i default)) = false := by rw [decide_eq_false (by omega)]; rfl
  (try (refine xst ?_; try exact xtI))
  exact ret0 rfl trivial (Wk.of (by rw [e]; rfl))
 ·(try replace h1 := xhh h1)
  have h1' : l.length = m.length := by omega
  (try (refine xst ?_; try exact xtI))
  refine loopI (fun k : Nat => ⟨[(17, I .i64 k), (16, I .i64 l.length), (15, .c (.sl 3 (l.map seaP))), (2, .clo (.func F) [] []), (1, .c (.sl 3 (m.map seaP)))], [], 0⟩) (fun k : Nat => k ≤ l.length ∧ ∀ j, j < k → p (l.getD j default) (m.getD j default) = true) (fun k : Nat => l.length - k) (0) (⟨Nat.zero_le _, fun j h => by omega⟩) (To.mk [] rfl rfl List.nodup_nil trivial ?_) ?_
  ·simp (etaStruct := .none) only [push_cast, DrawG, Int.cast_ofNat_Int, seval]
  rintro k ⟨hk, hn⟩
  (try (refine xst ?_; try exact xtI))
  refine cond_i (fun h2 => ?_) (fun h2 => ?_)
  ·(try replace h2 := xhh h2)
   have hlt : k < l.length := by omega
   have hlt2 : k < m.length := by omega
   (iterate 2 ((try simp (etaStruct := .none) only [push_cast, DrawG, Int.cast_ofNat_Int, seval, getD_in _ _ _ hlt, getD_in _ _ _ hlt2, seaP]); (try (refine xsu ?_; try exact xtI))))
   refine caP (hp (l.getD k default) (by rw [getD_at _ _ hlt]; exact List.getElem_mem hlt) (m.getD k default) (by rw [getD_at _ _ hlt2]; exact List.getElem_mem hlt2)) ?_
   (iterate 2 ((try simp (etaStruct := .none) only [push_cast, DrawG, Int.cast_ofNat_Int, seval, getD_in _ _ _ hlt, getD_in _ _ _ hlt2, seaP]); (try (refine xsu ?_; try exact xtI))))
   refine cond_i (fun h3 => ?_) (fun h3 => ?_)
   ·(try replace h3 := xhh h3)
    have e : (decide (l.length = m.length) && (List.range l.length).all fun i => p (l.getD i default) (m.getD i default)) = false := by
     rw [Bool.and_eq_false_iff]; right
     rw [List.all_eq_false]
     exact ⟨k, by simp; omega, by rw [h3]; simp⟩
    (iterate 2 ((try simp (etaStruct := .none) only [push_cast, DrawG, Int.cast_ofNat_Int, seval, getD_in _ _ _ hlt, getD_in _ _ _ hlt2, seaP]); (try (refine xsu ?_; try exact xtI))))
    exact ret0 rfl trivial (Wk.of (by rw [e]; rfl))
   ·(try replace h3 := xhh h3)
    (iterate 2 ((try simp (etaStruct := .none) only [push_cast, DrawG, Int.cast_ofNat_Int, seval, getD_in _ _ _ hlt, getD_in _ _ _ hlt2, seaP]); (try (refine xsu ?_; try exact xtI))))
    refine ⟨k + 1, ⟨by omega, fun j hj => by rcases Nat.lt_or_ge j k with h | h; exact hn j h; rw [show j = k by omega]; exact h3⟩, by omega, To.mk [] rfl rfl List.nodup_nil trivial ?_⟩
    ·(iterate 2 ((try simp (etaStruct := .none) only [push_cast, DrawG, Int.cast_ofNat_Int, seval, getD_in _ _ _ hlt, getD_in _ _ _ hlt2, seaP]); (try (refine xsu ?_; try exact xtI))))
  ·(try replace h2 := xhh h2)
   have e : (decide (l.length = m.length) && (List.range l.length).all fun i => p (l.getD i default) (m.getD i default)) = true := by
    rw [decide_eq_true h1', Bool.true_and, List.all_eq_true]
    intro i hi
    exact hn i (by simp at hi; omega)
   (try (refine xst ?_; try exact xtI))
   exact ret0 rfl trivial (Wk.of (by rw [e]; rfl))
theorem same_clo (x y : Sea) (hx : seaL x) (hy : seaL y) : Spec Try.prog 37 ([] ++ [seaA x, seaA y] ++ []) [] (B (decide (x = y))) [] := by
 unfold seaL at hx hy
 refine spec_am Try.func37 rfl rfl mix 24 rfl [.tmp 4] Try.results37 (Nat.le_of_ble_eq_true rfl) ?_
 (try (refine xst ?_; try exact xtI))
 refine gcP (fun hcc => ord_eq x.waits y.waits (by omega) (by omega)) ?_
 (try (refine xst ?_; try exact xtI))
 refine ret0 rfl trivial (Wk.of (congrArg B ?_))
 obtain ⟨w, a, g⟩ := x
 obtain ⟨w', a', g'⟩ := y
 rw [Bool.eq_iff_iff]
 simp only [Bool.and_eq_true, decide_eq_true_eq, Sea.mk.injEq]
 constructor
 ·rintro ⟨⟨h1, h2⟩, h3⟩; exact ⟨h3, h1, h2⟩
 ·rintro ⟨h1, h2, h3⟩; exact ⟨⟨h2, h3⟩, h1⟩
theorem sameSeats_s (l m : List Sea) (hl : l.length ≤ 9223372036854775807) (hm : m.length ≤ 9223372036854775807) (hx : ∀ s ∈ l, seaL s) (hy : ∀ s ∈ m, seaL s) : Spec Try.prog 13 [.c (.sl 3 (l.map seaP)), .c (.sl 3 (m.map seaP))] [] (B (decide (l = m))) [] := by
 have e : (decide (l.length = m.length) && (List.range l.length).all fun i => decide (l.getD i default = m.getD i default)) = decide (l = m) := by
  rw [Bool.eq_iff_iff]
  simp only [Bool.and_eq_true, decide_eq_true_eq, List.all_eq_true, List.mem_range]
  constructor
  ·rintro ⟨h1, h2⟩; exact ext_getD h1 h2
  ·rintro rfl; exact ⟨rfl, fun _ _ => rfl⟩
 refine spec_am Try.func13 rfl rfl mix 8 rfl [.tmp 4] Try.results13 (Nat.le_of_ble_eq_true rfl) ?_
 (iterate 2 ((try simp (etaStruct := .none) only [push_cast, DrawG, Int.cast_ofNat_Int, seval, e]); (try (refine xsu ?_; try exact xtI))))
 refine caP (sea_eqf _ (fun x y => decide (x = y)) l m hl hm (fun x h y h' => same_clo x y (hx x h) (hy y h'))) ?_
 (iterate 2 ((try simp (etaStruct := .none) only [push_cast, DrawG, Int.cast_ofNat_Int, seval, e]); (try (refine xsu ?_; try exact xtI))))
 exact xrz rfl
end Go.Proofs.Ytdkmndimmpilaaa
namespace Go.Proofs.Ytdkmndimmpilaaa
set_option linter.all false
open Go.RowKit
set_option maxRecDepth 100000
set_option maxHeartbeats 1000000
theorem swith_s (l : List Sea) (p : Int) (ws : List (List PV)) (n : Int) (g : Bool) (hl : l.length ≤ 100000) (hp : 0 ≤ p) (hi : p.toNat < l.length) : Spec Try.prog 35 [.c (.sl 3 (l.map seaP)), I .i64 p, .agg [.c (.sl 6 ws), .c (pI n), .c (pB g)]] [] (.c (.sl 3 ((l.map seaP).set p.toNat [.sl 6 ws, pI n, pB g]))) [] := by
 refine spec_am Try.func35 rfl rfl mix 15 rfl [.tmp 6] Try.results35 (Nat.le_of_ble_eq_true rfl) ?_
 (try (refine xst ?_; try exact xtI))
 refine caM [] (sea_clone l (by omega)) ?_
 (try (refine xst ?_; try exact xtI))
 exact xrz rfl
theorem ssaid_ok (l : List Sea) (o : Ord) (hl : l.length ≤ 9223372036854775807) (hs : ∀ s ∈ l, seaL s) (h : sayE l o = 0) : Spec Try.prog 9 [.c (.sl 3 (l.map seaP)), ordA o] [] (.tup [.c (.sl 3 ((sayV l o).map seaP)), I .i64 0]) [] := by
 have SC := seasR_s l hl hs
 have OC := oright_s o
 unfold sayE at h
 split at h
 ·rename_i h'; exact absurd h h'
 rename_i hE
 have hE : seasE l = 0 := by simpa using hE
 split at h
 ·rename_i h'; exact absurd h h'
 rename_i hO
 have hO : ordE o = 0 := by simpa using hO
 split at h
 ·simp at h
 rename_i hby
 split at h
 ·simp at h
 rename_i hg
 split at h
 ·simp at h
 rename_i hw
 have hb0 := (ordE_ok hO).1.1
 have hlt : o.by_.toNat < l.length := by omega
 have hl8 := (seasE_ok hE).2.1
 have hwl : (l.getD o.by_.toNat default).waits.length ≤ 50 := (seasE_ok hE).2.2.1 _ (by rw [getD_at _ _ hlt]; exact List.getElem_mem hlt)
 rw [hE] at SC
 rw [hO] at OC
 refine spec_am Try.func9 rfl rfl mix 65 rfl [.tmp 4, .tmp 5] Try.results9 (Nat.le_of_ble_eq_true rfl) ?_
 (try (refine xst ?_; try exact xtI))
 refine caP (SC) ?_
 (try (refine xst ?_; try exact xtI))
 refine cond_i (fun h1 => ?_) (fun h1 => ?_)
 ·(try replace h1 := xhh h1)
  (try (refine xst ?_; try exact xtI))
  refine caP (OC) ?_
  (try (refine xst ?_; try exact xtI))
  refine cond_i (fun h2 => ?_) (fun h2 => ?_)
  ·(try replace h2 := xhh h2)
   omega
  ·(try replace h2 := xhh h2)
   (iterate 2 ((try simp (etaStruct := .none) only [push_cast, DrawG, Int.cast_ofNat_Int, seval, getD_in _ _ _ hlt, seaP]); (try (refine xsu ?_; try exact xtI))))
   refine cond_i (fun h3 => ?_) (fun h3 => ?_)
   ·(try replace h3 := xhh h3)
    exact absurd h3 hg
   ·(try replace h3 := xhh h3)
    (iterate 2 ((try simp (etaStruct := .none) only [push_cast, DrawG, Int.cast_ofNat_Int, seval, getD_in _ _ _ hlt, seaP]); (try (refine xsu ?_; try exact xtI))))
    refine cond_i (fun h4 => ?_) (fun h4 => ?_)
    ·(try replace h4 := xhh h4)
     omega
    ·(try replace h4 := xhh h4)
     (iterate 2 ((try simp (etaStruct := .none) only [push_cast, DrawG, Int.cast_ofNat_Int, seval, getD_in _ _ _ hlt, seaP]); (try (refine xsu ?_; try exact xtI))))
     refine cond_i (fun h5 => ?_) (fun h5 => ?_)
     ·(try replace h5 := xhh h5)
      simp at h5
     ·(try replace h5 := xhh h5)
      (iterate 2 ((try simp (etaStruct := .none) only [push_cast, DrawG, Int.cast_ofNat_Int, seval, getD_in _ _ _ hlt, seaP]); (try (refine xsu ?_; try exact xtI))))
      refine caM [] (ord_clone (l.getD o.by_.toNat default).waits (hs _ (by rw [getD_at _ _ hlt]; exact List.getElem_mem hlt))) ?_
      (iterate 2 ((try simp (etaStruct := .none) only [push_cast, DrawG, Int.cast_ofNat_Int, seval, getD_in _ _ _ hlt, seaP]); (try (refine xsu ?_; try exact xtI))))
      (try (refine ⟨by kernel_rfl, ?_⟩))
      (iterate 2 ((try simp (etaStruct := .none) only [push_cast, DrawG, Int.cast_ofNat_Int, seval, getD_in _ _ _ hlt, seaP]); (try (refine xsu ?_; try exact xtI))))
      refine callM [22] (Spec.hand 0 (swith_s l o.by_ _ (l.getD o.by_.toNat default).late (l.getD o.by_.toNat default).gone (by omega) hb0 hlt) (Nat.zero_le _) rfl (by exact WkL.refl _) rfl) (WkL.refl _) rfl (by decide) (by simp [lookC_c]) ?_
      (iterate 2 ((try simp (etaStruct := .none) only [push_cast, DrawG, Int.cast_ofNat_Int, seval, getD_in _ _ _ hlt, seaP]); (try (refine xsu ?_; try exact xtI))))
      refine ret0 rfl (by repeat' (first | exact trivial | exact rfl | omega | refine ⟨?_, ?_⟩)) (Wk.tup ⟨Wk.of ?_, Wk.refl _, trivial⟩)
      unfold sayV
      rw [List.map_set]
      show AV.c (.sl 3 _) = _
      congr 3
      show [PV.sl 6 _, _, _] = [PV.sl 6 _, _, _]
      rw [List.map_append]; rfl
 ·(try replace h1 := xhh h1)
  simp at h1
theorem ssaid_b1a (l : List Sea) (o : Ord) (hl : l.length ≤ 9223372036854775807) (hs : ∀ s ∈ l, seaL s) (h : seasE l ≠ 0) (hlt : o.by_.toNat < l.length) : Spec Try.prog 9 [.c (.sl 3 (l.map seaP)), ordA o] [] (.tup [.c (.sl 3 (([] : List Sea).map seaP)), I .i64 (seasE l)]) [] := by
 have SC := seasR_s l hl hs
 have OC := oright_s o
 refine spec_am Try.func9 rfl rfl mix 65 rfl [.tmp 4, .tmp 5] Try.results9 (Nat.le_of_ble_eq_true rfl) ?_
 (iterate 2 ((try simp (etaStruct := .none) only [push_cast, DrawG, Int.cast_ofNat_Int, seval, h, getD_in _ _ _ hlt, seaP]); (try (refine xsu ?_; try exact xtI))))
 refine caP (SC) ?_
 (iterate 2 ((try simp (etaStruct := .none) only [push_cast, DrawG, Int.cast_ofNat_Int, seval, h, getD_in _ _ _ hlt, seaP]); (try (refine xsu ?_; try exact xtI))))
 refine cond_i (fun h1 => ?_) (fun h1 => ?_)
 ·(try replace h1 := xhh h1)
  simp at h1
 ·(try replace h1 := xhh h1)
  (iterate 2 ((try simp (etaStruct := .none) only [push_cast, DrawG, Int.cast_ofNat_Int, seval, h, getD_in _ _ _ hlt, seaP]); (try (refine xsu ?_; try exact xtI))))
  refine cond_i (fun h2 => ?_) (fun h2 => ?_)
  ·(try replace h2 := xhh h2)
   simp [h] at h2
  ·(try replace h2 := xhh h2)
   (iterate 2 ((try simp (etaStruct := .none) only [push_cast, DrawG, Int.cast_ofNat_Int, seval, h, getD_in _ _ _ hlt, seaP]); (try (refine xsu ?_; try exact xtI))))
   refine cond_i (fun h3 => ?_) (fun h3 => ?_)
   ·(try replace h3 := xhh h3)
    simp [h] at h3
   ·(try replace h3 := xhh h3)
    (iterate 2 ((try simp (etaStruct := .none) only [push_cast, DrawG, Int.cast_ofNat_Int, seval, h, getD_in _ _ _ hlt, seaP]); (try (refine xsu ?_; try exact xtI))))
    refine cond_i (fun h4 => ?_) (fun h4 => ?_)
    ·(try replace h4 := xhh h4)
     simp [h] at h4
    ·(try replace h4 := xhh h4)
     (iterate 2 ((try simp (etaStruct := .none) only [push_cast, DrawG, Int.cast_ofNat_Int, seval, h, getD_in _ _ _ hlt, seaP]); (try (refine xsu ?_; try exact xtI))))
     refine cond_i (fun h5 => ?_) (fun h5 => ?_)
     ·(try replace h5 := xhh h5)
      (iterate 2 ((try simp (etaStruct := .none) only [push_cast, DrawG, Int.cast_ofNat_Int, seval, h, getD_in _ _ _ hlt, seaP]); (try (refine xsu ?_; try exact xtI))))
      exact xrz rfl
     ·(try replace h5 := xhh h5)
      simp at h5
theorem ssaid_b1n (l : List Sea) (o : Ord) (hl : l.length ≤ 9223372036854775807) (hs : ∀ s ∈ l, seaL s) (h : seasE l ≠ 0) (hlt : ¬ o.by_.toNat < l.length) : Spec Try.prog 9 [.c (.sl 3 (l.map seaP)), ordA o] [] (.tup [.c (.sl 3 (([] : List Sea).map seaP)), I .i64 (seasE l)]) [] := by
 have SC := seasR_s l hl hs
 have OC := oright_s o
 have gd : (l.map seaP).getD o.by_.toNat [] = [] := by rw [List.getD_eq_getElem?_getD, List.getElem?_eq_none (by rw [List.length_map]; omega)]; rfl
 refine spec_am Try.func9 rfl rfl mix 65 rfl [.tmp 4, .tmp 5] Try.results9 (Nat.le_of_ble_eq_true rfl) ?_
 (iterate 2 ((try simp (etaStruct := .none) only [push_cast, DrawG, Int.cast_ofNat_Int, seval, h, gd]); (try (refine xsu ?_; try exact xtI))))
 refine caP (SC) ?_
 (iterate 2 ((try simp (etaStruct := .none) only [push_cast, DrawG, Int.cast_ofNat_Int, seval, h, gd]); (try (refine xsu ?_; try exact xtI))))
 refine cond_i (fun h1 => ?_) (fun h1 => ?_)
 ·(try replace h1 := xhh h1)
  simp at h1
 ·(try replace h1 := xhh h1)
  (iterate 2 ((try simp (etaStruct := .none) only [push_cast, DrawG, Int.cast_ofNat_Int, seval, h, gd]); (try (refine xsu ?_; try exact xtI))))
  refine cond_i (fun h2 => ?_) (fun h2 => ?_)
  ·(try replace h2 := xhh h2)
   simp [h] at h2
  ·(try replace h2 := xhh h2)
   (iterate 2 ((try simp (etaStruct := .none) only [push_cast, DrawG, Int.cast_ofNat_Int, seval, h, gd]); (try (refine xsu ?_; try exact xtI))))
   refine cond_i (fun h3 => ?_) (fun h3 => ?_)
   ·(try replace h3 := xhh h3)
    simp [h] at h3
   ·(try replace h3 := xhh h3)
    (iterate 2 ((try simp (etaStruct := .none) only [push_cast, DrawG, Int.cast_ofNat_Int, seval, h, gd]); (try (refine xsu ?_; try exact xtI))))
    refine cond_i (fun h4 => ?_) (fun h4 => ?_)
    ·(try replace h4 := xhh h4)
     simp [h] at h4
    ·(try replace h4 := xhh h4)
     (iterate 2 ((try simp (etaStruct := .none) only [push_cast, DrawG, Int.cast_ofNat_Int, seval, h, gd]); (try (refine xsu ?_; try exact xtI))))
     refine cond_i (fun h5 => ?_) (fun h5 => ?_)
     ·(try replace h5 := xhh h5)
      (iterate 2 ((try simp (etaStruct := .none) only [push_cast, DrawG, Int.cast_ofNat_Int, seval, h, gd]); (try (refine xsu ?_; try exact xtI))))
      exact xrz rfl
     ·(try replace h5 := xhh h5)
      simp at h5
theorem ssaid_b1 (l : List Sea) (o : Ord) (hl : l.length ≤ 9223372036854775807) (hs : ∀ s ∈ l, seaL s) (h : seasE l ≠ 0) : Spec Try.prog 9 [.c (.sl 3 (l.map seaP)), ordA o] [] (.tup [.c (.sl 3 (([] : List Sea).map seaP)), I .i64 (seasE l)]) [] := by
 by_cases hlt : o.by_.toNat < l.length
 ·exact ssaid_b1a l o hl hs h hlt
 ·exact ssaid_b1n l o hl hs h hlt
theorem ssaid_b2a (l : List Sea) (o : Ord) (hl : l.length ≤ 9223372036854775807) (hs : ∀ s ∈ l, seaL s) (hE : seasE l = 0) (h : ordE o ≠ 0) (hlt : o.by_.toNat < l.length) : Spec Try.prog 9 [.c (.sl 3 (l.map seaP)), ordA o] [] (.tup [.c (.sl 3 (([] : List Sea).map seaP)), I .i64 (ordE o)]) [] := by
 have SC := seasR_s l hl hs
 have OC := oright_s o
 rw [hE] at SC
 refine spec_am Try.func9 rfl rfl mix 65 rfl [.tmp 4, .tmp 5] Try.results9 (Nat.le_of_ble_eq_true rfl) ?_
 (iterate 2 ((try simp (etaStruct := .none) only [push_cast, DrawG, Int.cast_ofNat_Int, seval, h, getD_in _ _ _ hlt, seaP]); (try (refine xsu ?_; try exact xtI))))
 refine caP (SC) ?_
 (iterate 2 ((try simp (etaStruct := .none) only [push_cast, DrawG, Int.cast_ofNat_Int, seval, h, getD_in _ _ _ hlt, seaP]); (try (refine xsu ?_; try exact xtI))))
 refine cond_i (fun h1 => ?_) (fun h1 => ?_)
 ·(try replace h1 := xhh h1)
  (iterate 2 ((try simp (etaStruct := .none) only [push_cast, DrawG, Int.cast_ofNat_Int, seval, h, getD_in _ _ _ hlt, seaP]); (try (refine xsu ?_; try exact xtI))))
  refine caP (OC) ?_
  (iterate 2 ((try simp (etaStruct := .none) only [push_cast, DrawG, Int.cast_ofNat_Int, seval, h, getD_in _ _ _ hlt, seaP]); (try (refine xsu ?_; try exact xtI))))
  refine cond_i (fun h2 => ?_) (fun h2 => ?_)
  ·(try replace h2 := xhh h2)
   simp [h] at h2
  ·(try replace h2 := xhh h2)
   (iterate 2 ((try simp (etaStruct := .none) only [push_cast, DrawG, Int.cast_ofNat_Int, seval, h, getD_in _ _ _ hlt, seaP]); (try (refine xsu ?_; try exact xtI))))
   refine cond_i (fun h3 => ?_) (fun h3 => ?_)
   ·(try replace h3 := xhh h3)
    simp [h] at h3
   ·(try replace h3 := xhh h3)
    (iterate 2 ((try simp (etaStruct := .none) only [push_cast, DrawG, Int.cast_ofNat_Int, seval, h, getD_in _ _ _ hlt, seaP]); (try (refine xsu ?_; try exact xtI))))
    refine cond_i (fun h4 => ?_) (fun h4 => ?_)
    ·(try replace h4 := xhh h4)
     simp [h] at h4
    ·(try replace h4 := xhh h4)
     (iterate 2 ((try simp (etaStruct := .none) only [push_cast, DrawG, Int.cast_ofNat_Int, seval, h, getD_in _ _ _ hlt, seaP]); (try (refine xsu ?_; try exact xtI))))
     refine cond_i (fun h5 => ?_) (fun h5 => ?_)
     ·(try replace h5 := xhh h5)
      (iterate 2 ((try simp (etaStruct := .none) only [push_cast, DrawG, Int.cast_ofNat_Int, seval, h, getD_in _ _ _ hlt, seaP]); (try (refine xsu ?_; try exact xtI))))
      exact xrz rfl
     ·(try replace h5 := xhh h5)
      simp at h5
 ·(try replace h1 := xhh h1)
  simp at h1
theorem ssaid_b2n (l : List Sea) (o : Ord) (hl : l.length ≤ 9223372036854775807) (hs : ∀ s ∈ l, seaL s) (hE : seasE l = 0) (h : ordE o ≠ 0) (hlt : ¬ o.by_.toNat < l.length) : Spec Try.prog 9 [.c (.sl 3 (l.map seaP)), ordA o] [] (.tup [.c (.sl 3 (([] : List Sea).map seaP)), I .i64 (ordE o)]) [] := by
 have SC := seasR_s l hl hs
 have OC := oright_s o
 rw [hE] at SC
 have gd : (l.map seaP).getD o.by_.toNat [] = [] := by rw [List.getD_eq_getElem?_getD, List.getElem?_eq_none (by rw [List.length_map]; omega)]; rfl
 refine spec_am Try.func9 rfl rfl mix 65 rfl [.tmp 4, .tmp 5] Try.results9 (Nat.le_of_ble_eq_true rfl) ?_
 (iterate 2 ((try simp (etaStruct := .none) only [push_cast, DrawG, Int.cast_ofNat_Int, seval, h, gd]); (try (refine xsu ?_; try exact xtI))))
 refine caP (SC) ?_
 (iterate 2 ((try simp (etaStruct := .none) only [push_cast, DrawG, Int.cast_ofNat_Int, seval, h, gd]); (try (refine xsu ?_; try exact xtI))))
 refine cond_i (fun h1 => ?_) (fun h1 => ?_)
 ·(try replace h1 := xhh h1)
  (iterate 2 ((try simp (etaStruct := .none) only [push_cast, DrawG, Int.cast_ofNat_Int, seval, h, gd]); (try (refine xsu ?_; try exact xtI))))
  refine caP (OC) ?_
  (iterate 2 ((try simp (etaStruct := .none) only [push_cast, DrawG, Int.cast_ofNat_Int, seval, h, gd]); (try (refine xsu ?_; try exact xtI))))
  refine cond_i (fun h2 => ?_) (fun h2 => ?_)
  ·(try replace h2 := xhh h2)
   simp [h] at h2
  ·(try replace h2 := xhh h2)
   (iterate 2 ((try simp (etaStruct := .none) only [push_cast, DrawG, Int.cast_ofNat_Int, seval, h, gd]); (try (refine xsu ?_; try exact xtI))))
   refine cond_i (fun h3 => ?_) (fun h3 => ?_)
   ·(try replace h3 := xhh h3)
    simp [h] at h3
   ·(try replace h3 := xhh h3)
    (iterate 2 ((try simp (etaStruct := .none) only [push_cast, DrawG, Int.cast_ofNat_Int, seval, h, gd]); (try (refine xsu ?_; try exact xtI))))
    refine cond_i (fun h4 => ?_) (fun h4 => ?_)
    ·(try replace h4 := xhh h4)
     simp [h] at h4
    ·(try replace h4 := xhh h4)
     (iterate 2 ((try simp (etaStruct := .none) only [push_cast, DrawG, Int.cast_ofNat_Int, seval, h, gd]); (try (refine xsu ?_; try exact xtI))))
     refine cond_i (fun h5 => ?_) (fun h5 => ?_)
     ·(try replace h5 := xhh h5)
      (iterate 2 ((try simp (etaStruct := .none) only [push_cast, DrawG, Int.cast_ofNat_Int, seval, h, gd]); (try (refine xsu ?_; try exact xtI))))
      exact xrz rfl
     ·(try replace h5 := xhh h5)
      simp at h5
 ·(try replace h1 := xhh h1)
  simp at h1
theorem ssaid_b2 (l : List Sea) (o : Ord) (hl : l.length ≤ 9223372036854775807) (hs : ∀ s ∈ l, seaL s) (hE : seasE l = 0) (h : ordE o ≠ 0) : Spec Try.prog 9 [.c (.sl 3 (l.map seaP)), ordA o] [] (.tup [.c (.sl 3 (([] : List Sea).map seaP)), I .i64 (ordE o)]) [] := by
 by_cases hlt : o.by_.toNat < l.length
 ·exact ssaid_b2a l o hl hs hE h hlt
 ·exact ssaid_b2n l o hl hs hE h hlt
theorem ssaid_b3 (l : List Sea) (o : Ord) (hl : l.length ≤ 9223372036854775807) (hs : ∀ s ∈ l, seaL s) (hE : seasE l = 0) (hO : ordE o = 0) (h : (l.length : Int) ≤ o.by_) : Spec Try.prog 9 [.c (.sl 3 (l.map seaP)), ordA o] [] (.tup [.c (.sl 3 (([] : List Sea).map seaP)), I .i64 7]) [] := by
 have SC := seasR_s l hl hs
 have OC := oright_s o
 rw [hE] at SC
 rw [hO] at OC
 have gd : (l.map seaP).getD o.by_.toNat [] = [] := by rw [List.getD_eq_getElem?_getD, List.getElem?_eq_none (by rw [List.length_map]; omega)]; rfl
 refine spec_am Try.func9 rfl rfl mix 65 rfl [.tmp 4, .tmp 5] Try.results9 (Nat.le_of_ble_eq_true rfl) ?_
 (iterate 2 ((try simp (etaStruct := .none) only [push_cast, DrawG, Int.cast_ofNat_Int, seval, gd]); (try (refine xsu ?_; try exact xtI))))
 refine caP (SC) ?_
 (iterate 2 ((try simp (etaStruct := .none) only [push_cast, DrawG, Int.cast_ofNat_Int, seval, gd]); (try (refine xsu ?_; try exact xtI))))
 refine cond_i (fun h1 => ?_) (fun h1 => ?_)
 ·(try replace h1 := xhh h1)
  (iterate 2 ((try simp (etaStruct := .none) only [push_cast, DrawG, Int.cast_ofNat_Int, seval, gd]); (try (refine xsu ?_; try exact xtI))))
  refine caP (OC) ?_
  (iterate 2 ((try simp (etaStruct := .none) only [push_cast, DrawG, Int.cast_ofNat_Int, seval, gd]); (try (refine xsu ?_; try exact xtI))))
  refine cond_i (fun h2 => ?_) (fun h2 => ?_)
  ·(try replace h2 := xhh h2)
   (iterate 2 ((try simp (etaStruct := .none) only [push_cast, DrawG, Int.cast_ofNat_Int, seval, gd]); (try (refine xsu ?_; try exact xtI))))
   refine cond_i (fun h3 => ?_) (fun h3 => ?_)
   ·(try replace h3 := xhh h3)
    simp at h3
   ·(try replace h3 := xhh h3)
    (iterate 2 ((try simp (etaStruct := .none) only [push_cast, DrawG, Int.cast_ofNat_Int, seval, gd]); (try (refine xsu ?_; try exact xtI))))
    refine cond_i (fun h4 => ?_) (fun h4 => ?_)
    ·(try replace h4 := xhh h4)
     simp at h4
    ·(try replace h4 := xhh h4)
     (iterate 2 ((try simp (etaStruct := .none) only [push_cast, DrawG, Int.cast_ofNat_Int, seval, gd]); (try (refine xsu ?_; try exact xtI))))
     refine cond_i (fun h5 => ?_) (fun h5 => ?_)
     ·(try replace h5 := xhh h5)
      (iterate 2 ((try simp (etaStruct := .none) only [push_cast, DrawG, Int.cast_ofNat_Int, seval, gd]); (try (refine xsu ?_; try exact xtI))))
      exact xrz rfl
     ·(try replace h5 := xhh h5)
      simp at h5
  ·(try replace h2 := xhh h2)
   omega
 ·(try replace h1 := xhh h1)
  simp at h1
theorem ssaid_b4 (l : List Sea) (o : Ord) (hl : l.length ≤ 9223372036854775807) (hs : ∀ s ∈ l, seaL s) (hE : seasE l = 0) (hO : ordE o = 0) (h : ¬ (l.length : Int) ≤ o.by_) (hg : (l.getD o.by_.toNat default).gone = true) : Spec Try.prog 9 [.c (.sl 3 (l.map seaP)), ordA o] [] (.tup [.c (.sl 3 (([] : List Sea).map seaP)), I .i64 9]) [] := by
 have SC := seasR_s l hl hs
 have OC := oright_s o
 rw [hE] at SC
 rw [hO] at OC
 have hb0 := (ordE_ok hO).1.1
 have hlt : o.by_.toNat < l.length := by omega
 refine spec_am Try.func9 rfl rfl mix 65 rfl [.tmp 4, .tmp 5] Try.results9 (Nat.le_of_ble_eq_true rfl) ?_
 (try (refine xst ?_; try exact xtI))
 refine caP (SC) ?_
 (try (refine xst ?_; try exact xtI))
 refine cond_i (fun h1 => ?_) (fun h1 => ?_)
 ·(try replace h1 := xhh h1)
  (try (refine xst ?_; try exact xtI))
  refine caP (OC) ?_
  (try (refine xst ?_; try exact xtI))
  refine cond_i (fun h2 => ?_) (fun h2 => ?_)
  ·(try replace h2 := xhh h2)
   omega
  ·(try replace h2 := xhh h2)
   (iterate 2 ((try simp (etaStruct := .none) only [push_cast, DrawG, Int.cast_ofNat_Int, seval, getD_in _ _ _ hlt, seaP]); (try (refine xsu ?_; try exact xtI))))
   refine cond_i (fun h3 => ?_) (fun h3 => ?_)
   ·(try replace h3 := xhh h3)
    (iterate 2 ((try simp (etaStruct := .none) only [push_cast, DrawG, Int.cast_ofNat_Int, seval, getD_in _ _ _ hlt, seaP]); (try (refine xsu ?_; try exact xtI))))
    refine cond_i (fun h4 => ?_) (fun h4 => ?_)
    ·(try replace h4 := xhh h4)
     simp at h4
    ·(try replace h4 := xhh h4)
     (iterate 2 ((try simp (etaStruct := .none) only [push_cast, DrawG, Int.cast_ofNat_Int, seval, getD_in _ _ _ hlt, seaP]); (try (refine xsu ?_; try exact xtI))))
     refine cond_i (fun h5 => ?_) (fun h5 => ?_)
     ·(try replace h5 := xhh h5)
      (iterate 2 ((try simp (etaStruct := .none) only [push_cast, DrawG, Int.cast_ofNat_Int, seval, getD_in _ _ _ hlt, seaP]); (try (refine xsu ?_; try exact xtI))))
      exact xrz rfl
     ·(try replace h5 := xhh h5)
      simp at h5
   ·(try replace h3 := xhh h3)
    rw [hg] at h3; simp at h3
 ·(try replace h1 := xhh h1)
  simp at h1
theorem ssaid_b5 (l : List Sea) (o : Ord) (hl : l.length ≤ 9223372036854775807) (hs : ∀ s ∈ l, seaL s) (hE : seasE l = 0) (hO : ordE o = 0) (h : ¬ (l.length : Int) ≤ o.by_) (hg : (l.getD o.by_.toNat default).gone = false) (hw : (l.getD o.by_.toNat default).waits.length = 50) : Spec Try.prog 9 [.c (.sl 3 (l.map seaP)), ordA o] [] (.tup [.c (.sl 3 (([] : List Sea).map seaP)), I .i64 6]) [] := by
 have SC := seasR_s l hl hs
 have OC := oright_s o
 rw [hE] at SC
 rw [hO] at OC
 have hb0 := (ordE_ok hO).1.1
 have hlt : o.by_.toNat < l.length := by omega
 refine spec_am Try.func9 rfl rfl mix 65 rfl [.tmp 4, .tmp 5] Try.results9 (Nat.le_of_ble_eq_true rfl) ?_
 (try (refine xst ?_; try exact xtI))
 refine caP (SC) ?_
 (try (refine xst ?_; try exact xtI))
 refine cond_i (fun h1 => ?_) (fun h1 => ?_)
 ·(try replace h1 := xhh h1)
  (try (refine xst ?_; try exact xtI))
  refine caP (OC) ?_
  (try (refine xst ?_; try exact xtI))
  refine cond_i (fun h2 => ?_) (fun h2 => ?_)
  ·(try replace h2 := xhh h2)
   omega
  ·(try replace h2 := xhh h2)
   (iterate 2 ((try simp (etaStruct := .none) only [push_cast, DrawG, Int.cast_ofNat_Int, seval, getD_in _ _ _ hlt, seaP]); (try (refine xsu ?_; try exact xtI))))
   refine cond_i (fun h3 => ?_) (fun h3 => ?_)
   ·(try replace h3 := xhh h3)
    rw [hg] at h3; simp at h3
   ·(try replace h3 := xhh h3)
    (iterate 2 ((try simp (etaStruct := .none) only [push_cast, DrawG, Int.cast_ofNat_Int, seval, getD_in _ _ _ hlt, seaP]); (try (refine xsu ?_; try exact xtI))))
    refine cond_i (fun h4 => ?_) (fun h4 => ?_)
    ·(try replace h4 := xhh h4)
     (iterate 2 ((try simp (etaStruct := .none) only [push_cast, DrawG, Int.cast_ofNat_Int, seval, getD_in _ _ _ hlt, seaP]); (try (refine xsu ?_; try exact xtI))))
     refine cond_i (fun h5 => ?_) (fun h5 => ?_)
     ·(try replace h5 := xhh h5)
      (iterate 2 ((try simp (etaStruct := .none) only [push_cast, DrawG, Int.cast_ofNat_Int, seval, getD_in _ _ _ hlt, seaP]); (try (refine xsu ?_; try exact xtI))))
      exact xrz rfl
     ·(try replace h5 := xhh h5)
      simp at h5
    ·(try replace h4 := xhh h4)
     omega
 ·(try replace h1 := xhh h1)
  simp at h1
theorem ssaid_s (l : List Sea) (o : Ord) (hl : l.length ≤ 9223372036854775807) (hs : ∀ s ∈ l, seaL s) : Spec Try.prog 9 [.c (.sl 3 (l.map seaP)), ordA o] [] (.tup [.c (.sl 3 ((if sayE l o = 0 then sayV l o else []).map seaP)), I .i64 (sayE l o)]) [] := by
 rcases sayE_cases l o with h | ⟨h1, h⟩ | ⟨h1, h2, h⟩ | ⟨h1, h2, h3, h⟩ | ⟨h1, h2, h3, h4, h⟩ | ⟨h1, h2, h3, h4, h5, h⟩
 ·rw [if_pos h]; rw [h]; exact ssaid_ok l o hl hs h
 ·rw [if_neg (by omega), h]; exact ssaid_b1 l o hl hs h1
 ·rw [if_neg (by omega), h]; exact ssaid_b2 l o hl hs h1 h2
 ·rw [if_neg (by omega), h]; exact ssaid_b3 l o hl hs h1 h2 h3
 ·rw [if_neg (by omega), h]; exact ssaid_b4 l o hl hs h1 h2 h3 h4
 ·rw [if_neg (by omega), h]; exact ssaid_b5 l o hl hs h1 h2 h3 h4 h5
end Go.Proofs.Ytdkmndimmpilaaa
namespace Go.Proofs.Ytdkmndimmpilaaa
set_option linter.all false
open Go.RowKit Go.ChangeShapes Go.WideShapes Go.ChangeAt
def RelCs (w : World) (ps : List PV) (cs : List Value) : Prop := ∀ (j : Nat) p u, ps[j]? = some p → cs[j]? = some u → RelP w (· < w.heap.size) p u
theorem RelCs.nil {w : World} : RelCs w [] [] := fun j p u h => by simp at h
theorem RelCs.cons {w : World} {p : PV} {u : Value} {ps : List PV} {cs : List Value} (h : RelP w (· < w.heap.size) p u) (h' : RelCs w ps cs) : RelCs w (p :: ps) (u :: cs) := by
 intro j q v h1 h2
 cases j with
 | zero => simp at h1 h2; subst h1 h2; exact h
 | succ j => exact h' j q v (by simpa using h1) (by simpa using h2)
theorem RelCs.append {w : World} : ∀ {ps qs : List PV} {cs ds : List Value}, ps.length = cs.length → RelCs w ps cs → RelCs w qs ds → RelCs w (ps ++ qs) (cs ++ ds)
 | [], _, [], _, _, _, h => h
 | [], _, _ :: _, _, hl, _, _ => by simp at hl
 | _ :: _, _, [], _, hl, _, _ => by simp at hl
 | p :: ps, qs, c :: cs, ds, hl, h, h' => by
  refine RelCs.cons (h 0 p c rfl rfl) (RelCs.append (by simpa using hl) (fun j q v h1 h2 => h (j + 1) q v (by simpa using h1) (by simpa using h2)) h')
def OpA (P : Program) (T sz : Nat) (w : World) {α : Type} (pv : α → List PV) (ok : α → Prop) : Prop :=
 ∃ (β : Type) (enc : β → List Value) (okb : β → Prop) (f : β → α), Opens P T sz w enc okb ∧ ∀ y, okb y → ok (f y) ∧ (pv (f y)).length = sz ∧ (enc y).length = sz ∧ RelCs w (pv (f y)) (enc y)
section
variable {P : Program} {T : Nat} {w : World}
theorem OpA.i64 (h : P.underlying T = some (.int .i64)) : OpA P T 1 w i64P In64 :=
 ⟨_, _, _, id, Opens.i64 h, fun y hy => ⟨hy, rfl, rfl, .cons (relP_v rfl) .nil⟩⟩
theorem OpA.u64 (h : P.underlying T = some (.int .u64)) : OpA P T 1 w u64P (fun n => n < 18446744073709551616) :=
 ⟨_, _, _, id, Opens.u64 h, fun y hy => ⟨hy, rfl, rfl, .cons (relP_v rfl) .nil⟩⟩
def u32P (n : Nat) : List PV := [.v (.int .u32 n)]
theorem OpA.u32 (h : P.underlying T = some (.int .u32)) : OpA P T 1 w u32P (fun n => n < 4294967296) :=
 ⟨_, _, _, id, Opens.u32 h, fun y hy => ⟨hy, rfl, rfl, .cons (relP_v rfl) .nil⟩⟩
theorem OpA.bool (h : P.underlying T = some .bool) : OpA P T 1 w boolP (fun _ => True) :=
 ⟨_, _, _, id, Opens.bool h, fun y hy => ⟨hy, rfl, rfl, .cons (relP_v rfl) .nil⟩⟩
theorem OpA.str (h : P.underlying T = some .string) : OpA P T 1 w strP (fun s => s.size ≤ 140737488351232) :=
 ⟨_, _, _, id, Opens.str h, fun y hy => ⟨hy, rfl, rfl, .cons (relP_v rfl) .nil⟩⟩
theorem OpA.map {sz : Nat} {α β : Type} {pv : α → List PV} {ok : α → Prop} {pv' : β → List PV} {ok' : β → Prop} (h : OpA P T sz w pv ok) (f : α → β) (hf : ∀ x, pv' (f x) = pv x) (hok : ∀ x, ok x → ok' (f x)) : OpA P T sz w pv' ok' := by
 obtain ⟨γ, enc, okb, g, h1, h2⟩ := h
 exact ⟨γ, enc, okb, fun y => f (g y), h1, fun y hy => by obtain ⟨a, b, c, d⟩ := h2 y hy; exact ⟨hok _ a, by rw [hf]; exact b, c, by rw [hf]; exact d⟩⟩
theorem OpA.slice {E sz bts : Nat} {α : Type} {pv : α → List PV} {ok : α → Prop} (hT : P.underlying T = some (.slice E)) (hc : P.cellsOf E = sz) (hsz : 0 < sz) (hby : P.bytesOf E = bts) (hE : OpA P E sz w pv ok) :
 OpA P T 1 w (fun xs : List α => [.sl sz (xs.map pv)]) (fun xs => (∀ x ∈ xs, ok x) ∧ xs.length * bts ≤ 140737488351232 ∧ xs.length ≤ 9223372036854775807) := by
 obtain ⟨γ, enc, okb, g, h1, h2⟩ := hE
 refine ⟨_, _, _, fun s => s.xs.map g, Opens.slice hT hc hsz hby h1, fun s hs => ⟨⟨?_, ?_, ?_⟩, rfl, rfl, ?_⟩⟩
 ·intro x hx
  obtain ⟨y, hy, rfl⟩ := List.mem_map.1 hx
  exact (h2 y (hs.each y hy).1).1
 ·have := hs.reach
  have h3 : s.xs.length * bts ≤ s.c * bts := Nat.mul_le_mul_right _ hs.cap
  simp only [List.length_map]; omega
 ·have h3 := hs.cap; have h4 := hs.max; unfold maxLen at h4; simp only [List.length_map]; omega
 ·refine .cons ?_ .nil
  have := rel_sl (pv := fun y => pv (g y)) hs fun y hy ho => by
   obtain ⟨_, a, b, d⟩ := h2 y ho
   exact ⟨a, d⟩
  simpa [List.map_map, Function.comp_def] using this
def OpAF (P : Program) (w : World) (fs : List Field) (o sz : Nat) {α : Type} (pv : α → List PV) (ok : α → Prop) : Prop :=
 ∃ (β : Type) (enc : β → List Value) (okb : β → Prop) (f : β → α), OpensF P w fs o sz enc okb ∧ ∀ y, okb y → ok (f y) ∧ (pv (f y)).length = sz ∧ (enc y).length = sz ∧ RelCs w (pv (f y)) (enc y)
theorem OpAF.nil {o : Nat} : OpAF P w [] o 0 (fun _ : Unit => []) (fun _ => True) :=
 ⟨_, _, _, id, OpensF.nil, fun y hy => ⟨trivial, rfl, rfl, .nil⟩⟩
theorem OpAF.cons {f : Field} {fs : List Field} {o n sz : Nat} {α β : Type} {pv : α → List PV} {ok : α → Prop} {pv' : β → List PV} {ok' : β → Prop}
 (ho : f.offset = o) (hn : P.cellsOf f.type = n) (h : OpA P f.type n w pv ok) (h' : OpAF P w fs (o + n) sz pv' ok') :
 OpAF P w (f :: fs) o (n + sz) (fun x : α × β => pv x.1 ++ pv' x.2) (fun x => ok x.1 ∧ ok' x.2) := by
 obtain ⟨γ, enc, okb, g, h1, h2⟩ := h
 obtain ⟨γ', enc', okb', g', h1', h2'⟩ := h'
 refine ⟨_, _, _, fun y => (g y.1, g' y.2), OpensF.cons ho hn h1 h1', fun y hy => ?_⟩
 obtain ⟨a, b, c, d⟩ := h2 y.1 hy.1
 obtain ⟨a', b', c', d'⟩ := h2' y.2 hy.2
 exact ⟨⟨a, a'⟩, by simp [b, b'], by simp [c, c'], .append (by rw [b, c]) d d'⟩
theorem OpA.struct {sz : Nat} {fs : Array Field} {α : Type} {pv : α → List PV} {ok : α → Prop} (hT : P.underlying T = some (.struct fs)) (hc : P.cellsOf T = sz) (h : OpAF P w fs.toList 0 sz pv ok) : OpA P T sz w pv ok := by
 obtain ⟨γ, enc, okb, g, h1, h2⟩ := h
 exact ⟨γ, enc, okb, g, Opens.struct hT hc h1, h2⟩
theorem OpA.arg {sz : Nat} {α : Type} {pv : α → List PV} {ok : α → Prop} (h : OpA P T sz w pv ok) {H : Type} {eH : TypeId × Value → H} {v : Value} {d : DataW H} {p : List MemPlace}
 (hT : DataW.Trod eH P w 0 (fun _ => true) true T v d p) {ts : List TypeId} {ds : List (DataW H)} (hz : (DataW.weightsEach P ts ds).all (· ≤ reachBytes) = true) (j : Nat) (h1 : ts[j]? = some T) (h2 : ds[j]? = some d) : ∃ x : α, ok x ∧ (pv x).length = v.cells.toList.length ∧ RelCs w (pv x) v.cells.toList := by
 obtain ⟨γ, enc, okb, g, k1, k2⟩ := h
 obtain ⟨y, hy, ho⟩ := Opens.arg k1 hT hz j h1 h2
 obtain ⟨a, b, c, e⟩ := k2 y ho
 exact ⟨g y, a, by rw [hy, b, c], by rw [hy]; exact e⟩
theorem rel_one {p : PV} {v : Value} (hv : v.cells = #[v]) (hr : RelCs w [p] v.cells.toList) : RelA (· < 0) w (· < w.heap.size) (fun _ => none) (.c p) v :=
 relA_c (hr 0 p v rfl (by rw [hv]; rfl))
theorem relL_of_cs {U : Nat → Prop} {β : Nat → Option Bind} : ∀ {ps : List PV} {cs : List Value}, ps.length = cs.length → RelCs w ps cs → RelL U w (· < w.heap.size) β (ps.map .c) cs
 | [], [], _, _ => relL_nil
 | [], _ :: _, h, _ => by simp at h
 | _ :: _, [], h, _ => by simp at h
 | p :: ps, c :: cs, h, hr => by
  rw [List.map_cons]
  exact relL_cons (relA_c (hr 0 p c rfl rfl)) (relL_of_cs (by simpa using h) fun j q v h1 h2 => hr (j + 1) q v (by simpa using h1) (by simpa using h2))
theorem rel_agg {ps : List PV} {v : Value} {cs : List Value} (hv : v = .agg cs.toArray) (hl : ps.length = v.cells.toList.length) (hr : RelCs w ps v.cells.toList) : RelA (· < 0) w (· < w.heap.size) (fun _ => none) (.agg (ps.map .c)) v := by
 subst hv
 have e : (Value.agg cs.toArray).cells.toList = cs := rfl
 rw [e] at hl hr
 refine relA_agg (relL_of_cs hl hr) fun x hx => ?_
 obtain ⟨j, hj, rfl⟩ := List.getElem_of_mem hx
 exact (hr j ps[j] cs[j] (by simp) (by simp)).one
theorem one_slice {base e : Nat} {v : Value} (ht : P.underlying T = some (.slice e)) (h : Value.okWide P w .any base T v) : v.cells = #[v] := by obtain ⟨a, l, c, rfl⟩ := okWide_slice ht h; rfl
theorem one_int {base : Nat} {k : IntKind} {v : Value} (ht : P.underlying T = some (.int k)) (h : Value.okWide P w .any base T v) : v.cells = #[v] := by obtain ⟨n, rfl⟩ := okWide_int ht h; rfl
end
end Go.Proofs.Ytdkmndimmpilaaa
