/- Lemmas for the proof of tickSays.proved. -/
import Derived.Test.YthiddmncjafklaaGreatTickSaysM4
namespace Go.Proofs.YthiddmncjafklaaGreat
set_option linter.all false
open Go.RowKit
set_option maxRecDepth 100000
set_option maxHeartbeats 2000000
def ordBad (o : Ord) : Bool := !within o.by_ 0 7 || !within o.kind 1 5 || !within o.who 0 1000000 || !nearB o.c || !within o.what 0 1000000
def ordForm (o : Ord) : Bool := decide (o.kind = 5 ∧ o.who ≠ 0) || decide (o.kind ≠ 2 ∧ o.kind ≠ 3 ∧ ¬ (o.c.x = 0 ∧ o.c.y = 0)) || decide (o.kind ≠ 1 ∧ o.kind ≠ 5 ∧ o.what ≠ 0)
def ordE (o : Ord) : Int := if ordBad o then 1 else if ordForm o then 4 else 0
theorem ordE_ok {o : Ord} (h : ordE o = 0) : (0 ≤ o.by_ ∧ o.by_ ≤ 7) ∧ (1 ≤ o.kind ∧ o.kind ≤ 5) ∧ (0 ≤ o.who ∧ o.who ≤ 1000000) ∧ (-1000 ≤ o.c.x ∧ o.c.x ≤ 1000 ∧ -1000 ≤ o.c.y ∧ o.c.y ≤ 1000) ∧ (0 ≤ o.what ∧ o.what ≤ 1000000) ∧
 (o.kind = 5 → o.who = 0) ∧ (o.kind ≠ 2 → o.kind ≠ 3 → o.c = ⟨0, 0⟩) ∧ (o.kind ≠ 1 → o.kind ≠ 5 → o.what = 0) := by
 unfold ordE at h
 split at h
 ·simp at h
 ·rename_i h1
  split at h
  ·simp at h
  ·rename_i h2
   simp only [ordBad, Bool.or_eq_true, Bool.not_eq_true', not_or, Bool.not_eq_false, within_iff, nearB, decide_eq_true_eq] at h1
   simp only [ordForm, Bool.or_eq_true, decide_eq_true_eq, not_or] at h2
   obtain ⟨⟨⟨⟨a1, a2⟩, a3⟩, a4⟩, a5⟩ := h1
   refine ⟨a1, a2, a3, a4, a5, fun h => by omega, fun h h' => ?_, fun h h' => by omega⟩
   have : o.c.x = 0 ∧ o.c.y = 0 := by omega
   cases hc : o.c; rw [hc] at this; simp at this; rw [this.1, this.2]
def firstE : List Ord → Int
 | [] => 0
 | o :: r => if ordE o ≠ 0 then ordE o else firstE r
theorem firstE_at : ∀ (l : List Ord) (k : Nat), k < l.length → firstE (l.drop k) = if ordE (l.getD k default) ≠ 0 then ordE (l.getD k default) else firstE (l.drop (k + 1)) := by
 intro l k hk
 rw [List.drop_eq_getElem_cons hk, getD_at _ _ hk]; rfl
theorem firstE_drop (l : List Ord) : ∀ k, k ≤ l.length → (∀ j, j < k → ordE (l.getD j default) = 0) → firstE l = firstE (l.drop k)
 | 0, _, _ => by simp
 | k + 1, hk, h => by
  rw [firstE_drop l k (by omega) fun j hj => h j (by omega), firstE_at l k (by omega), if_neg (fun h' => h' (h k (by omega)))]
theorem firstE_ok : ∀ (l : List Ord), firstE l = 0 → ∀ o ∈ l, ordE o = 0
 | [], _, o, ho => by simp at ho
 | a :: r, h, o, ho => by
  unfold firstE at h
  split at h
  ·rename_i h1; exact absurd h h1
  ·rename_i h1
   rcases List.mem_cons.1 ho with rfl | ho
   ·exact Decidable.not_not.1 h1
   ·exact firstE_ok r h o ho
def ordsE (l : List Ord) : Int := if 100 < l.length then 2 else firstE l
theorem ordsE_ok {l : List Ord} (h : ordsE l = 0) : l.length ≤ 100 ∧ ∀ o ∈ l, ordE o = 0 := by
 unfold ordsE at h
 split at h
 ·simp at h
 ·rename_i h1; exact ⟨by omega, firstE_ok l h⟩
def bareV (o : Ord) : Ord := ⟨o.by_, o.kind, if o.kind = 5 then 0 else o.who, if o.kind ≠ 2 ∧ o.kind ≠ 3 then ⟨0, 0⟩ else o.c, if o.kind ≠ 1 ∧ o.kind ≠ 5 then 0 else o.what⟩
theorem ord_dec (a b : Ord) : (decide (a.by_ = b.by_) && (decide (a.kind = b.kind) && (decide (a.who = b.who) && (decide (a.c.x = b.c.x) && (decide (a.c.y = b.c.y) && decide (a.what = b.what)))))) = decide (a = b) := by
 rw [Bool.eq_iff_iff]; obtain ⟨_, _, _, ⟨_, _⟩, _⟩ := a; obtain ⟨_, _, _, ⟨_, _⟩, _⟩ := b; simp [and_assoc]
theorem bare_form (o : Ord) : decide (bareV o = o) = !ordForm o := by
 obtain ⟨b, k, w, ⟨x, y⟩, t⟩ := o
 unfold bareV ordForm
 rw [Bool.eq_iff_iff]
 simp only [decide_eq_true_eq, Bool.not_eq_true', Bool.or_eq_false_iff, decide_eq_false_iff_not, Ord.mk.injEq, true_and]
 constructor
 ·rintro ⟨h1, h2, h3⟩
  refine ⟨⟨fun h => ?_, fun h => ?_⟩, fun h => ?_⟩
  ·rw [if_pos h.1] at h1; omega
  ·rw [if_pos ⟨h.1, h.2.1⟩] at h2; simp at h2; omega
  ·rw [if_pos ⟨h.1, h.2.1⟩] at h3; omega
 ·rintro ⟨⟨h1, h2⟩, h3⟩
  refine ⟨?_, ?_, ?_⟩
  ·split <;> omega
  ·split
   ·simp; omega
   ·rfl
  ·split <;> omega
theorem near_within (c : Cel) : (!within c.x (-1000) 1000 || !within c.y (-1000) 1000) = !nearB c := by
 unfold within nearB
 rw [Bool.eq_iff_iff]; simp; omega
theorem owithin_s (n a b : Int) : Spec Tryz.prog 124 [I .i64 n, I .i64 a, I .i64 b] [] (B (within n a b)) [] := by
 refine spec_am Tryz.func124 rfl rfl mix 15 rfl [.tmp 6] Tryz.results124 (Nat.le_of_ble_eq_true rfl) ?_
 (try (refine xst ?_; try exact xtI))
 exact ret0 rfl trivial (Wk.of (congrArg B (by unfold within; first | rfl | simp)))
theorem bare_o (o : Ord) : Spec Tryz.prog 125 [ordA o] [] (ordA (bareV o)) [] := by
 refine spec_am Tryz.func125 rfl rfl mix 27 rfl [.cell 2 96] Tryz.results125 (Nat.le_of_ble_eq_true rfl) ?_
 (try (refine xst ?_; try exact xtI))
 refine cond_i (fun h1 => ?_) (fun h1 => ?_)
 ·(try replace h1 := xhh h1)
  (try (refine xst ?_; try exact xtI))
  refine cond_i (fun h2 => ?_) (fun h2 => ?_)
  ·(try replace h2 := xhh h2)
   (try (refine xst ?_; try exact xtI))
   refine cond_i (fun h3 => ?_) (fun h3 => ?_)
   ·(try replace h3 := xhh h3)
    (try (refine xst ?_; try exact xtI))
    (first | (refine retA rfl (Wk.of ?_); (try simp (etaStruct := .none) only [push_cast, DrawG, Int.cast_ofNat_Int, seval]); first | done | (simp [bareV, *]; done) | (simp_all [bareV]; done)) | (refine retA rfl ?_; (try simp (etaStruct := .none) only [push_cast, DrawG, Int.cast_ofNat_Int, seval]); (try simp [bareV, *]); (try exact wkc)))
   ·(try replace h3 := xhh h3)
    have e2 : ¬ (o.kind ≠ 1 ∧ o.kind ≠ 5) := by omega
    (try (refine xst ?_; try exact xtI))
    (first | (refine retA rfl (Wk.of ?_); (try simp (etaStruct := .none) only [push_cast, DrawG, Int.cast_ofNat_Int, seval]); first | done | (simp [bareV, *]; done) | (simp_all [bareV]; done)) | (refine retA rfl ?_; (try simp (etaStruct := .none) only [push_cast, DrawG, Int.cast_ofNat_Int, seval]); (try simp [bareV, *]); (try exact wkc)))
  ·(try replace h2 := xhh h2)
   have e1 : ¬ (o.kind ≠ 2 ∧ o.kind ≠ 3) := by omega
   (try (refine xst ?_; try exact xtI))
   refine cond_i (fun h4 => ?_) (fun h4 => ?_)
   ·(try replace h4 := xhh h4)
    (try (refine xst ?_; try exact xtI))
    (first | (refine retA rfl (Wk.of ?_); (try simp (etaStruct := .none) only [push_cast, DrawG, Int.cast_ofNat_Int, seval]); first | done | (simp [bareV, *]; done) | (simp_all [bareV]; done)) | (refine retA rfl ?_; (try simp (etaStruct := .none) only [push_cast, DrawG, Int.cast_ofNat_Int, seval]); (try simp [bareV, *]); (try exact wkc)))
   ·(try replace h4 := xhh h4)
    have e2 : ¬ (o.kind ≠ 1 ∧ o.kind ≠ 5) := by omega
    (try (refine xst ?_; try exact xtI))
    (first | (refine retA rfl (Wk.of ?_); (try simp (etaStruct := .none) only [push_cast, DrawG, Int.cast_ofNat_Int, seval]); first | done | (simp [bareV, *]; done) | (simp_all [bareV]; done)) | (refine retA rfl ?_; (try simp (etaStruct := .none) only [push_cast, DrawG, Int.cast_ofNat_Int, seval]); (try simp [bareV, *]); (try exact wkc)))
 ·(try replace h1 := xhh h1)
  (try (refine xst ?_; try exact xtI))
  refine cond_i (fun h5 => ?_) (fun h5 => ?_)
  ·(try replace h5 := xhh h5)
   (try (refine xst ?_; try exact xtI))
   refine cond_i (fun h6 => ?_) (fun h6 => ?_)
   ·(try replace h6 := xhh h6)
    (try (refine xst ?_; try exact xtI))
    (first | (refine retA rfl (Wk.of ?_); (try simp (etaStruct := .none) only [push_cast, DrawG, Int.cast_ofNat_Int, seval]); first | done | (simp [bareV, *]; done) | (simp_all [bareV]; done)) | (refine retA rfl ?_; (try simp (etaStruct := .none) only [push_cast, DrawG, Int.cast_ofNat_Int, seval]); (try simp [bareV, *]); (try exact wkc)))
   ·(try replace h6 := xhh h6)
    have e2 : o.kind = 1 := by omega
    (try (refine xst ?_; try exact xtI))
    (first | (refine retA rfl (Wk.of ?_); (try simp (etaStruct := .none) only [push_cast, DrawG, Int.cast_ofNat_Int, seval]); first | done | (simp [bareV, *]; done) | (simp_all [bareV]; done)) | (refine retA rfl ?_; (try simp (etaStruct := .none) only [push_cast, DrawG, Int.cast_ofNat_Int, seval]); (try simp [bareV, *]); (try exact wkc)))
  ·(try replace h5 := xhh h5)
   have e1 : ¬ (o.kind ≠ 2 ∧ o.kind ≠ 3) := by omega
   (try (refine xst ?_; try exact xtI))
   refine cond_i (fun h7 => ?_) (fun h7 => ?_)
   ·(try replace h7 := xhh h7)
    (try (refine xst ?_; try exact xtI))
    (first | (refine retA rfl (Wk.of ?_); (try simp (etaStruct := .none) only [push_cast, DrawG, Int.cast_ofNat_Int, seval]); first | done | (simp [bareV, *]; done) | (simp_all [bareV]; done)) | (refine retA rfl ?_; (try simp (etaStruct := .none) only [push_cast, DrawG, Int.cast_ofNat_Int, seval]); (try simp [bareV, *]); (try exact wkc)))
   ·(try replace h7 := xhh h7)
    have e2 : ¬ (o.kind ≠ 1 ∧ o.kind ≠ 5) := by omega
    (try (refine xst ?_; try exact xtI))
    (first | (refine retA rfl (Wk.of ?_); (try simp (etaStruct := .none) only [push_cast, DrawG, Int.cast_ofNat_Int, seval]); first | done | (simp [bareV, *]; done) | (simp_all [bareV]; done)) | (refine retA rfl ?_; (try simp (etaStruct := .none) only [push_cast, DrawG, Int.cast_ofNat_Int, seval]); (try simp [bareV, *]); (try exact wkc)))
theorem ocheck_s (o : Ord) : Spec Tryz.prog 80 [ordA o] [] (I .i64 (ordE o)) [] := by
 refine spec_am Tryz.func80 rfl rfl mix 43 rfl [.tmp 2] Tryz.results80 (Nat.le_of_ble_eq_true rfl) ?_
 (iterate 2 ((try simp (etaStruct := .none) only [push_cast, DrawG, Int.cast_ofNat_Int, seval, ord_dec (bareV o) o, bare_form o]); (try (refine xsu ?_; try exact xtI))))
 refine caP (owithin_s o.by_ 0 7) ?_
 (iterate 2 ((try simp (etaStruct := .none) only [push_cast, DrawG, Int.cast_ofNat_Int, seval, ord_dec (bareV o) o, bare_form o]); (try (refine xsu ?_; try exact xtI))))
 refine gcP (fun hcc => owithin_s o.kind 1 5) ?_
 (iterate 2 ((try simp (etaStruct := .none) only [push_cast, DrawG, Int.cast_ofNat_Int, seval, ord_dec (bareV o) o, bare_form o]); (try (refine xsu ?_; try exact xtI))))
 refine gcP (fun hcc => owithin_s o.who 0 1000000) ?_
 (iterate 2 ((try simp (etaStruct := .none) only [push_cast, DrawG, Int.cast_ofNat_Int, seval, ord_dec (bareV o) o, bare_form o]); (try (refine xsu ?_; try exact xtI))))
 refine gcP (fun hcc => owithin_s o.c.x (-1000) 1000) ?_
 (iterate 2 ((try simp (etaStruct := .none) only [push_cast, DrawG, Int.cast_ofNat_Int, seval, ord_dec (bareV o) o, bare_form o]); (try (refine xsu ?_; try exact xtI))))
 refine gcP (fun hcc => owithin_s o.c.y (-1000) 1000) ?_
 (iterate 2 ((try simp (etaStruct := .none) only [push_cast, DrawG, Int.cast_ofNat_Int, seval, ord_dec (bareV o) o, bare_form o]); (try (refine xsu ?_; try exact xtI))))
 refine gcP (fun hcc => owithin_s o.what 0 1000000) ?_
 (iterate 2 ((try simp (etaStruct := .none) only [push_cast, DrawG, Int.cast_ofNat_Int, seval, ord_dec (bareV o) o, bare_form o]); (try (refine xsu ?_; try exact xtI))))
 refine cond_i (fun h1 => ?_) (fun h1 => ?_)
 ·(try replace h1 := xhh h1)
  have hb : ordBad o = true := by unfold ordBad; rw [← near_within]; simpa [or_assoc] using h1
  (iterate 2 ((try simp (etaStruct := .none) only [push_cast, DrawG, Int.cast_ofNat_Int, seval, ord_dec (bareV o) o, bare_form o]); (try (refine xsu ?_; try exact xtI))))
  (first | (refine retA rfl (Wk.of ?_); (try simp (etaStruct := .none) only [push_cast, DrawG, Int.cast_ofNat_Int, seval]); first | done | (simp [ordE, hb, *]; done) | (simp_all [ordE, hb]; done)) | (refine retA rfl ?_; (try simp (etaStruct := .none) only [push_cast, DrawG, Int.cast_ofNat_Int, seval]); (try simp [ordE, hb, *]); (try exact wkc)))
 ·(try replace h1 := xhh h1)
  have hb : ordBad o = false := by unfold ordBad; rw [← near_within]; simpa [and_assoc] using h1
  (iterate 2 ((try simp (etaStruct := .none) only [push_cast, DrawG, Int.cast_ofNat_Int, seval, ord_dec (bareV o) o, bare_form o]); (try (refine xsu ?_; try exact xtI))))
  refine caP (bare_o o) ?_
  (iterate 2 ((try simp (etaStruct := .none) only [push_cast, DrawG, Int.cast_ofNat_Int, seval, ord_dec (bareV o) o, bare_form o]); (try (refine xsu ?_; try exact xtI))))
  (try (refine ⟨by kernel_rfl, ?_⟩))
  (iterate 2 ((try simp (etaStruct := .none) only [push_cast, DrawG, Int.cast_ofNat_Int, seval, ord_dec (bareV o) o, bare_form o]); (try (refine xsu ?_; try exact xtI))))
  refine cond_i (fun h2 => ?_) (fun h2 => ?_)
  ·(try replace h2 := xhh h2)
   (iterate 2 ((try simp (etaStruct := .none) only [push_cast, DrawG, Int.cast_ofNat_Int, seval, ord_dec (bareV o) o, bare_form o]); (try (refine xsu ?_; try exact xtI))))
   (first | (refine retA rfl (Wk.of ?_); (try simp (etaStruct := .none) only [push_cast, DrawG, Int.cast_ofNat_Int, seval]); first | done | (simp [ordE, hb, *]; done) | (simp_all [ordE, hb]; done)) | (refine retA rfl ?_; (try simp (etaStruct := .none) only [push_cast, DrawG, Int.cast_ofNat_Int, seval]); (try simp [ordE, hb, *]); (try exact wkc)))
  ·(try replace h2 := xhh h2)
   (iterate 2 ((try simp (etaStruct := .none) only [push_cast, DrawG, Int.cast_ofNat_Int, seval, ord_dec (bareV o) o, bare_form o]); (try (refine xsu ?_; try exact xtI))))
   (first | (refine retA rfl (Wk.of ?_); (try simp (etaStruct := .none) only [push_cast, DrawG, Int.cast_ofNat_Int, seval]); first | done | (simp [ordE, hb, *]; done) | (simp_all [ordE, hb]; done)) | (refine retA rfl ?_; (try simp (etaStruct := .none) only [push_cast, DrawG, Int.cast_ofNat_Int, seval]); (try simp [ordE, hb, *]); (try exact wkc)))
theorem oright_s (o : Ord) : Spec Tryz.prog 61 [ordA o] [] (I .i64 (ordE o)) [] := by
 refine spec_am Tryz.func61 rfl rfl mix 85 rfl [.tmp 2] Tryz.results61 (Nat.le_of_ble_eq_true rfl) ?_
 (try (refine xst ?_; try exact xtI))
 refine caP (between_s o.by_ 0 7) ?_
 (try (refine xst ?_; try exact xtI))
 refine gcP (fun hcc => between_s o.kind 1 5) ?_
 (try (refine xst ?_; try exact xtI))
 refine gcP (fun hcc => between_s o.who 0 1000000) ?_
 (try (refine xst ?_; try exact xtI))
 refine gcP (fun hcc => cellNear_s o.c) ?_
 (try (refine xst ?_; try exact xtI))
 refine gcP (fun hcc => between_s o.what 0 1000000) ?_
 (try (refine xst ?_; try exact xtI))
 refine cond_i (fun h1 => ?_) (fun h1 => ?_)
 ·(try replace h1 := xhh h1)
  have hb : ordBad o = true := by unfold ordBad; simpa [or_assoc] using h1
  (try (refine xst ?_; try exact xtI))
  (first | (refine retA rfl (Wk.of ?_); (try simp (etaStruct := .none) only [push_cast, DrawG, Int.cast_ofNat_Int, seval]); first | done | (simp [ordE, hb, *]; done) | (simp_all [ordE, hb]; done)) | (refine retA rfl ?_; (try simp (etaStruct := .none) only [push_cast, DrawG, Int.cast_ofNat_Int, seval]); (try simp [ordE, hb, *]); (try exact wkc)))
 ·(try replace h1 := xhh h1)
  have hb : ordBad o = false := by unfold ordBad; simpa [and_assoc] using h1
  (try (refine xst ?_; try exact xtI))
  refine cond_i (fun h2 => ?_) (fun h2 => ?_)
  ·(try replace h2 := xhh h2)
   have hc : ordForm o = true := by unfold ordForm; simp; omega
   (try (refine xst ?_; try exact xtI))
   (first | (refine retA rfl (Wk.of ?_); (try simp (etaStruct := .none) only [push_cast, DrawG, Int.cast_ofNat_Int, seval]); first | done | (simp [ordE, hb, *]; done) | (simp_all [ordE, hb]; done)) | (refine retA rfl ?_; (try simp (etaStruct := .none) only [push_cast, DrawG, Int.cast_ofNat_Int, seval]); (try simp [ordE, hb, *]); (try exact wkc)))
  ·(try replace h2 := xhh h2)
   have hc : ordForm o = false := by unfold ordForm; simp; omega
   (try (refine xst ?_; try exact xtI))
   (first | (refine retA rfl (Wk.of ?_); (try simp (etaStruct := .none) only [push_cast, DrawG, Int.cast_ofNat_Int, seval]); first | done | (simp [ordE, hb, *]; done) | (simp_all [ordE, hb]; done)) | (refine retA rfl ?_; (try simp (etaStruct := .none) only [push_cast, DrawG, Int.cast_ofNat_Int, seval]); (try simp [ordE, hb, *]); (try exact wkc)))
theorem oall_s (l : List Ord) (hl : l.length ≤ 9223372036854775807) : Spec Tryz.prog 52 [.c (.sl 6 (l.map ordP))] [] (I .i64 (ordsE l)) [] := by
 refine spec_am Tryz.func52 rfl rfl mix 21 rfl [.tmp 2] Tryz.results52 (Nat.le_of_ble_eq_true rfl) ?_
 (try (refine xst ?_; try exact xtI))
 refine cond_i (fun h1 => ?_) (fun h1 => ?_)
 ·(try replace h1 := xhh h1)
  have h1' : 100 < l.length := by omega
  (try (refine xst ?_; try exact xtI))
  (first | (refine retA rfl (Wk.of ?_); (try simp (etaStruct := .none) only [push_cast, DrawG, Int.cast_ofNat_Int, seval]); first | done | (simp [ordsE, *]; done) | (simp_all [ordsE]; done)) | (refine retA rfl ?_; (try simp (etaStruct := .none) only [push_cast, DrawG, Int.cast_ofNat_Int, seval]); (try simp [ordsE, *]); (try exact wkc)))
 ·(try replace h1 := xhh h1)
  (try (refine xst ?_; try exact xtI))
  refine loopI (fun k : Nat => ⟨[(11, I .i64 k), (10, I .i64 l.length), (9, .c (.sl 6 (l.map ordP)))], [], 0⟩) (fun k : Nat => k ≤ l.length ∧ ∀ j, j < k → ordE (l.getD j default) = 0) (fun k : Nat => l.length - k) (0) (⟨Nat.zero_le _, fun j h => by omega⟩) (To.mk [] rfl rfl List.nodup_nil trivial ?_) ?_
  ·simp (etaStruct := .none) only [push_cast, DrawG, Int.cast_ofNat_Int, seval]
  rintro k ⟨hk, hn⟩
  (try (refine xst ?_; try exact xtI))
  refine cond_i (fun h2 => ?_) (fun h2 => ?_)
  ·(try replace h2 := xhh h2)
   have hlt : k < l.length := by omega
   (iterate 2 ((try simp (etaStruct := .none) only [push_cast, DrawG, Int.cast_ofNat_Int, seval, getD_in _ _ _ hlt, ordP]); (try (refine xsu ?_; try exact xtI))))
   refine caP (ocheck_s (l.getD k default)) ?_
   (iterate 2 ((try simp (etaStruct := .none) only [push_cast, DrawG, Int.cast_ofNat_Int, seval, getD_in _ _ _ hlt, ordP]); (try (refine xsu ?_; try exact xtI))))
   refine cond_i (fun h3 => ?_) (fun h3 => ?_)
   ·(try replace h3 := xhh h3)
    have e : ordsE l = ordE (l.getD k default) := by
     unfold ordsE
     rw [if_neg (by omega), firstE_drop l k hk hn, firstE_at l k hlt, if_pos h3]
    (iterate 2 ((try simp (etaStruct := .none) only [push_cast, DrawG, Int.cast_ofNat_Int, seval, getD_in _ _ _ hlt, ordP]); (try (refine xsu ?_; try exact xtI))))
    (first | (refine retA rfl (Wk.of ?_); (try simp (etaStruct := .none) only [push_cast, DrawG, Int.cast_ofNat_Int, seval]); first | done | (simp [e, *]; done) | (simp_all [e]; done)) | (refine retA rfl ?_; (try simp (etaStruct := .none) only [push_cast, DrawG, Int.cast_ofNat_Int, seval]); (try simp [e, *]); (try exact wkc)))
   ·(try replace h3 := xhh h3)
    (iterate 2 ((try simp (etaStruct := .none) only [push_cast, DrawG, Int.cast_ofNat_Int, seval, getD_in _ _ _ hlt, ordP]); (try (refine xsu ?_; try exact xtI))))
    refine ⟨k + 1, ⟨by omega, fun j hj => by rcases Nat.lt_or_ge j k with h | h; exact hn j h; rw [show j = k by omega]; exact h3⟩, by omega, To.mk [] rfl rfl List.nodup_nil trivial ?_⟩
    ·(iterate 2 ((try simp (etaStruct := .none) only [push_cast, DrawG, Int.cast_ofNat_Int, seval, getD_in _ _ _ hlt, ordP]); (try (refine xsu ?_; try exact xtI))))
  ·(try replace h2 := xhh h2)
   have e : ordsE l = 0 := by
    unfold ordsE
    rw [if_neg (by omega), firstE_drop l k hk hn, List.drop_eq_nil_of_le (by omega)]; rfl
   (try (refine xst ?_; try exact xtI))
   (first | (refine retA rfl (Wk.of ?_); (try simp (etaStruct := .none) only [push_cast, DrawG, Int.cast_ofNat_Int, seval]); first | done | (simp [e, *]; done) | (simp_all [e]; done)) | (refine retA rfl ?_; (try simp (etaStruct := .none) only [push_cast, DrawG, Int.cast_ofNat_Int, seval]); (try simp [e, *]); (try exact wkc)))
theorem orights_s (l : List Ord) (hl : l.length ≤ 9223372036854775807) : Spec Tryz.prog 28 [.c (.sl 6 (l.map ordP))] [] (I .i64 (ordsE l)) [] := by
 refine spec_am Tryz.func28 rfl rfl mix 25 rfl [.tmp 2] Tryz.results28 (Nat.le_of_ble_eq_true rfl) ?_
 (try (refine xst ?_; try exact xtI))
 refine cond_i (fun h1 => ?_) (fun h1 => ?_)
 ·(try replace h1 := xhh h1)
  have h1' : 100 < l.length := by omega
  (try (refine xst ?_; try exact xtI))
  (first | (refine retA rfl (Wk.of ?_); (try simp (etaStruct := .none) only [push_cast, DrawG, Int.cast_ofNat_Int, seval]); first | done | (simp [ordsE, *]; done) | (simp_all [ordsE]; done)) | (refine retA rfl ?_; (try simp (etaStruct := .none) only [push_cast, DrawG, Int.cast_ofNat_Int, seval]); (try simp [ordsE, *]); (try exact wkc)))
 ·(try replace h1 := xhh h1)
  have h1' : ¬ 100 < l.length := by omega
  (try (refine xst ?_; try exact xtI))
  refine loopI (fun k : Nat => ⟨[(4, I .i64 ((k : Int) - 1)), (3, I .i64 (firstE (l.drop k))), (0, .c (.sl 6 (l.map ordP)))], [], 0⟩) (fun k : Nat => k ≤ l.length) (fun k : Nat => k) (l.length) (Nat.le_refl _) (To.mk [] rfl rfl List.nodup_nil trivial ?_) ?_
  ·simp (etaStruct := .none) only [push_cast, DrawG, Int.cast_ofNat_Int, seval, List.drop_length, firstE]
  rintro k hk
  (try (refine xst ?_; try exact xtI))
  refine cond_i (fun h2 => ?_) (fun h2 => ?_)
  ·(try replace h2 := xhh h2)
   have hlt : k - 1 < l.length := by omega
   have ek : ((k : Int) - 1).toNat = k - 1 := by omega
   have ek2 : ((k - 1 : Nat) : Int) = (k : Int) - 1 := by omega
   have fe := firstE_at l (k - 1) hlt
   rw [show k - 1 + 1 = k by omega] at fe
   (iterate 2 ((try simp (etaStruct := .none) only [push_cast, DrawG, Int.cast_ofNat_Int, seval, ek, getD_in _ _ _ hlt, ordP]); (try (refine xsu ?_; try exact xtI))))
   refine caP (oright_s (l.getD (k - 1) default)) ?_
   (iterate 2 ((try simp (etaStruct := .none) only [push_cast, DrawG, Int.cast_ofNat_Int, seval, ek, getD_in _ _ _ hlt, ordP]); (try (refine xsu ?_; try exact xtI))))
   refine cond_i (fun h3 => ?_) (fun h3 => ?_)
   ·(try replace h3 := xhh h3)
    rw [if_pos h3] at fe
    (iterate 2 ((try simp (etaStruct := .none) only [push_cast, DrawG, Int.cast_ofNat_Int, seval, ek, getD_in _ _ _ hlt, ordP]); (try (refine xsu ?_; try exact xtI))))
    refine ⟨k - 1, by omega, by omega, To.mk [] rfl rfl List.nodup_nil trivial ?_⟩
    ·(iterate 2 ((try simp (etaStruct := .none) only [push_cast, DrawG, Int.cast_ofNat_Int, seval, fe, ek2]); (try (refine xsu ?_; try exact xtI))))
   ·(try replace h3 := xhh h3)
    rw [if_neg (by simpa using h3)] at fe
    (iterate 2 ((try simp (etaStruct := .none) only [push_cast, DrawG, Int.cast_ofNat_Int, seval, ek, getD_in _ _ _ hlt, ordP]); (try (refine xsu ?_; try exact xtI))))
    refine ⟨k - 1, by omega, by omega, To.mk [] rfl rfl List.nodup_nil trivial ?_⟩
    ·(iterate 2 ((try simp (etaStruct := .none) only [push_cast, DrawG, Int.cast_ofNat_Int, seval, fe, ek2]); (try (refine xsu ?_; try exact xtI))))
  ·(try replace h2 := xhh h2)
   obtain rfl : k = 0 := by omega
   (try (refine xst ?_; try exact xtI))
   (first | (refine retA rfl (Wk.of ?_); (try simp (etaStruct := .none) only [push_cast, DrawG, Int.cast_ofNat_Int, seval]); first | done | (simp [ordsE, *]; done) | (simp_all [ordsE]; done)) | (refine retA rfl ?_; (try simp (etaStruct := .none) only [push_cast, DrawG, Int.cast_ofNat_Int, seval]); (try simp [ordsE, *]); (try exact wkc)))
end Go.Proofs.YthiddmncjafklaaGreat
namespace Go.Proofs.YthiddmncjafklaaGreat
set_option linter.all false
open Go.RowKit
set_option maxRecDepth 100000
set_option maxHeartbeats 2000000
structure Sea where
 waits : List Ord
 late : Int
 gone : Bool
 deriving DecidableEq, Inhabited
end Go.Proofs.YthiddmncjafklaaGreat
namespace Go.Proofs.YthiddmncjafklaaGreat
set_option linter.all false
open Go.RowKit
def lateS (s : Sea) : Sea := ⟨s.waits, if 0 < s.waits.length then 0 else if s.gone then s.late else min (s.late + 1) 1000000, s.gone⟩
end Go.Proofs.YthiddmncjafklaaGreat
namespace Go.Proofs.YthiddmncjafklaaGreat
set_option linter.all false
open Go.RowKit
set_option maxRecDepth 100000
set_option maxHeartbeats 1000000
def wldL (w : Wld) : Prop := w.f.p.length ≤ 9223372036854775807 ∧ w.bases.length ≤ 9223372036854775807 ∧ w.stocks.length ≤ 9223372036854775807 ∧ w.mines.length ≤ 9223372036854775807 ∧ w.troops.length ≤ 9223372036854775807
abbrev wldC (w : Wld) : List AV := [I .i64 w.f.w, I .i64 w.f.h, .c (.sl 1 (w.f.p.map i64P)), .c (.sl 2 (w.bases.map celP)), .c (.sl 1 (w.stocks.map i64P)), .c (.sl 1 (w.mines.map i64P)), .c (.sl 7 (w.troops.map trpP)), I .i64 w.next, I .i64 w.now]
abbrev trpA (t : Trp) : AV := .agg [I .i64 t.id, I .i64 t.owner, I .i64 t.kind, I .i64 t.c.x, I .i64 t.c.y, I .i64 t.life, I .i64 t.load]
abbrev trpC (t : Trp) : List AV := [I .i64 t.id, I .i64 t.owner, I .i64 t.kind, I .i64 t.c.x, I .i64 t.c.y, I .i64 t.life, I .i64 t.load]
theorem worldE_form {w : Wld} (hf : fldE w.f = 0) (hb : ¬ (8 < w.bases.length ∨ 100 < w.troops.length)) (h : worldF w = false) : worldE w = 4 := by
 unfold worldE; rw [if_neg (by simp [hf]), if_neg hb, h]; rfl
theorem worldE_bad {w : Wld} (hf : fldE w.f = 0) (hb : ¬ (8 < w.bases.length ∨ 100 < w.troops.length)) (h : worldB w = false) : worldE w = 4 := by
 unfold worldE; rw [if_neg (by simp [hf]), if_neg hb, h]; simp
theorem worldE_fine {w : Wld} (hf : fldE w.f = 0) (hb : ¬ (8 < w.bases.length ∨ 100 < w.troops.length)) (h1 : worldF w = true) (h : worldB w = true) : worldE w = 0 := by
 unfold worldE; rw [if_neg (by simp [hf]), if_neg hb, h1, h]; rfl
theorem worldB_kind {w : Wld} {k : Nat} (hk : k < w.troops.length) (h : within (w.troops.getD k default).kind 1 2 = false) : worldB w = false := by
 have : allN (troopB w) w.troops.length = false := by
  rw [← Bool.not_eq_true, allN_iff]; intro hh
  have := hh k hk
  unfold troopB at this; rw [h] at this; simp at this
 unfold worldB; rw [this]; simp
theorem cel_neq (a b : Cel) : (!(decide (a.x = b.x) && decide (a.y = b.y))) = !decide (a = b) := by rw [cel_dec]
theorem wright_s (w : Wld) (hl : wldL w) : Spec Tryz.prog 22 [wldA w] [] (I .i64 (worldE w)) [] := by
 obtain ⟨l1, l2, l3, l4, l5⟩ := hl
 refine spec_am Tryz.func22 rfl rfl mix 213 rfl [.tmp 2] Tryz.results22 (Nat.le_of_ble_eq_true rfl) ?_
 (try (refine xst ?_; try exact xtI))
 refine caP (fright_s w.f l1) ?_
 (try (refine xst ?_; try exact xtI))
 refine cond_i (fun h1 => ?_) (fun h1 => ?_)
 ·(try replace h1 := xhh h1)
  have e : worldE w = fldE w.f := by unfold worldE; rw [if_pos (by simpa using h1)]
  (try (refine xst ?_; try exact xtI))
  (first | (refine retA rfl (Wk.of ?_); (try simp (etaStruct := .none) only [push_cast, DrawG, Int.cast_ofNat_Int, seval]); first | done | (simp [e, *]; done) | (simp_all [e]; done)) | (refine retA rfl ?_; (try simp (etaStruct := .none) only [push_cast, DrawG, Int.cast_ofNat_Int, seval]); (try simp [e, *]); (try exact wkc)))
 ·(try replace h1 := xhh h1)
  have hf : fldE w.f = 0 := by simpa using h1
  have hfo := fldE_ok hf
  (try (refine xst ?_; try exact xtI))
  refine cond_i (fun h2 => ?_) (fun h2 => ?_)
  ·(try replace h2 := xhh h2)
   have e : worldE w = 2 := by unfold worldE; rw [if_neg (by simp [hf]), if_pos (by omega)]
   (try (refine xst ?_; try exact xtI))
   (first | (refine retA rfl (Wk.of ?_); (try simp (etaStruct := .none) only [push_cast, DrawG, Int.cast_ofNat_Int, seval]); first | done | (simp [e, *]; done) | (simp_all [e]; done)) | (refine retA rfl ?_; (try simp (etaStruct := .none) only [push_cast, DrawG, Int.cast_ofNat_Int, seval]); (try simp [e, *]); (try exact wkc)))
  ·(try replace h2 := xhh h2)
   have hb : ¬ (8 < w.bases.length ∨ 100 < w.troops.length) := by omega
   (try (refine xst ?_; try exact xtI))
   refine gcP (fun hcc => between_s _ _ _) ?_
   (try (refine xst ?_; try exact xtI))
   refine gcP (fun hcc => between_s _ _ _) ?_
   (try (refine xst ?_; try exact xtI))
   refine cond_i (fun h3 => ?_) (fun h3 => ?_)
   ·(try replace h3 := xhh h3)
    have e : worldE w = 4 := by
     refine worldE_form hf hb ?_
     unfold worldF
     simp only [Bool.and_eq_false_iff, decide_eq_false_iff_not]
     rcases h3 with ((h | h) | h) | h
     ·exact .inl (.inl (.inl (by omega)))
     ·exact .inl (.inl (.inr (by omega)))
     ·exact .inl (.inr h)
     ·exact .inr h
    (try (refine xst ?_; try exact xtI))
    (first | (refine retA rfl (Wk.of ?_); (try simp (etaStruct := .none) only [push_cast, DrawG, Int.cast_ofNat_Int, seval]); first | done | (simp [e, *]; done) | (simp_all [e]; done)) | (refine retA rfl ?_; (try simp (etaStruct := .none) only [push_cast, DrawG, Int.cast_ofNat_Int, seval]); (try simp [e, *]); (try exact wkc)))
   ·(try replace h3 := xhh h3)
    have hwf : worldF w = true := by
     unfold worldF
     simp only [Bool.and_eq_true, decide_eq_true_eq]
     exact ⟨⟨⟨by omega, by omega⟩, h3.1.2⟩, h3.2⟩
    have hnx := within_iff.1 h3.1.2
    have hls : w.stocks.length = w.bases.length := by omega
    have hlm : w.mines.length = w.f.p.length := by omega
    (try (refine xst ?_; try exact xtI))
    refine loopI (fun k : Nat => ⟨[(61, I .i64 k), (60, I .i64 w.bases.length), (4, B (allN (baseB w) k)), (1, .ptr 0 0 0)], [(0, .blk 28 (wldC w))], 1⟩) (fun k : Nat => k ≤ w.bases.length) (fun k : Nat => w.bases.length - k) (0) (Nat.zero_le _) (To.mk [0] rfl rfl (by decide) ?_ ?_) ?_
    ·simp (etaStruct := .none) only [push_cast, DrawG, Int.cast_ofNat_Int, seval]
    ·simp (etaStruct := .none) only [push_cast, DrawG, Int.cast_ofNat_Int, seval, allN]
    rintro k hk
    (try (refine xst ?_; try exact xtI))
    refine cond_i (fun h4 => ?_) (fun h4 => ?_)
    ·(try replace h4 := xhh h4)
     have hlt : k < w.bases.length := by omega
     have hlt2 : k < w.stocks.length := by omega
     (iterate 2 ((try simp (etaStruct := .none) only [push_cast, DrawG, Int.cast_ofNat_Int, seval, getD_in _ _ _ hlt, celP, getD_in _ _ _ hlt2, i64P]); (try (refine xsu ?_; try exact xtI))))
     refine gcP (fun hcc => ground_s w.f (w.bases.getD k default) hf) ?_
     (iterate 2 ((try simp (etaStruct := .none) only [push_cast, DrawG, Int.cast_ofNat_Int, seval, getD_in _ _ _ hlt, celP, getD_in _ _ _ hlt2, i64P]); (try (refine xsu ?_; try exact xtI))))
     refine gcP (fun hcc => between_s (w.stocks.getD k default) 0 1000000) ?_
     (iterate 2 ((try simp (etaStruct := .none) only [push_cast, DrawG, Int.cast_ofNat_Int, seval, getD_in _ _ _ hlt, celP, getD_in _ _ _ hlt2, i64P]); (try (refine xsu ?_; try exact xtI))))
     (try (refine ⟨by kernel_rfl, ?_⟩))
     (iterate 2 ((try simp (etaStruct := .none) only [push_cast, DrawG, Int.cast_ofNat_Int, seval, getD_in _ _ _ hlt, celP, getD_in _ _ _ hlt2, i64P]); (try (refine xsu ?_; try exact xtI))))
     refine loopI (fun j : Nat => ⟨[(84, I .i64 j), (83, I .i64 k), (61, I .i64 k), (60, I .i64 w.bases.length), (5, I .i64 k), (4, B (((allN (baseB w) k && groundV w.f (w.bases.getD k default)) && within (w.stocks.getD k default) 0 1000000) && allN (fun j => !decide (w.bases.getD j default = w.bases.getD k default)) j)), (1, .ptr 0 0 0)], [(0, .blk 28 (wldC w))], 1⟩) (fun j : Nat => j ≤ k) (fun j : Nat => k - j) (0) (Nat.zero_le _) (To.mk [0] rfl rfl (by decide) ?_ ?_) ?_
     ·simp (etaStruct := .none) only [push_cast, DrawG, Int.cast_ofNat_Int, seval]
     ·simp (etaStruct := .none) only [push_cast, DrawG, Int.cast_ofNat_Int, seval, allN, Bool.and_true]
     rintro j hj
     (iterate 2 ((try simp (etaStruct := .none) only [push_cast, DrawG, Int.cast_ofNat_Int, seval, getD_in _ _ _ hlt, celP, getD_in _ _ _ hlt2, i64P]); (try (refine xsu ?_; try exact xtI))))
     refine cond_i (fun h5 => ?_) (fun h5 => ?_)
     ·(try replace h5 := xhh h5)
      have hltj : j < w.bases.length := by omega
      (iterate 2 ((try simp (etaStruct := .none) only [push_cast, DrawG, Int.cast_ofNat_Int, seval, getD_in _ _ _ hlt, celP, getD_in _ _ _ hlt2, i64P, getD_in _ _ _ hltj, cel_neq, cel_dec]); (try (refine xsu ?_; try exact xtI))))
      (try (refine ⟨by kernel_rfl, ?_⟩))
      (iterate 2 ((try simp (etaStruct := .none) only [push_cast, DrawG, Int.cast_ofNat_Int, seval, getD_in _ _ _ hlt, celP, getD_in _ _ _ hlt2, i64P, getD_in _ _ _ hltj, cel_neq, cel_dec]); (try (refine xsu ?_; try exact xtI))))
      refine ⟨j + 1, by omega, by omega, To.mk [0] rfl rfl (by decide) ?_ ?_⟩
      ·(iterate 2 ((try simp (etaStruct := .none) only [push_cast, DrawG, Int.cast_ofNat_Int, seval, getD_in _ _ _ hlt, celP, getD_in _ _ _ hlt2, i64P, getD_in _ _ _ hltj, cel_neq, cel_dec]); (try (refine xsu ?_; try exact xtI))))
      ·(iterate 2 ((try simp (etaStruct := .none) only [push_cast, DrawG, Int.cast_ofNat_Int, seval, allN, ← Bool.and_assoc]); (try (refine xsu ?_; try exact xtI))))
     ·(try replace h5 := xhh h5)
      obtain rfl : k = j := by omega
      (iterate 2 ((try simp (etaStruct := .none) only [push_cast, DrawG, Int.cast_ofNat_Int, seval, getD_in _ _ _ hlt, celP, getD_in _ _ _ hlt2, i64P]); (try (refine xsu ?_; try exact xtI))))
      refine ⟨k + 1, by omega, by omega, To.mk [0] rfl rfl (by decide) ?_ ?_⟩
      ·(iterate 2 ((try simp (etaStruct := .none) only [push_cast, DrawG, Int.cast_ofNat_Int, seval, getD_in _ _ _ hlt, celP, getD_in _ _ _ hlt2, i64P]); (try (refine xsu ?_; try exact xtI))))
      ·(iterate 2 ((try simp (etaStruct := .none) only [push_cast, DrawG, Int.cast_ofNat_Int, seval, allN, baseB, ← Bool.and_assoc]); (try (refine xsu ?_; try exact xtI))))
    ·(try replace h4 := xhh h4)
     obtain rfl : k = w.bases.length := by omega
     (try (refine xst ?_; try exact xtI))
     refine loopI (fun k : Nat => ⟨[(106, I .i64 k), (105, I .i64 w.mines.length), (104, .c (.sl 1 (w.mines.map i64P))), (4, B (allN (baseB w) w.bases.length && allN (mineB w) k)), (1, .ptr 0 0 0)], [(0, .blk 28 (wldC w))], 1⟩) (fun k : Nat => k ≤ w.mines.length) (fun k : Nat => w.mines.length - k) (0) (Nat.zero_le _) (To.mk [0] rfl rfl (by decide) ?_ ?_) ?_
     ·simp (etaStruct := .none) only [push_cast, DrawG, Int.cast_ofNat_Int, seval]
     ·simp (etaStruct := .none) only [push_cast, DrawG, Int.cast_ofNat_Int, seval, allN, Bool.and_true]
     rintro k hk
     (try (refine xst ?_; try exact xtI))
     refine cond_i (fun h6 => ?_) (fun h6 => ?_)
     ·(try replace h6 := xhh h6)
      have hlt : k < w.mines.length := by omega
      have hlt2 : k < w.f.p.length := by omega
      (iterate 2 ((try simp (etaStruct := .none) only [push_cast, DrawG, Int.cast_ofNat_Int, seval, getD_in _ _ _ hlt, getD_in _ _ _ hlt2, i64P]); (try (refine xsu ?_; try exact xtI))))
      refine gcP (fun hcc => between_s (w.mines.getD k default) 0 1000000) ?_
      (iterate 2 ((try simp (etaStruct := .none) only [push_cast, DrawG, Int.cast_ofNat_Int, seval, getD_in _ _ _ hlt, getD_in _ _ _ hlt2, i64P]); (try (refine xsu ?_; try exact xtI))))
      refine ⟨k + 1, by omega, by omega, To.mk [0] rfl rfl (by decide) ?_ ?_⟩
      ·(iterate 2 ((try simp (etaStruct := .none) only [push_cast, DrawG, Int.cast_ofNat_Int, seval, getD_in _ _ _ hlt, getD_in _ _ _ hlt2, i64P]); (try (refine xsu ?_; try exact xtI))))
      ·(iterate 2 ((try simp (etaStruct := .none) only [push_cast, DrawG, Int.cast_ofNat_Int, seval, allN, mineB, ← Bool.and_assoc]); (try (refine xsu ?_; try exact xtI))))
     ·(try replace h6 := xhh h6)
      obtain rfl : k = w.mines.length := by omega
      (try (refine xst ?_; try exact xtI))
      refine loopI (fun k : Nat => ⟨[(133, I .i64 k), (132, I .i64 w.troops.length), (131, .c (.sl 7 (w.troops.map trpP))), (4, B ((allN (baseB w) w.bases.length && allN (mineB w) w.mines.length) && allN (troopB w) k)), (1, .ptr 0 0 0)], [(0, .blk 28 (wldC w))], 1⟩) (fun k : Nat => k ≤ w.troops.length) (fun k : Nat => w.troops.length - k) (0) (Nat.zero_le _) (To.mk [0] rfl rfl (by decide) ?_ ?_) ?_
      ·simp (etaStruct := .none) only [push_cast, DrawG, Int.cast_ofNat_Int, seval]
      ·simp (etaStruct := .none) only [push_cast, DrawG, Int.cast_ofNat_Int, seval, allN, Bool.and_true]
      rintro k hk
      (try (refine xst ?_; try exact xtI))
      refine cond_i (fun h7 => ?_) (fun h7 => ?_)
      ·(try replace h7 := xhh h7)
       have hlt : k < w.troops.length := by omega
       (iterate 2 ((try simp (etaStruct := .none) only [push_cast, DrawG, Int.cast_ofNat_Int, seval, getD_in _ _ _ hlt, trpP]); (try (refine xsu ?_; try exact xtI))))
       refine caP (between_s (w.troops.getD k default).kind 1 2) ?_
       (iterate 2 ((try simp (etaStruct := .none) only [push_cast, DrawG, Int.cast_ofNat_Int, seval, getD_in _ _ _ hlt, trpP]); (try (refine xsu ?_; try exact xtI))))
       refine cond_i (fun h8 => ?_) (fun h8 => ?_)
       ·(try replace h8 := xhh h8)
        have e : worldE w = 4 := worldE_bad hf hb (worldB_kind hlt (by simpa using h8))
        (iterate 2 ((try simp (etaStruct := .none) only [push_cast, DrawG, Int.cast_ofNat_Int, seval, getD_in _ _ _ hlt, trpP]); (try (refine xsu ?_; try exact xtI))))
        (first | (refine retA rfl (Wk.of ?_); (try simp (etaStruct := .none) only [push_cast, DrawG, Int.cast_ofNat_Int, seval]); first | done | (simp [e, *]; done) | (simp_all [e]; done)) | (refine retA rfl ?_; (try simp (etaStruct := .none) only [push_cast, DrawG, Int.cast_ofNat_Int, seval]); (try simp [e, *]); (try exact wkc)))
       ·(try replace h8 := xhh h8)
        have hkd0 : within (w.troops.getD k default).kind 1 2 = true := by simpa using h8
        have hkd := within_iff.1 hkd0
        have lk : (List.take k (List.map trpP w.troops)).length = k := by rw [List.length_take, List.length_map]; omega
        have hkd2 : (w.troops.getD k default).kind = 1 ∨ (w.troops.getD k default).kind = 2 := by omega
        (iterate 2 ((try simp (etaStruct := .none) only [push_cast, DrawG, Int.cast_ofNat_Int, seval, getD_in _ _ _ hlt, trpP]); (try (refine xsu ?_; try exact xtI))))
        refine gcP (fun hcc => between_s (w.troops.getD k default).id 1 (w.next - 1)) ?_
        (iterate 2 ((try simp (etaStruct := .none) only [push_cast, DrawG, Int.cast_ofNat_Int, seval, getD_in _ _ _ hlt, trpP]); (try (refine xsu ?_; try exact xtI))))
        refine gcP (fun hcc => between_s (w.troops.getD k default).owner 0 ((w.bases.length : Int) - 1)) ?_
        (iterate 2 ((try simp (etaStruct := .none) only [push_cast, DrawG, Int.cast_ofNat_Int, seval, getD_in _ _ _ hlt, trpP]); (try (refine xsu ?_; try exact xtI))))
        refine gcP (fun hcc => ground_s w.f (w.troops.getD k default).c hf) ?_
        (iterate 2 ((try simp (etaStruct := .none) only [push_cast, DrawG, Int.cast_ofNat_Int, seval, getD_in _ _ _ hlt, trpP]); (try (refine xsu ?_; try exact xtI))))
        refine gcP (fun hcc => kindOf_s (w.troops.getD k default).kind hkd2) ?_
        (iterate 2 ((try simp (etaStruct := .none) only [push_cast, DrawG, Int.cast_ofNat_Int, seval, getD_in _ _ _ hlt, trpP]); (try (refine xsu ?_; try exact xtI))))
        refine gcP (fun hcc => between_s (w.troops.getD k default).life 1 (kindV (w.troops.getD k default).kind).life) ?_
        (iterate 2 ((try simp (etaStruct := .none) only [push_cast, DrawG, Int.cast_ofNat_Int, seval, getD_in _ _ _ hlt, trpP]); (try (refine xsu ?_; try exact xtI))))
        refine gcP (fun hcc => between_s (w.troops.getD k default).load 0 (5 * (2 - (w.troops.getD k default).kind))) ?_
        (iterate 2 ((try simp (etaStruct := .none) only [push_cast, DrawG, Int.cast_ofNat_Int, seval, getD_in _ _ _ hlt, trpP]); (try (refine xsu ?_; try exact xtI))))
        (try (refine ⟨by kernel_rfl, ?_⟩))
        (iterate 2 ((try simp (etaStruct := .none) only [push_cast, DrawG, Int.cast_ofNat_Int, seval, getD_in _ _ _ hlt, trpP]); (try (refine xsu ?_; try exact xtI))))
        refine loopI (fun j : Nat => ⟨[(190, I .i64 j), (189, I .i64 k), (188, .c (.sl 7 ((w.troops.map trpP).take k))), (133, I .i64 k), (132, I .i64 w.troops.length), (131, .c (.sl 7 (w.troops.map trpP))), (10, .ptr 1 0 0), (4, B (((allN (baseB w) w.bases.length && allN (mineB w) w.mines.length) && (allN (troopB w) k && trp1 w (w.troops.getD k default))) && allN (fun j => decide ((w.troops.getD j default).id < (w.troops.getD k default).id) && !decide ((w.troops.getD j default).c = (w.troops.getD k default).c)) j)), (1, .ptr 0 0 0)], [(0, .blk 28 (wldC w)), (1, .blk 89 (trpC (w.troops.getD k default)))], 2⟩) (fun j : Nat => j ≤ k) (fun j : Nat => k - j) (0) (Nat.zero_le _) (To.mk [0, 1] rfl rfl (by decide) ?_ ?_) ?_
        ·simp (etaStruct := .none) only [push_cast, DrawG, Int.cast_ofNat_Int, seval]
        ·simp (etaStruct := .none) only [push_cast, DrawG, Int.cast_ofNat_Int, seval, allN, lk, trp1, Bool.and_true, ← Bool.and_assoc]
        rintro j hj
        (iterate 2 ((try simp (etaStruct := .none) only [push_cast, DrawG, Int.cast_ofNat_Int, seval, getD_in _ _ _ hlt, trpP]); (try (refine xsu ?_; try exact xtI))))
        refine cond_i (fun h9 => ?_) (fun h9 => ?_)
        ·(try replace h9 := xhh h9)
         have hltj : j < w.troops.length := by omega
         have hltk : j < (w.troops.take k).length := by rw [List.length_take]; omega
         have et : (w.troops.map trpP).take k = (w.troops.take k).map trpP := by rw [List.map_take]
         have eg : (w.troops.take k).getD j default = w.troops.getD j default := by simp [List.getD_eq_getElem?_getD, List.getElem?_take, show j < k by omega]
         (iterate 2 ((try simp (etaStruct := .none) only [push_cast, DrawG, Int.cast_ofNat_Int, seval, getD_in _ _ _ hlt, trpP, et, getD_in _ _ _ hltk, eg, trpP, cel_neq, cel_dec]); (try (refine xsu ?_; try exact xtI))))
         refine ⟨j + 1, by omega, by omega, To.mk [0, 1] rfl rfl (by decide) ?_ ?_⟩
         ·(iterate 2 ((try simp (etaStruct := .none) only [push_cast, DrawG, Int.cast_ofNat_Int, seval, getD_in _ _ _ hlt, trpP, et, getD_in _ _ _ hltk, eg, trpP, cel_neq, cel_dec]); (try (refine xsu ?_; try exact xtI))))
         ·(iterate 2 ((try simp (etaStruct := .none) only [push_cast, DrawG, Int.cast_ofNat_Int, seval, allN, ← Bool.and_assoc]); (try (refine xsu ?_; try exact xtI))))
        ·(try replace h9 := xhh h9)
         obtain rfl : k = j := by omega
         (iterate 2 ((try simp (etaStruct := .none) only [push_cast, DrawG, Int.cast_ofNat_Int, seval, getD_in _ _ _ hlt, trpP]); (try (refine xsu ?_; try exact xtI))))
         refine ⟨k + 1, by omega, by omega, To.mk [0] rfl rfl (by decide) ?_ ?_⟩
         ·(iterate 2 ((try simp (etaStruct := .none) only [push_cast, DrawG, Int.cast_ofNat_Int, seval, getD_in _ _ _ hlt, trpP]); (try (refine xsu ?_; try exact xtI))))
         ·(iterate 2 ((try simp (etaStruct := .none) only [push_cast, DrawG, Int.cast_ofNat_Int, seval, allN, troopB, trp2, hkd0, Bool.true_and, ← Bool.and_assoc]); (try (refine xsu ?_; try exact xtI))))
      ·(try replace h7 := xhh h7)
       obtain rfl : k = w.troops.length := by omega
       (try (refine xst ?_; try exact xtI))
       refine cond_i (fun h10 => ?_) (fun h10 => ?_)
       ·(try replace h10 := xhh h10)
        have e : worldE w = 4 := worldE_bad hf hb (by unfold worldB; simpa only [Bool.and_eq_false_iff] using h10)
        (try (refine xst ?_; try exact xtI))
        (first | (refine retA rfl (Wk.of ?_); (try simp (etaStruct := .none) only [push_cast, DrawG, Int.cast_ofNat_Int, seval]); first | done | (simp [e, *]; done) | (simp_all [e]; done)) | (refine retA rfl ?_; (try simp (etaStruct := .none) only [push_cast, DrawG, Int.cast_ofNat_Int, seval]); (try simp [e, *]); (try exact wkc)))
       ·(try replace h10 := xhh h10)
        have e : worldE w = 0 := worldE_fine hf hb hwf (by unfold worldB; simpa using h10)
        (try (refine xst ?_; try exact xtI))
        (first | (refine retA rfl (Wk.of ?_); (try simp (etaStruct := .none) only [push_cast, DrawG, Int.cast_ofNat_Int, seval]); first | done | (simp [e, *]; done) | (simp_all [e]; done)) | (refine retA rfl ?_; (try simp (etaStruct := .none) only [push_cast, DrawG, Int.cast_ofNat_Int, seval]); (try simp [e, *]); (try exact wkc)))
end Go.Proofs.YthiddmncjafklaaGreat
namespace Go.Proofs.YthiddmncjafklaaGreat
set_option linter.all false
open Go.RowKit
set_option maxRecDepth 100000
set_option maxHeartbeats 1000000
theorem cel_index (l : List Cel) (v : Cel) (hl : l.length ≤ 9223372036854775807) : Spec Tryz.prog 157 [.c (.sl 2 (l.map celP)), celA v] [] (I .i64 (ixOf (fun x => decide (v = x)) l)) [] := by
 refine spec_am Tryz.func157 rfl rfl mix 19 rfl [.tmp 4] Tryz.results157 (Nat.le_of_ble_eq_true rfl) ?_
 (try (refine xst ?_; try exact xtI))
 refine loopI (fun k : Nat => ⟨[(8, I .i64 k), (7, I .i64 l.length), (3, .ptr 0 0 0), (0, .c (.sl 2 (l.map celP)))], [(0, .blk 85 [I .i64 v.x, I .i64 v.y])], 1⟩) (fun k : Nat => k ≤ l.length ∧ ∀ j (hj : j < l.length), j < k → decide (v = l[j]) = false) (fun k : Nat => l.length - k) (0) (⟨Nat.zero_le _, fun j _ h => by omega⟩) (To.mk [0] rfl rfl (by decide) ?_ ?_) ?_
 ·simp (etaStruct := .none) only [push_cast, DrawG, Int.cast_ofNat_Int, seval]
 ·simp (etaStruct := .none) only [push_cast, DrawG, Int.cast_ofNat_Int, seval]
 rintro k ⟨hk, hn⟩
 (try (refine xst ?_; try exact xtI))
 refine cond_i (fun h1 => ?_) (fun h1 => ?_)
 ·(try replace h1 := xhh h1)
  have hlt : k < l.length := by omega
  (iterate 2 ((try simp (etaStruct := .none) only [push_cast, DrawG, Int.cast_ofNat_Int, seval, getD_in _ _ _ hlt, celP, cel_dec]); (try (refine xsu ?_; try exact xtI))))
  (try (refine ⟨by kernel_rfl, ?_⟩))
  (iterate 2 ((try simp (etaStruct := .none) only [push_cast, DrawG, Int.cast_ofNat_Int, seval, getD_in _ _ _ hlt, celP, cel_dec]); (try (refine xsu ?_; try exact xtI))))
  refine cond_i (fun h2 => ?_) (fun h2 => ?_)
  ·(try replace h2 := xhh h2)
   (iterate 2 ((try simp (etaStruct := .none) only [push_cast, DrawG, Int.cast_ofNat_Int, seval, getD_in _ _ _ hlt, celP, cel_dec]); (try (refine xsu ?_; try exact xtI))))
   exact ret0 rfl trivial (Wk.of (by rw [ixOf_hit (fun x => decide (v = x)) l k hlt (by rw [← getD_at _ _ hlt]; simpa using h2) hn]; rfl))
  ·(try replace h2 := xhh h2)
   (iterate 2 ((try simp (etaStruct := .none) only [push_cast, DrawG, Int.cast_ofNat_Int, seval, getD_in _ _ _ hlt, celP, cel_dec]); (try (refine xsu ?_; try exact xtI))))
   refine ⟨k + 1, ⟨by omega, fun j hj hjk => by
 rcases Nat.lt_or_ge j k with h | h
 ·simpa using hn j hj h
 ·obtain rfl : j = k := by omega
  rw [← getD_at _ _ hj]; simpa using h2⟩, by omega, To.mk [0] rfl rfl (by decide) ?_ ?_⟩
   ·(iterate 2 ((try simp (etaStruct := .none) only [push_cast, DrawG, Int.cast_ofNat_Int, seval, getD_in _ _ _ hlt, celP, cel_dec]); (try (refine xsu ?_; try exact xtI))))
   ·(iterate 2 ((try simp (etaStruct := .none) only [push_cast, DrawG, Int.cast_ofNat_Int, seval, getD_in _ _ _ hlt, celP, cel_dec]); (try (refine xsu ?_; try exact xtI))))
 ·(try replace h1 := xhh h1)
  (try (refine xst ?_; try exact xtI))
  exact ret0 rfl trivial (Wk.of (by rw [ixOf_miss (fun x => decide (v = x)) l (fun j hj => hn j hj (by omega))]; rfl))
theorem cel_contains (l : List Cel) (v : Cel) (hl : l.length ≤ 9223372036854775807) : Spec Tryz.prog 130 [.c (.sl 2 (l.map celP)), celA v] [] (B (l.any (fun x => decide (v = x)))) [] := by
 refine spec_am Tryz.func130 rfl rfl mix 9 rfl [.tmp 4] Tryz.results130 (Nat.le_of_ble_eq_true rfl) ?_
 (iterate 2 ((try simp (etaStruct := .none) only [push_cast, DrawG, Int.cast_ofNat_Int, seval, ixOf_any]); (try (refine xsu ?_; try exact xtI))))
 refine caP (cel_index l v hl) ?_
 (iterate 2 ((try simp (etaStruct := .none) only [push_cast, DrawG, Int.cast_ofNat_Int, seval, ixOf_any]); (try (refine xsu ?_; try exact xtI))))
 exact xrz rfl
theorem tground_s (f : Fld) (c : Cel) (h : fldE f = 0) (hl : f.p.length ≤ 9223372036854775807) : Spec Tryz.prog 129 [fldA f, celA c] [] (B (groundV f c)) [] := by
 refine spec_am Tryz.func129 rfl rfl mix 19 rfl [.tmp 4] Tryz.results129 (Nat.le_of_ble_eq_true rfl) ?_
 (try (refine xst ?_; try exact xtI))
 refine caP (at_s f c hl) ?_
 (try (refine xst ?_; try exact xtI))
 exact ret0 rfl trivial (Wk.of (congrArg B (by unfold atV groundV; rw [if_neg (by simp [h])]; cases inF f c <;> simp)))
theorem twithin_s (n a b : Int) : Spec Tryz.prog 131 [I .i64 n, I .i64 a, I .i64 b] [] (B (within n a b)) [] := by
 refine spec_am Tryz.func131 rfl rfl mix 15 rfl [.tmp 6] Tryz.results131 (Nat.le_of_ble_eq_true rfl) ?_
 (try (refine xst ?_; try exact xtI))
 exact ret0 rfl trivial (Wk.of (congrArg B (by unfold within; first | rfl | simp)))
def kindE (k : Int) : Int := if k = 1 ∨ k = 2 then 0 else 1
theorem tkind_s (k : Int) : Spec Tryz.prog 86 [I .i64 k] [] (.tup [kndA (kindV k), I .i64 (kindE k)]) [] := by
 refine spec_am Tryz.func86 rfl rfl mix 12 rfl [.cell 2 105, .tmp 3] Tryz.results86 (Nat.le_of_ble_eq_true rfl) ?_
 (try (refine xst ?_; try exact xtI))
 refine cond_i (fun h1 => ?_) (fun h1 => ?_)
 ·(try replace h1 := xhh h1)
  (try (refine xst ?_; try exact xtI))
  (first | (refine retA rfl (Wk.of ?_); (try simp (etaStruct := .none) only [push_cast, DrawG, Int.cast_ofNat_Int, seval]); first | done | (simp [kindV, kindE, *]; done) | (simp_all [kindV, kindE]; done)) | (refine retA rfl ?_; (try simp (etaStruct := .none) only [push_cast, DrawG, Int.cast_ofNat_Int, seval]); (try simp [kindV, kindE, *]); (try exact wkc)))
 ·(try replace h1 := xhh h1)
  (try (refine xst ?_; try exact xtI))
  refine cond_i (fun h2 => ?_) (fun h2 => ?_)
  ·(try replace h2 := xhh h2)
   (try (refine xst ?_; try exact xtI))
   (first | (refine retA rfl (Wk.of ?_); (try simp (etaStruct := .none) only [push_cast, DrawG, Int.cast_ofNat_Int, seval]); first | done | (simp [kindV, kindE, *]; done) | (simp_all [kindV, kindE]; done)) | (refine retA rfl ?_; (try simp (etaStruct := .none) only [push_cast, DrawG, Int.cast_ofNat_Int, seval]); (try simp [kindV, kindE, *]); (try exact wkc)))
  ·(try replace h2 := xhh h2)
   (try (refine xst ?_; try exact xtI))
   (first | (refine retA rfl (Wk.of ?_); (try simp (etaStruct := .none) only [push_cast, DrawG, Int.cast_ofNat_Int, seval]); first | done | (simp [kindV, kindE, *]; done) | (simp_all [kindV, kindE]; done)) | (refine retA rfl ?_; (try simp (etaStruct := .none) only [push_cast, DrawG, Int.cast_ofNat_Int, seval]); (try simp [kindV, kindE, *]); (try exact wkc)))
theorem base_any (w : Wld) (i : Nat) (hi : i < w.bases.length) : ((w.bases.take i).any fun x => decide (w.bases.getD i default = x)) = !allN (fun j => !decide (w.bases.getD j default = w.bases.getD i default)) i := by
 rw [Bool.eq_iff_iff, Bool.not_eq_true', ← Bool.not_eq_true, allN_iff, List.any_eq_true]
 constructor
 ·rintro ⟨x, hx, h⟩ hh
  obtain ⟨j, hj, rfl⟩ := List.getElem_of_mem hx
  rw [List.length_take] at hj
  have := hh j (by omega)
  rw [List.getElem_take] at h
  rw [getD_at _ _ (by omega)] at this
  simp only [decide_eq_true_eq] at h
  simp only [Bool.not_eq_true', decide_eq_false_iff_not] at this
  exact this h.symm
 ·intro hh
  apply Classical.byContradiction
  intro hn
  apply hh
  intro j hj
  simp only [Bool.not_eq_true', decide_eq_false_iff_not]
  intro he
  apply hn
  refine ⟨w.bases.getD j default, ?_, decide_eq_true he.symm⟩
  rw [getD_at _ _ (by omega)]
  exact List.mem_take_iff_getElem.2 ⟨j, by omega, rfl⟩
def playersV (w : Wld) : Bool := decide (w.stocks.length = w.bases.length) && allN (baseB w) w.bases.length
def minesV (w : Wld) : Bool := decide (w.mines.length = w.f.p.length) && allN (mineB w) w.mines.length
def troopsV (w : Wld) : Bool := within w.next 1 1000000 && within w.now 0 1000000 && allN (troopB w) w.troops.length
theorem ptm (w : Wld) : (playersV w && minesV w && troopsV w) = (worldF w && worldB w) := by
 unfold playersV minesV troopsV worldF worldB
 cases decide (w.stocks.length = w.bases.length) <;> cases decide (w.mines.length = w.f.p.length) <;> cases within w.next 1 1000000 <;> cases within w.now 0 1000000 <;> simp
theorem allN_not {p : Nat → Bool} {n k : Nat} (h : k < n) (hp : p k = false) : allN p n = false := by
 rw [← Bool.not_eq_true, allN_iff]; intro hh
 have := hh k h
 rw [hp] at this; simp at this
theorem tplayers_s (w : Wld) (hl : wldL w) (hf : fldE w.f = 0) : Spec Tryz.prog 82 [wldA w] [] (B (playersV w)) [] := by
 obtain ⟨l1, l2, l3, l4, l5⟩ := hl
 refine spec_am Tryz.func82 rfl rfl mix 43 rfl [.tmp 2] Tryz.results82 (Nat.le_of_ble_eq_true rfl) ?_
 (try (refine xst ?_; try exact xtI))
 refine cond_i (fun h1 => ?_) (fun h1 => ?_)
 ·(try replace h1 := xhh h1)
  have e : playersV w = false := by unfold playersV; rw [decide_eq_false (by omega)]; rfl
  (try (refine xst ?_; try exact xtI))
  (first | (refine retA rfl (Wk.of ?_); (try simp (etaStruct := .none) only [push_cast, DrawG, Int.cast_ofNat_Int, seval]); first | done | (simp [e, *]; done) | (simp_all [e]; done)) | (refine retA rfl ?_; (try simp (etaStruct := .none) only [push_cast, DrawG, Int.cast_ofNat_Int, seval]); (try simp [e, *]); (try exact wkc)))
 ·(try replace h1 := xhh h1)
  have hls : w.stocks.length = w.bases.length := by omega
  (try (refine xst ?_; try exact xtI))
  refine loopI (fun k : Nat => ⟨[(15, I .i64 k), (14, I .i64 w.bases.length), (13, .c (.sl 2 (w.bases.map celP))), (1, .ptr 0 0 0)], [(0, .blk 28 (wldC w))], 1⟩) (fun k : Nat => k ≤ w.bases.length ∧ allN (baseB w) k = true) (fun k : Nat => w.bases.length - k) (0) (⟨Nat.zero_le _, rfl⟩) (To.mk [0] rfl rfl (by decide) ?_ ?_) ?_
  ·simp (etaStruct := .none) only [push_cast, DrawG, Int.cast_ofNat_Int, seval]
  ·simp (etaStruct := .none) only [push_cast, DrawG, Int.cast_ofNat_Int, seval]
  rintro k ⟨hk, hn⟩
  (try (refine xst ?_; try exact xtI))
  refine cond_i (fun h2 => ?_) (fun h2 => ?_)
  ·(try replace h2 := xhh h2)
   have hlt : k < w.bases.length := by omega
   have hlt2 : k < w.stocks.length := by omega
   have et : (w.bases.map celP).take k = (w.bases.take k).map celP := by rw [List.map_take]
   have ba := base_any w k hlt
   (iterate 2 ((try simp (etaStruct := .none) only [push_cast, DrawG, Int.cast_ofNat_Int, seval, getD_in _ _ _ hlt, celP, getD_in _ _ _ hlt2, i64P, et]); (try (refine xsu ?_; try exact xtI))))
   refine caP (tground_s w.f (w.bases.getD k default) hf l1) ?_
   (iterate 2 ((try simp (etaStruct := .none) only [push_cast, DrawG, Int.cast_ofNat_Int, seval, getD_in _ _ _ hlt, celP, getD_in _ _ _ hlt2, i64P, et]); (try (refine xsu ?_; try exact xtI))))
   refine gcP (fun hcc => cel_contains (w.bases.take k) (w.bases.getD k default) (by rw [List.length_take]; omega)) ?_
   (iterate 2 ((try simp (etaStruct := .none) only [push_cast, DrawG, Int.cast_ofNat_Int, seval, getD_in _ _ _ hlt, celP, getD_in _ _ _ hlt2, i64P, et]); (try (refine xsu ?_; try exact xtI))))
   refine gcP (fun hcc => twithin_s (w.stocks.getD k default) 0 1000000) ?_
   (iterate 2 ((try simp (etaStruct := .none) only [push_cast, DrawG, Int.cast_ofNat_Int, seval, getD_in _ _ _ hlt, celP, getD_in _ _ _ hlt2, i64P, et]); (try (refine xsu ?_; try exact xtI))))
   (try (refine ⟨by kernel_rfl, ?_⟩))
   (iterate 2 ((try simp (etaStruct := .none) only [push_cast, DrawG, Int.cast_ofNat_Int, seval, getD_in _ _ _ hlt, celP, getD_in _ _ _ hlt2, i64P, et]); (try (refine xsu ?_; try exact xtI))))
   refine cond_i (fun h3 => ?_) (fun h3 => ?_)
   ·(try replace h3 := xhh h3)
    have e0 : baseB w k = false := by
     unfold baseB
     rw [ba] at h3
     rcases h3 with (h | h) | h
     ·rw [h]; rfl
     ·have h' : allN (fun j => !decide (w.bases.getD j default = w.bases.getD k default)) k = false := by simpa using h
      rw [h']; simp
     ·rw [h]; simp
    have e : playersV w = false := by unfold playersV; rw [allN_not hlt e0]; simp
    (iterate 2 ((try simp (etaStruct := .none) only [push_cast, DrawG, Int.cast_ofNat_Int, seval, getD_in _ _ _ hlt, celP, getD_in _ _ _ hlt2, i64P, et]); (try (refine xsu ?_; try exact xtI))))
    (first | (refine retA rfl (Wk.of ?_); (try simp (etaStruct := .none) only [push_cast, DrawG, Int.cast_ofNat_Int, seval]); first | done | (simp [e, *]; done) | (simp_all [e]; done)) | (refine retA rfl ?_; (try simp (etaStruct := .none) only [push_cast, DrawG, Int.cast_ofNat_Int, seval]); (try simp [e, *]); (try exact wkc)))
   ·(try replace h3 := xhh h3)
    have e0 : baseB w k = true := by
     unfold baseB
     rw [ba] at h3
     rw [h3.1.1, h3.2]
     simpa using h3.1.2
    (iterate 2 ((try simp (etaStruct := .none) only [push_cast, DrawG, Int.cast_ofNat_Int, seval, getD_in _ _ _ hlt, celP, getD_in _ _ _ hlt2, i64P, et]); (try (refine xsu ?_; try exact xtI))))
    refine ⟨k + 1, ⟨by omega, by rw [allN, hn, e0]; rfl⟩, by omega, To.mk [0] rfl rfl (by decide) ?_ ?_⟩
    ·(iterate 2 ((try simp (etaStruct := .none) only [push_cast, DrawG, Int.cast_ofNat_Int, seval, getD_in _ _ _ hlt, celP, getD_in _ _ _ hlt2, i64P, et]); (try (refine xsu ?_; try exact xtI))))
    ·(iterate 2 ((try simp (etaStruct := .none) only [push_cast, DrawG, Int.cast_ofNat_Int, seval, getD_in _ _ _ hlt, celP, getD_in _ _ _ hlt2, i64P, et]); (try (refine xsu ?_; try exact xtI))))
  ·(try replace h2 := xhh h2)
   obtain rfl : k = w.bases.length := by omega
   have e : playersV w = true := by unfold playersV; rw [decide_eq_true hls, hn]; rfl
   (try (refine xst ?_; try exact xtI))
   (first | (refine retA rfl (Wk.of ?_); (try simp (etaStruct := .none) only [push_cast, DrawG, Int.cast_ofNat_Int, seval]); first | done | (simp [e, *]; done) | (simp_all [e]; done)) | (refine retA rfl ?_; (try simp (etaStruct := .none) only [push_cast, DrawG, Int.cast_ofNat_Int, seval]); (try simp [e, *]); (try exact wkc)))
theorem tmines_s (w : Wld) (hl : wldL w) : Spec Tryz.prog 83 [wldA w] [] (B (minesV w)) [] := by
 obtain ⟨l1, l2, l3, l4, l5⟩ := hl
 refine spec_am Tryz.func83 rfl rfl mix 38 rfl [.tmp 2] Tryz.results83 (Nat.le_of_ble_eq_true rfl) ?_
 (try (refine xst ?_; try exact xtI))
 refine cond_i (fun h1 => ?_) (fun h1 => ?_)
 ·(try replace h1 := xhh h1)
  have e : minesV w = false := by unfold minesV; rw [decide_eq_false (by omega)]; rfl
  (try (refine xst ?_; try exact xtI))
  (first | (refine retA rfl (Wk.of ?_); (try simp (etaStruct := .none) only [push_cast, DrawG, Int.cast_ofNat_Int, seval]); first | done | (simp [e, *]; done) | (simp_all [e]; done)) | (refine retA rfl ?_; (try simp (etaStruct := .none) only [push_cast, DrawG, Int.cast_ofNat_Int, seval]); (try simp [e, *]); (try exact wkc)))
 ·(try replace h1 := xhh h1)
  have hls : w.mines.length = w.f.p.length := by omega
  (try (refine xst ?_; try exact xtI))
  refine loopI (fun k : Nat => ⟨[(16, I .i64 k), (15, I .i64 w.mines.length), (14, .c (.sl 1 (w.mines.map i64P))), (1, .ptr 0 0 0)], [(0, .blk 28 (wldC w))], 1⟩) (fun k : Nat => k ≤ w.mines.length ∧ allN (mineB w) k = true) (fun k : Nat => w.mines.length - k) (0) (⟨Nat.zero_le _, rfl⟩) (To.mk [0] rfl rfl (by decide) ?_ ?_) ?_
  ·simp (etaStruct := .none) only [push_cast, DrawG, Int.cast_ofNat_Int, seval]
  ·simp (etaStruct := .none) only [push_cast, DrawG, Int.cast_ofNat_Int, seval]
  rintro k ⟨hk, hn⟩
  (try (refine xst ?_; try exact xtI))
  refine cond_i (fun h2 => ?_) (fun h2 => ?_)
  ·(try replace h2 := xhh h2)
   have hlt : k < w.mines.length := by omega
   have hlt2 : k < w.f.p.length := by omega
   (iterate 2 ((try simp (etaStruct := .none) only [push_cast, DrawG, Int.cast_ofNat_Int, seval, getD_in _ _ _ hlt, getD_in _ _ _ hlt2, i64P]); (try (refine xsu ?_; try exact xtI))))
   refine caP (twithin_s (w.mines.getD k default) 0 1000000) ?_
   (iterate 2 ((try simp (etaStruct := .none) only [push_cast, DrawG, Int.cast_ofNat_Int, seval, getD_in _ _ _ hlt, getD_in _ _ _ hlt2, i64P]); (try (refine xsu ?_; try exact xtI))))
   refine cond_i (fun h3 => ?_) (fun h3 => ?_)
   ·(try replace h3 := xhh h3)
    have e0 : mineB w k = false := by
     unfold mineB
     rcases h3 with h | ⟨h, h'⟩
     ·rw [h]; rfl
     ·rw [decide_eq_false (by omega), decide_eq_false (by omega)]; simp
    have e : minesV w = false := by unfold minesV; rw [allN_not hlt e0]; simp
    (iterate 2 ((try simp (etaStruct := .none) only [push_cast, DrawG, Int.cast_ofNat_Int, seval, getD_in _ _ _ hlt, getD_in _ _ _ hlt2, i64P]); (try (refine xsu ?_; try exact xtI))))
    (first | (refine retA rfl (Wk.of ?_); (try simp (etaStruct := .none) only [push_cast, DrawG, Int.cast_ofNat_Int, seval]); first | done | (simp [e, *]; done) | (simp_all [e]; done)) | (refine retA rfl ?_; (try simp (etaStruct := .none) only [push_cast, DrawG, Int.cast_ofNat_Int, seval]); (try simp [e, *]); (try exact wkc)))
   ·(try replace h3 := xhh h3)
    have e0 : mineB w k = true := by
     unfold mineB
     rw [h3.1]
     have := within_iff.1 h3.1
     simp only [Bool.true_and, Bool.or_eq_true, decide_eq_true_eq]
     omega
    (iterate 2 ((try simp (etaStruct := .none) only [push_cast, DrawG, Int.cast_ofNat_Int, seval, getD_in _ _ _ hlt, getD_in _ _ _ hlt2, i64P]); (try (refine xsu ?_; try exact xtI))))
    refine ⟨k + 1, ⟨by omega, by rw [allN, hn, e0]; rfl⟩, by omega, To.mk [0] rfl rfl (by decide) ?_ ?_⟩
    ·(iterate 2 ((try simp (etaStruct := .none) only [push_cast, DrawG, Int.cast_ofNat_Int, seval, getD_in _ _ _ hlt, getD_in _ _ _ hlt2, i64P]); (try (refine xsu ?_; try exact xtI))))
    ·(iterate 2 ((try simp (etaStruct := .none) only [push_cast, DrawG, Int.cast_ofNat_Int, seval, getD_in _ _ _ hlt, getD_in _ _ _ hlt2, i64P]); (try (refine xsu ?_; try exact xtI))))
  ·(try replace h2 := xhh h2)
   obtain rfl : k = w.mines.length := by omega
   have e : minesV w = true := by unfold minesV; rw [decide_eq_true hls, hn]; rfl
   (try (refine xst ?_; try exact xtI))
   (first | (refine retA rfl (Wk.of ?_); (try simp (etaStruct := .none) only [push_cast, DrawG, Int.cast_ofNat_Int, seval]); first | done | (simp [e, *]; done) | (simp_all [e]; done)) | (refine retA rfl ?_; (try simp (etaStruct := .none) only [push_cast, DrawG, Int.cast_ofNat_Int, seval]); (try simp [e, *]); (try exact wkc)))
end Go.Proofs.YthiddmncjafklaaGreat
namespace Go.Proofs.YthiddmncjafklaaGreat
set_option linter.all false
open Go.RowKit
set_option maxRecDepth 100000
set_option maxHeartbeats 1000000
def lastV (w : Wld) (i : Nat) : Int := if i = 0 then 0 else (w.troops.getD (i - 1) default).id
theorem lastV_0 (w : Wld) : lastV w 0 = 0 := rfl
theorem lastV_s (w : Wld) (k : Nat) : lastV w (k + 1) = (w.troops.getD k default).id := by simp [lastV]
def seenC (w : Wld) (k : Nat) (c : Cel) : Bool := !allN (fun j => !decide ((w.troops.getD j default).c = c)) k
theorem seenC_0 (w : Wld) (c : Cel) : seenC w 0 c = false := rfl
theorem seenC_succ (w : Wld) (k : Nat) (c : Cel) : seenC w (k + 1) c = (seenC w k c || decide ((w.troops.getD k default).c = c)) := by
 unfold seenC; rw [allN]; simp [Bool.not_and]
theorem and_all (p q : Nat → Bool) : ∀ n, allN (fun j => p j && q j) n = (allN p n && allN q n)
 | 0 => rfl
 | n + 1 => by
  rw [allN, allN, allN, and_all p q n]
  cases allN p n <;> cases allN q n <;> cases p n <;> cases q n <;> rfl
theorem last_all {w : Wld} {k : Nat} (h : allN (troopB w) k = true) (t : Trp) : 0 ≤ lastV w k ∧ (lastV w k < t.id ↔ 1 ≤ t.id ∧ allN (fun j => decide ((w.troops.getD j default).id < t.id)) k = true) := by
 have hh := (allN_iff _ _).1 h
 cases k with
 | zero => simp [lastV, allN]; omega
 | succ k =>
  have hk := hh k (by omega)
  unfold troopB trp1 trp2 at hk
  simp only [Bool.and_eq_true, and_all, within_iff] at hk
  have h2 := (allN_iff _ _).1 hk.2.2.1
  have el : lastV w (k + 1) = (w.troops.getD k default).id := by simp [lastV]
  rw [el, allN_iff]
  refine ⟨by omega, fun h3 => ⟨by omega, fun j hj => ?_⟩, fun h3 => ?_⟩
  ·rw [decide_eq_true_eq]
   rcases Nat.lt_or_ge j k with h4 | h4
   ·have := h2 j h4
    rw [decide_eq_true_eq] at this; omega
   ·rw [show j = k by omega]; exact h3
  ·have := h3.2 k (by omega)
   rwa [decide_eq_true_eq] at this
theorem troopB_eq {w : Wld} {k : Nat} (h : allN (troopB w) k = true) : troopB w k = (within (w.troops.getD k default).kind 1 2 && within (w.troops.getD k default).id (lastV w k + 1) (w.next - 1) && within (w.troops.getD k default).owner 0 ((w.bases.length : Int) - 1) && groundV w.f (w.troops.getD k default).c && within (w.troops.getD k default).life 1 (kindV (w.troops.getD k default).kind).life && within (w.troops.getD k default).load 0 (5 * (2 - (w.troops.getD k default).kind)) && !seenC w k (w.troops.getD k default).c) := by
 obtain ⟨_, h2⟩ := last_all h (w.troops.getD k default)
 unfold troopB trp1 trp2 seenC
 rw [and_all, Bool.not_not]
 have e : within (w.troops.getD k default).id (lastV w k + 1) (w.next - 1) = (within (w.troops.getD k default).id 1 (w.next - 1) && allN (fun j => decide ((w.troops.getD j default).id < (w.troops.getD k default).id)) k) := by
  rw [Bool.eq_iff_iff, Bool.and_eq_true, within_iff, within_iff]
  constructor
  ·rintro ⟨a, b⟩
   have := h2.1 (by omega)
   exact ⟨⟨this.1, b⟩, this.2⟩
  ·rintro ⟨⟨a, b⟩, c⟩
   have := h2.2 ⟨a, c⟩
   exact ⟨by omega, b⟩
 rw [e]
 cases within (w.troops.getD k default).kind 1 2 <;> cases within (w.troops.getD k default).id 1 (w.next - 1) <;> cases within (w.troops.getD k default).owner 0 ((w.bases.length : Int) - 1) <;> cases groundV w.f (w.troops.getD k default).c <;> cases within (w.troops.getD k default).life 1 (kindV (w.troops.getD k default).kind).life <;> cases within (w.troops.getD k default).load 0 (5 * (2 - (w.troops.getD k default).kind)) <;> simp
theorem kind_f {k : Int} (h : ¬ kindE k = 0) : within k 1 2 = false := by
 rw [within_f]; unfold kindE at h; split at h <;> omega
theorem kind_t {k : Int} (h : kindE k = 0) : within k 1 2 = true := by
 rw [within_iff]; unfold kindE at h; split at h <;> omega
theorem kind_load {k : Int} (h : within k 1 2 = true) : 5 * (2 - k) = if k = 1 then 5 else 0 := by
 rw [within_iff] at h; split <;> omega
def tkeyC (c : Cel) : List Int := [c.x, c.y]
theorem tkeyC_inj {a b : Cel} : tkeyC a = tkeyC b ↔ a = b := by
 cases a; cases b; simp [tkeyC]
theorem ttroops_s (w : Wld) (hl : wldL w) (hf : fldE w.f = 0) (hn1 : within w.next 1 1000000 = true) (hn2 : within w.now 0 1000000 = true) : Spec Tryz.prog 84 [wldA w] [] (B (troopsV w)) [] := by
 obtain ⟨l1, l2, l3, l4, l5⟩ := hl
 have hnx := within_iff.1 hn1
 refine spec_am Tryz.func84 rfl rfl mix 96 rfl [.tmp 2] Tryz.results84 (Nat.le_of_ble_eq_true rfl) ?_
 (iterate 2 ((try simp (etaStruct := .none) only [push_cast, DrawG, Int.cast_ofNat_Int, seval, beq_self_eq_true]); (try (refine xsu ?_; try exact xtI))))
 refine loopI (fun x : Nat × List (List Int × Int) => ⟨[(14, I .i64 x.1), (13, I .i64 w.troops.length), (12, .c (.sl 7 (w.troops.map trpP))), (4, .map 1), (3, I .i64 (lastV w x.1)), (1, .ptr 0 0 0)], [(0, .blk 28 (wldC w)), (1, .mp true 2 x.2)], 2⟩) (fun x : Nat × List (List Int × Int) => x.1 ≤ w.troops.length ∧ allN (troopB w) x.1 = true ∧ (∀ c : Cel, mget (tkeyC c) x.2 = if seenC w x.1 c then 1 else 0)) (fun x : Nat × List (List Int × Int) => w.troops.length - x.1) ((0, [])) (⟨Nat.zero_le _, rfl, fun c => by rw [seenC_0]; rfl⟩) (To.mk [0, 1] rfl rfl (by decide) ?_ ?_) ?_
 ·simp (etaStruct := .none) only [push_cast, DrawG, Int.cast_ofNat_Int, seval]
 ·simp (etaStruct := .none) only [push_cast, DrawG, Int.cast_ofNat_Int, seval, lastV_0]
 rintro ⟨k, es⟩ ⟨hk, hn, hm⟩
 simp only at hk hn hm
 (iterate 2 ((try simp (etaStruct := .none) only [push_cast, DrawG, Int.cast_ofNat_Int, seval, beq_self_eq_true]); (try (refine xsu ?_; try exact xtI))))
 refine cond_i (fun h1 => ?_) (fun h1 => ?_)
 ·(try replace h1 := xhh h1)
  have hlt : k < w.troops.length := by omega
  have hla := (last_all hn (w.troops.getD k default)).1
  have hla2 : lastV w k ≤ 1000000 := by
   unfold lastV
   split
   ·omega
   ·have := (allN_iff _ _).1 hn (k - 1) (by omega)
    unfold troopB trp1 at this
    simp only [Bool.and_eq_true, within_iff] at this
    omega
  (iterate 2 ((try simp (etaStruct := .none) only [push_cast, DrawG, Int.cast_ofNat_Int, seval, beq_self_eq_true, getD_in _ _ _ hlt, trpP]); (try (refine xsu ?_; try exact xtI))))
  refine caP (tkind_s (w.troops.getD k default).kind) ?_
  (iterate 2 ((try simp (etaStruct := .none) only [push_cast, DrawG, Int.cast_ofNat_Int, seval, beq_self_eq_true, getD_in _ _ _ hlt, trpP]); (try (refine xsu ?_; try exact xtI))))
  refine cond_j (fun _u : Unit => ⟨[(14, I .i64 k), (13, I .i64 w.troops.length), (12, .c (.sl 7 (w.troops.map trpP))), (9, I .i64 (if (w.troops.getD k default).kind = 1 then 5 else 0)), (8, I .i64 (kindE (w.troops.getD k default).kind)), (7, .ptr 3 0 0), (6, .ptr 2 0 0), (4, .map 1), (3, I .i64 (lastV w k)), (1, .ptr 0 0 0)], [(0, .blk 28 (wldC w)), (1, .mp true 2 es), (2, .blk 89 (trpC (w.troops.getD k default))), (3, .blk 105 [I .i64 (kindV (w.troops.getD k default).kind).life, I .i64 (kindV (w.troops.getD k default).kind).blow, I .i64 (kindV (w.troops.getD k default).kind).load, I .i64 (kindV (w.troops.getD k default).kind).price])], 4⟩) (fun _u : Unit => Tr) (fun h2 => ?_) (fun h2 => ?_) ?_
  ·(try replace h2 := xhh h2)
   (iterate 2 ((try simp (etaStruct := .none) only [push_cast, DrawG, Int.cast_ofNat_Int, seval, beq_self_eq_true, getD_in _ _ _ hlt, trpP]); (try (refine xsu ?_; try exact xtI))))
   refine ⟨(), trI, To.mk [0, 1, 2, 3] rfl rfl (by decide) ?_ ?_⟩
   ·(iterate 2 ((try simp (etaStruct := .none) only [push_cast, DrawG, Int.cast_ofNat_Int, seval, beq_self_eq_true, getD_in _ _ _ hlt, trpP]); (try (refine xsu ?_; try exact xtI))))
   ·(iterate 2 ((try simp (etaStruct := .none) only [push_cast, DrawG, Int.cast_ofNat_Int, seval, if_pos h2]); (try (refine xsu ?_; try exact xtI))))
  ·(try replace h2 := xhh h2)
   (iterate 2 ((try simp (etaStruct := .none) only [push_cast, DrawG, Int.cast_ofNat_Int, seval, beq_self_eq_true, getD_in _ _ _ hlt, trpP]); (try (refine xsu ?_; try exact xtI))))
   refine ⟨(), trI, To.mk [0, 1, 2, 3] rfl rfl (by decide) ?_ ?_⟩
   ·(iterate 2 ((try simp (etaStruct := .none) only [push_cast, DrawG, Int.cast_ofNat_Int, seval, beq_self_eq_true, getD_in _ _ _ hlt, trpP]); (try (refine xsu ?_; try exact xtI))))
   ·(iterate 2 ((try simp (etaStruct := .none) only [push_cast, DrawG, Int.cast_ofNat_Int, seval, if_neg h2]); (try (refine xsu ?_; try exact xtI))))
  ·rintro _ _
   (iterate 2 ((try simp (etaStruct := .none) only [push_cast, DrawG, Int.cast_ofNat_Int, seval, beq_self_eq_true, getD_in _ _ _ hlt, trpP]); (try (refine xsu ?_; try exact xtI))))
   refine gcP (fun hcc => twithin_s (w.troops.getD k default).id (lastV w k + 1) (w.next - 1)) ?_
   (iterate 2 ((try simp (etaStruct := .none) only [push_cast, DrawG, Int.cast_ofNat_Int, seval, beq_self_eq_true, getD_in _ _ _ hlt, trpP]); (try (refine xsu ?_; try exact xtI))))
   refine gcP (fun hcc => twithin_s (w.troops.getD k default).owner 0 ((w.bases.length : Int) - 1)) ?_
   (iterate 2 ((try simp (etaStruct := .none) only [push_cast, DrawG, Int.cast_ofNat_Int, seval, beq_self_eq_true, getD_in _ _ _ hlt, trpP]); (try (refine xsu ?_; try exact xtI))))
   refine gcP (fun hcc => tground_s w.f (w.troops.getD k default).c hf l1) ?_
   (iterate 2 ((try simp (etaStruct := .none) only [push_cast, DrawG, Int.cast_ofNat_Int, seval, beq_self_eq_true, getD_in _ _ _ hlt, trpP]); (try (refine xsu ?_; try exact xtI))))
   refine gcP (fun hcc => twithin_s (w.troops.getD k default).life 1 (kindV (w.troops.getD k default).kind).life) ?_
   (iterate 2 ((try simp (etaStruct := .none) only [push_cast, DrawG, Int.cast_ofNat_Int, seval, beq_self_eq_true, getD_in _ _ _ hlt, trpP]); (try (refine xsu ?_; try exact xtI))))
   refine gcP (fun hcc => twithin_s (w.troops.getD k default).load 0 (if (w.troops.getD k default).kind = 1 then 5 else 0)) ?_
   (iterate 2 ((try simp (etaStruct := .none) only [push_cast, DrawG, Int.cast_ofNat_Int, seval, beq_self_eq_true, getD_in _ _ _ hlt, trpP]); (try (refine xsu ?_; try exact xtI))))
   refine cond_i (fun h3 => ?_) (fun h3 => ?_)
   ·(try replace h3 := xhh h3)
    have e0 : troopB w k = false := by
     rw [troopB_eq hn]
     rcases h3 with ((((h | h) | h) | h) | h) | h
     ·rw [kind_f h]; rfl
     ·rw [h]; simp
     ·rw [h]; simp
     ·rw [h]; simp
     ·rw [h]; simp
     ·cases hkk : within (w.troops.getD k default).kind 1 2 with
      | false => rfl
      | true => rw [kind_load hkk, h]; simp
    have e : troopsV w = false := by unfold troopsV; rw [allN_not hlt e0]; simp
    (iterate 2 ((try simp (etaStruct := .none) only [push_cast, DrawG, Int.cast_ofNat_Int, seval, beq_self_eq_true, getD_in _ _ _ hlt, trpP]); (try (refine xsu ?_; try exact xtI))))
    (first | (refine retA rfl (Wk.of ?_); (try simp (etaStruct := .none) only [push_cast, DrawG, Int.cast_ofNat_Int, seval]); first | done | (simp [e, *]; done) | (simp_all [e]; done)) | (refine retA rfl ?_; (try simp (etaStruct := .none) only [push_cast, DrawG, Int.cast_ofNat_Int, seval]); (try simp [e, *]); (try exact wkc)))
   ·(try replace h3 := xhh h3)
    have hkk := kind_t h3.1.1.1.1.1
    have e0 : troopB w k = !seenC w k (w.troops.getD k default).c := by
     rw [troopB_eq hn, hkk, kind_load hkk, h3.1.1.1.1.2, h3.1.1.1.2, h3.1.1.2, h3.1.2, h3.2]; rfl
    have hg : mget [(w.troops.getD k default).c.x, (w.troops.getD k default).c.y] es = if seenC w k (w.troops.getD k default).c = true then 1 else 0 := hm (w.troops.getD k default).c
    have hg2 : 0 ≤ mget [(w.troops.getD k default).c.x, (w.troops.getD k default).c.y] es ∧ mget [(w.troops.getD k default).c.x, (w.troops.getD k default).c.y] es ≤ 1 := by rw [hg]; split <;> omega
    obtain ⟨es', hes'⟩ : ∃ es', es' = mput [(w.troops.getD k default).c.x, (w.troops.getD k default).c.y] (mget [(w.troops.getD k default).c.x, (w.troops.getD k default).c.y] es + 1) es := ⟨_, rfl⟩
    have hp1 := mget_put [(w.troops.getD k default).c.x, (w.troops.getD k default).c.y] (mget [(w.troops.getD k default).c.x, (w.troops.getD k default).c.y] es + 1) es
    have hp2 := fun c => mget_put_if [(w.troops.getD k default).c.x, (w.troops.getD k default).c.y] (tkeyC c) (mget [(w.troops.getD k default).c.x, (w.troops.getD k default).c.y] es + 1) es
    rw [← hes'] at hp1 hp2
    have hmp := mpos_lt [(w.troops.getD k default).c.x, (w.troops.getD k default).c.y] es
    (iterate 2 ((try simp (etaStruct := .none) only [push_cast, DrawG, Int.cast_ofNat_Int, seval, beq_self_eq_true, getD_in _ _ _ hlt, trpP, mput_def, ← hes', hp1]); (try (refine xsu ?_; try exact xtI))))
    (try (refine ⟨by kernel_rfl, ?_⟩))
    (iterate 2 ((try simp (etaStruct := .none) only [push_cast, DrawG, Int.cast_ofNat_Int, seval, beq_self_eq_true, getD_in _ _ _ hlt, trpP, mput_def, ← hes', hp1]); (try (refine xsu ?_; try exact xtI))))
    refine cond_i (fun h4 => ?_) (fun h4 => ?_)
    ·(try replace h4 := xhh h4)
     have hs : seenC w k (w.troops.getD k default).c = true := by
      cases hs : seenC w k (w.troops.getD k default).c with
      | true => rfl
      | false => rw [hg, hs] at h4; simp at h4
     have e : troopsV w = false := by unfold troopsV; rw [allN_not hlt (by rw [e0, hs]; rfl)]; simp
     (iterate 2 ((try simp (etaStruct := .none) only [push_cast, DrawG, Int.cast_ofNat_Int, seval, beq_self_eq_true, getD_in _ _ _ hlt, trpP, mput_def, ← hes', hp1]); (try (refine xsu ?_; try exact xtI))))
     (first | (refine retA rfl (Wk.of ?_); (try simp (etaStruct := .none) only [push_cast, DrawG, Int.cast_ofNat_Int, seval]); first | done | (simp [e, *]; done) | (simp_all [e]; done)) | (refine retA rfl ?_; (try simp (etaStruct := .none) only [push_cast, DrawG, Int.cast_ofNat_Int, seval]); (try simp [e, *]); (try exact wkc)))
    ·(try replace h4 := xhh h4)
     have hs : seenC w k (w.troops.getD k default).c = false := by
      cases hs : seenC w k (w.troops.getD k default).c with
      | false => rfl
      | true => rw [hg, hs] at h4; simp at h4
     (iterate 2 ((try simp (etaStruct := .none) only [push_cast, DrawG, Int.cast_ofNat_Int, seval, beq_self_eq_true, getD_in _ _ _ hlt, trpP, mput_def, ← hes', hp1]); (try (refine xsu ?_; try exact xtI))))
     refine ⟨(k + 1, es'), ⟨by simp only; omega, by simp only; rw [allN, hn, e0, hs]; rfl, fun c => by
 simp only
 rw [hp2 c, seenC_succ, hg, hs]
 by_cases hc : (w.troops.getD k default).c = c
 ·rw [if_pos (show tkeyC c = [(w.troops.getD k default).c.x, (w.troops.getD k default).c.y] from tkeyC_inj.2 hc.symm), decide_eq_true hc]; simp
 ·rw [if_neg (show ¬ tkeyC c = [(w.troops.getD k default).c.x, (w.troops.getD k default).c.y] from fun h => hc (tkeyC_inj.1 h).symm), decide_eq_false hc, hm c, Bool.or_false]⟩, by simp only; omega, To.mk [0, 1] rfl rfl (by decide) ?_ ?_⟩
     ·(iterate 2 ((try simp (etaStruct := .none) only [push_cast, DrawG, Int.cast_ofNat_Int, seval, beq_self_eq_true, getD_in _ _ _ hlt, trpP, mput_def, ← hes', hp1]); (try (refine xsu ?_; try exact xtI))))
     ·(iterate 2 ((try simp (etaStruct := .none) only [push_cast, DrawG, Int.cast_ofNat_Int, seval, lastV_s]); (try (refine xsu ?_; try exact xtI))))
 ·(try replace h1 := xhh h1)
  obtain rfl : k = w.troops.length := by omega
  have e : troopsV w = true := by unfold troopsV; rw [hn1, hn2, hn]; rfl
  (iterate 2 ((try simp (etaStruct := .none) only [push_cast, DrawG, Int.cast_ofNat_Int, seval, beq_self_eq_true]); (try (refine xsu ?_; try exact xtI))))
  refine caP (twithin_s w.next 1 1000000) ?_
  (iterate 2 ((try simp (etaStruct := .none) only [push_cast, DrawG, Int.cast_ofNat_Int, seval, beq_self_eq_true]); (try (refine xsu ?_; try exact xtI))))
  refine gcP (fun hcc => twithin_s w.now 0 1000000) ?_
  (iterate 2 ((try simp (etaStruct := .none) only [push_cast, DrawG, Int.cast_ofNat_Int, seval, beq_self_eq_true]); (try (refine xsu ?_; try exact xtI))))
  exact ret0 rfl trivial (Wk.of (by rw [e, hn1, hn2]; rfl))
theorem ttroops_bad (w : Wld) (hl : wldL w) (hf : fldE w.f = 0) (hb : (within w.next 1 1000000 && within w.now 0 1000000) = false) : Spec Tryz.prog 84 [wldA w] [] (B (troopsV w)) [] := by
 obtain ⟨l1, l2, l3, l4, l5⟩ := hl
 have e : troopsV w = false := by unfold troopsV; rw [hb]; rfl
 refine spec_am Tryz.func84 rfl rfl mix 96 rfl [.tmp 2] Tryz.results84 (Nat.le_of_ble_eq_true rfl) ?_
 (iterate 2 ((try simp (etaStruct := .none) only [push_cast, DrawG, Int.cast_ofNat_Int, seval, beq_self_eq_true]); (try (refine xsu ?_; try exact xtI))))
 refine loopI (fun x : Nat × Int × List (List Int × Int) => ⟨[(14, I .i64 x.1), (13, I .i64 w.troops.length), (12, .c (.sl 7 (w.troops.map trpP))), (4, .map 1), (3, I .i64 x.2.1), (1, .ptr 0 0 0)], [(0, .blk 28 (wldC w)), (1, .mp true 2 x.2.2)], 2⟩) (fun x : Nat × Int × List (List Int × Int) => x.1 ≤ w.troops.length) (fun x : Nat × Int × List (List Int × Int) => w.troops.length - x.1) ((0, 0, [])) (Nat.zero_le _) (To.mk [0, 1] rfl rfl (by decide) ?_ ?_) ?_
 ·simp (etaStruct := .none) only [push_cast, DrawG, Int.cast_ofNat_Int, seval]
 ·simp (etaStruct := .none) only [push_cast, DrawG, Int.cast_ofNat_Int, seval]
 rintro ⟨k, last, es⟩ hk
 simp only at hk
 (iterate 2 ((try simp (etaStruct := .none) only [push_cast, DrawG, Int.cast_ofNat_Int, seval, beq_self_eq_true]); (try (refine xsu ?_; try exact xtI))))
 refine cond_i (fun h1 => ?_) (fun h1 => ?_)
 ·(try replace h1 := xhh h1)
  have hlt : k < w.troops.length := by omega
  (iterate 2 ((try simp (etaStruct := .none) only [push_cast, DrawG, Int.cast_ofNat_Int, seval, beq_self_eq_true, getD_in _ _ _ hlt, trpP]); (try (refine xsu ?_; try exact xtI))))
  refine caP (tkind_s (w.troops.getD k default).kind) ?_
  (iterate 2 ((try simp (etaStruct := .none) only [push_cast, DrawG, Int.cast_ofNat_Int, seval, beq_self_eq_true, getD_in _ _ _ hlt, trpP]); (try (refine xsu ?_; try exact xtI))))
  refine cond_j (fun m : Int => ⟨[(14, I .i64 k), (13, I .i64 w.troops.length), (12, .c (.sl 7 (w.troops.map trpP))), (9, I .i64 m), (8, I .i64 (kindE (w.troops.getD k default).kind)), (7, .ptr 3 0 0), (6, .ptr 2 0 0), (4, .map 1), (3, I .i64 last), (1, .ptr 0 0 0)], [(0, .blk 28 (wldC w)), (1, .mp true 2 es), (2, .blk 89 (trpC (w.troops.getD k default))), (3, .blk 105 [I .i64 (kindV (w.troops.getD k default).kind).life, I .i64 (kindV (w.troops.getD k default).kind).blow, I .i64 (kindV (w.troops.getD k default).kind).load, I .i64 (kindV (w.troops.getD k default).kind).price])], 4⟩) (fun m : Int => Tr) (fun h2 => ?_) (fun h2 => ?_) ?_
  ·(try replace h2 := xhh h2)
   (iterate 2 ((try simp (etaStruct := .none) only [push_cast, DrawG, Int.cast_ofNat_Int, seval, beq_self_eq_true, getD_in _ _ _ hlt, trpP]); (try (refine xsu ?_; try exact xtI))))
   refine ⟨5, trI, To.mk [0, 1, 2, 3] rfl rfl (by decide) ?_ ?_⟩
   ·(iterate 2 ((try simp (etaStruct := .none) only [push_cast, DrawG, Int.cast_ofNat_Int, seval, beq_self_eq_true, getD_in _ _ _ hlt, trpP]); (try (refine xsu ?_; try exact xtI))))
   ·(iterate 2 ((try simp (etaStruct := .none) only [push_cast, DrawG, Int.cast_ofNat_Int, seval, beq_self_eq_true, getD_in _ _ _ hlt, trpP]); (try (refine xsu ?_; try exact xtI))))
  ·(try replace h2 := xhh h2)
   (iterate 2 ((try simp (etaStruct := .none) only [push_cast, DrawG, Int.cast_ofNat_Int, seval, beq_self_eq_true, getD_in _ _ _ hlt, trpP]); (try (refine xsu ?_; try exact xtI))))
   refine ⟨0, trI, To.mk [0, 1, 2, 3] rfl rfl (by decide) ?_ ?_⟩
   ·(iterate 2 ((try simp (etaStruct := .none) only [push_cast, DrawG, Int.cast_ofNat_Int, seval, beq_self_eq_true, getD_in _ _ _ hlt, trpP]); (try (refine xsu ?_; try exact xtI))))
   ·(iterate 2 ((try simp (etaStruct := .none) only [push_cast, DrawG, Int.cast_ofNat_Int, seval, beq_self_eq_true, getD_in _ _ _ hlt, trpP]); (try (refine xsu ?_; try exact xtI))))
  ·rintro m _
   (iterate 2 ((try simp (etaStruct := .none) only [push_cast, DrawG, Int.cast_ofNat_Int, seval, beq_self_eq_true, getD_in _ _ _ hlt, trpP]); (try (refine xsu ?_; try exact xtI))))
   refine gcP (fun hcc => twithin_s (w.troops.getD k default).id _ _) ?_
   (iterate 2 ((try simp (etaStruct := .none) only [push_cast, DrawG, Int.cast_ofNat_Int, seval, beq_self_eq_true, getD_in _ _ _ hlt, trpP]); (try (refine xsu ?_; try exact xtI))))
   refine gcP (fun hcc => twithin_s (w.troops.getD k default).owner 0 ((w.bases.length : Int) - 1)) ?_
   (iterate 2 ((try simp (etaStruct := .none) only [push_cast, DrawG, Int.cast_ofNat_Int, seval, beq_self_eq_true, getD_in _ _ _ hlt, trpP]); (try (refine xsu ?_; try exact xtI))))
   refine gcP (fun hcc => tground_s w.f (w.troops.getD k default).c hf l1) ?_
   (iterate 2 ((try simp (etaStruct := .none) only [push_cast, DrawG, Int.cast_ofNat_Int, seval, beq_self_eq_true, getD_in _ _ _ hlt, trpP]); (try (refine xsu ?_; try exact xtI))))
   refine gcP (fun hcc => twithin_s (w.troops.getD k default).life 1 (kindV (w.troops.getD k default).kind).life) ?_
   (iterate 2 ((try simp (etaStruct := .none) only [push_cast, DrawG, Int.cast_ofNat_Int, seval, beq_self_eq_true, getD_in _ _ _ hlt, trpP]); (try (refine xsu ?_; try exact xtI))))
   refine gcP (fun hcc => twithin_s (w.troops.getD k default).load 0 m) ?_
   (iterate 2 ((try simp (etaStruct := .none) only [push_cast, DrawG, Int.cast_ofNat_Int, seval, beq_self_eq_true, getD_in _ _ _ hlt, trpP]); (try (refine xsu ?_; try exact xtI))))
   refine cond_i (fun h3 => ?_) (fun h3 => ?_)
   ·(try replace h3 := xhh h3)
    (iterate 2 ((try simp (etaStruct := .none) only [push_cast, DrawG, Int.cast_ofNat_Int, seval, beq_self_eq_true, getD_in _ _ _ hlt, trpP]); (try (refine xsu ?_; try exact xtI))))
    (first | (refine retA rfl (Wk.of ?_); (try simp (etaStruct := .none) only [push_cast, DrawG, Int.cast_ofNat_Int, seval]); first | done | (simp [e, *]; done) | (simp_all [e]; done)) | (refine retA rfl ?_; (try simp (etaStruct := .none) only [push_cast, DrawG, Int.cast_ofNat_Int, seval]); (try simp [e, *]); (try exact wkc)))
   ·(try replace h3 := xhh h3)
    have hmp := mpos_lt [(w.troops.getD k default).c.x, (w.troops.getD k default).c.y] es
    (iterate 2 ((try simp (etaStruct := .none) only [push_cast, DrawG, Int.cast_ofNat_Int, seval, beq_self_eq_true, getD_in _ _ _ hlt, trpP, mput_def]); (try (refine xsu ?_; try exact xtI))))
    (try (refine ⟨by kernel_rfl, ?_⟩))
    (iterate 2 ((try simp (etaStruct := .none) only [push_cast, DrawG, Int.cast_ofNat_Int, seval, beq_self_eq_true, getD_in _ _ _ hlt, trpP, mput_def]); (try (refine xsu ?_; try exact xtI))))
    refine cond_i (fun h4 => ?_) (fun h4 => ?_)
    ·(try replace h4 := xhh h4)
     (iterate 2 ((try simp (etaStruct := .none) only [push_cast, DrawG, Int.cast_ofNat_Int, seval, beq_self_eq_true, getD_in _ _ _ hlt, trpP, mput_def]); (try (refine xsu ?_; try exact xtI))))
     (first | (refine retA rfl (Wk.of ?_); (try simp (etaStruct := .none) only [push_cast, DrawG, Int.cast_ofNat_Int, seval]); first | done | (simp [e, *]; done) | (simp_all [e]; done)) | (refine retA rfl ?_; (try simp (etaStruct := .none) only [push_cast, DrawG, Int.cast_ofNat_Int, seval]); (try simp [e, *]); (try exact wkc)))
    ·(try replace h4 := xhh h4)
     (iterate 2 ((try simp (etaStruct := .none) only [push_cast, DrawG, Int.cast_ofNat_Int, seval, beq_self_eq_true, getD_in _ _ _ hlt, trpP, mput_def]); (try (refine xsu ?_; try exact xtI))))
     refine ⟨(k + 1, (w.troops.getD k default).id, mput [(w.troops.getD k default).c.x, (w.troops.getD k default).c.y] (IntKind.i64.wrap (mget [(w.troops.getD k default).c.x, (w.troops.getD k default).c.y] es + 1)) es), by simp only; omega, by simp only; omega, To.mk [0, 1] rfl rfl (by decide) ?_ ?_⟩
     ·(iterate 2 ((try simp (etaStruct := .none) only [push_cast, DrawG, Int.cast_ofNat_Int, seval, beq_self_eq_true, getD_in _ _ _ hlt, trpP, mput_def]); (try (refine xsu ?_; try exact xtI))))
     ·(iterate 2 ((try simp (etaStruct := .none) only [push_cast, DrawG, Int.cast_ofNat_Int, seval, beq_self_eq_true, getD_in _ _ _ hlt, trpP, mput_def]); (try (refine xsu ?_; try exact xtI))))
 ·(try replace h1 := xhh h1)
  (iterate 2 ((try simp (etaStruct := .none) only [push_cast, DrawG, Int.cast_ofNat_Int, seval, beq_self_eq_true]); (try (refine xsu ?_; try exact xtI))))
  refine caP (twithin_s w.next 1 1000000) ?_
  (iterate 2 ((try simp (etaStruct := .none) only [push_cast, DrawG, Int.cast_ofNat_Int, seval, beq_self_eq_true]); (try (refine xsu ?_; try exact xtI))))
  refine gcP (fun hcc => twithin_s w.now 0 1000000) ?_
  (iterate 2 ((try simp (etaStruct := .none) only [push_cast, DrawG, Int.cast_ofNat_Int, seval, beq_self_eq_true]); (try (refine xsu ?_; try exact xtI))))
  exact ret0 rfl trivial (Wk.of (by rw [e, hb]; rfl))
theorem ttroops_all (w : Wld) (hl : wldL w) (hf : fldE w.f = 0) : Spec Tryz.prog 84 [wldA w] [] (B (troopsV w)) [] := by
 cases hb : (within w.next 1 1000000 && within w.now 0 1000000) with
 | false => exact ttroops_bad w hl hf hb
 | true => rw [Bool.and_eq_true] at hb; exact ttroops_s w hl hf hb.1 hb.2
theorem tcheck_s (w : Wld) (hl : wldL w) : Spec Tryz.prog 53 [wldA w] [] (I .i64 (worldE w)) [] := by
 refine spec_am Tryz.func53 rfl rfl mix 33 rfl [.tmp 2] Tryz.results53 (Nat.le_of_ble_eq_true rfl) ?_
 (try (refine xst ?_; try exact xtI))
 refine caP (fcheck_s w.f hl.1) ?_
 (try (refine xst ?_; try exact xtI))
 refine cond_i (fun h1 => ?_) (fun h1 => ?_)
 ·(try replace h1 := xhh h1)
  have e : worldE w = fldE w.f := by unfold worldE; rw [if_pos (by simpa using h1)]
  (try (refine xst ?_; try exact xtI))
  (first | (refine retA rfl (Wk.of ?_); (try simp (etaStruct := .none) only [push_cast, DrawG, Int.cast_ofNat_Int, seval]); first | done | (simp [e, *]; done) | (simp_all [e]; done)) | (refine retA rfl ?_; (try simp (etaStruct := .none) only [push_cast, DrawG, Int.cast_ofNat_Int, seval]); (try simp [e, *]); (try exact wkc)))
 ·(try replace h1 := xhh h1)
  have hf : fldE w.f = 0 := by simpa using h1
  (try (refine xst ?_; try exact xtI))
  refine cond_i (fun h2 => ?_) (fun h2 => ?_)
  ·(try replace h2 := xhh h2)
   have e : worldE w = 2 := by unfold worldE; rw [if_neg (by simp [hf]), if_pos (by omega)]
   (try (refine xst ?_; try exact xtI))
   (first | (refine retA rfl (Wk.of ?_); (try simp (etaStruct := .none) only [push_cast, DrawG, Int.cast_ofNat_Int, seval]); first | done | (simp [e, *]; done) | (simp_all [e]; done)) | (refine retA rfl ?_; (try simp (etaStruct := .none) only [push_cast, DrawG, Int.cast_ofNat_Int, seval]); (try simp [e, *]); (try exact wkc)))
  ·(try replace h2 := xhh h2)
   have hb : ¬ (8 < w.bases.length ∨ 100 < w.troops.length) := by omega
   (try (refine xst ?_; try exact xtI))
   refine caP (tplayers_s w hl hf) ?_
   (try (refine xst ?_; try exact xtI))
   refine gcP (fun hcc => tmines_s w hl) ?_
   (try (refine xst ?_; try exact xtI))
   refine gcP (fun hcc => ttroops_all w hl hf) ?_
   (try (refine xst ?_; try exact xtI))
   refine cond_i (fun h3 => ?_) (fun h3 => ?_)
   ·(try replace h3 := xhh h3)
    have e : worldE w = 4 := by
     unfold worldE; rw [if_neg (by simp [hf]), if_neg hb, if_neg]
     rw [← ptm]
     rcases h3 with (h | h) | h <;> rw [h] <;> simp
    (try (refine xst ?_; try exact xtI))
    (first | (refine retA rfl (Wk.of ?_); (try simp (etaStruct := .none) only [push_cast, DrawG, Int.cast_ofNat_Int, seval]); first | done | (simp [e, *]; done) | (simp_all [e]; done)) | (refine retA rfl ?_; (try simp (etaStruct := .none) only [push_cast, DrawG, Int.cast_ofNat_Int, seval]); (try simp [e, *]); (try exact wkc)))
   ·(try replace h3 := xhh h3)
    have e : worldE w = 0 := by
     unfold worldE; rw [if_neg (by simp [hf]), if_neg hb, if_pos]
     rw [← ptm, h3.1.1, h3.1.2, h3.2]; rfl
    (try (refine xst ?_; try exact xtI))
    (first | (refine retA rfl (Wk.of ?_); (try simp (etaStruct := .none) only [push_cast, DrawG, Int.cast_ofNat_Int, seval]); first | done | (simp [e, *]; done) | (simp_all [e]; done)) | (refine retA rfl ?_; (try simp (etaStruct := .none) only [push_cast, DrawG, Int.cast_ofNat_Int, seval]); (try simp [e, *]); (try exact wkc)))
end Go.Proofs.YthiddmncjafklaaGreat
namespace Go.Proofs.YthiddmncjafklaaGreat
set_option linter.all false
open Go.RowKit
set_option maxRecDepth 100000
set_option maxHeartbeats 1000000
theorem worldE_ok {w : Wld} (h : worldE w = 0) : fldE w.f = 0 ∧ w.bases.length ≤ 8 ∧ w.troops.length ≤ 100 ∧ worldF w = true ∧ worldB w = true := by
 unfold worldE at h
 split at h
 ·rename_i h1; exact absurd h h1
 ·rename_i h1
  split at h
  ·simp at h
  ·rename_i h2
   split at h
   ·rename_i h3
    rw [Bool.and_eq_true] at h3
    exact ⟨Decidable.not_not.1 h1, by omega, by omega, h3.1, h3.2⟩
   ·simp at h
theorem worldF_ok {w : Wld} (h : worldF w = true) : w.stocks.length = w.bases.length ∧ w.mines.length = w.f.p.length ∧ (1 ≤ w.next ∧ w.next ≤ 1000000) ∧ 0 ≤ w.now ∧ w.now ≤ 1000000 := by
 unfold worldF at h
 simp only [Bool.and_eq_true, decide_eq_true_eq, within_iff] at h
 exact ⟨h.1.1.1, h.1.1.2, h.1.2, h.2⟩
structure TrpOk (w : Wld) (t : Trp) : Prop where
 kind : t.kind = 1 ∨ t.kind = 2
 id : 1 ≤ t.id ∧ t.id ≤ w.next - 1
 owner : 0 ≤ t.owner ∧ t.owner ≤ (w.bases.length : Int) - 1
 at_ : groundV w.f t.c = true
 x : 0 ≤ t.c.x ∧ t.c.x < w.f.w
 y : 0 ≤ t.c.y ∧ t.c.y < w.f.h
 life : 1 ≤ t.life ∧ t.life ≤ (kindV t.kind).life
 load : 0 ≤ t.load ∧ t.load ≤ 5 * (2 - t.kind)
theorem ground_iff {f : Fld} {c : Cel} : groundV f c = true ↔ inF f c = true ∧ placeV f c ≠ 1 := by unfold groundV; simp
theorem troop_ok {w : Wld} (h : worldE w = 0) {k : Nat} (hk : k < w.troops.length) : TrpOk w (w.troops.getD k default) ∧ trp2 w k = true := by
 obtain ⟨_, _, _, _, h5⟩ := worldE_ok h
 unfold worldB at h5
 simp only [Bool.and_eq_true] at h5
 have := (allN_iff _ _).1 h5.2 k hk
 unfold troopB trp1 at this
 simp only [Bool.and_eq_true, within_iff] at this
 obtain ⟨a, ⟨⟨⟨⟨b, c⟩, d⟩, e⟩, f⟩, g⟩ := this
 have hi := inF_iff.1 (ground_iff.1 d).1
 exact ⟨⟨by omega, b, c, d, hi.1, hi.2, e, f⟩, g⟩
theorem troop_mem {w : Wld} (h : worldE w = 0) {t : Trp} (ht : t ∈ w.troops) : TrpOk w t := by
 obtain ⟨i, hi, rfl⟩ := List.getElem_of_mem ht
 have := (troop_ok h hi).1
 rwa [getD_at _ _ hi] at this
theorem trp_ix (F : FuncId) (a b : List AV) (l : List Trp) (p : Trp → Bool) (hl : l.length ≤ 9223372036854775807) (hp : ∀ n ∈ l, Spec Tryz.prog F (a ++ [trpA n] ++ b) [] (B (p n)) []) (ha : ∀ h, cvL [] h a = a) (hb : ∀ h, cvL [] h b = b) :
 Spec Tryz.prog 107 [.c (.sl 7 (l.map trpP)), .clo (.func F) a b] [] (I .i64 (ixOf p l)) [] := by
 refine spec_am Tryz.func107 rfl rfl mix 19 rfl [.tmp 4] Tryz.results107 (Nat.le_of_ble_eq_true rfl) ?_
 simp (etaStruct := .none) only [push_cast, DrawG, Int.cast_ofNat_Int, seval]
 refine loopI (fun k : Nat => ⟨[(8, I .i64 k), (7, I .i64 l.length), (0, .c (.sl 7 (l.map trpP))), (1, .clo (.func F) a b)], [], 0⟩) (fun k => k ≤ l.length ∧ ∀ j (hj : j < l.length), j < k → p l[j] = false) (fun k => l.length - k) 0 ⟨Nat.zero_le _, fun j _ h => by omega⟩ (To.mk [] rfl rfl List.nodup_nil trivial ?_) ?_
 ·simp (etaStruct := .none) only [push_cast, DrawG, Int.cast_ofNat_Int, seval, ha, hb]
 ·rintro k ⟨hk, hn⟩
  simp (etaStruct := .none) only [push_cast, DrawG, Int.cast_ofNat_Int, seval]
  refine cond_i (fun h => ?_) (fun h => ?_)
  ·have hlt : k < l.length := by simpa using h
   simp (etaStruct := .none) only [push_cast, DrawG, Int.cast_ofNat_Int, seval, getD_map _ _ _ hlt, trpP]
   repeat with_reducible refine obA ?_
   refine callP (hp _ (List.getElem_mem hlt)) (by simp only [cvL_append, ha, hb, cvL, cv]; exact WkL.refl _) ?_
   simp (etaStruct := .none) only [push_cast, DrawG, Int.cast_ofNat_Int, seval]
   refine cond_i (fun h => ?_) (fun h => ?_)
   ·simp (etaStruct := .none) only [push_cast, DrawG, Int.cast_ofNat_Int, seval]
    exact ret0 rfl trivial (Wk.of (by rw [ixOf_hit p l k hlt h hn]; rfl))
   ·simp (etaStruct := .none) only [push_cast, DrawG, Int.cast_ofNat_Int, seval]
    refine ⟨k + 1, ⟨by omega, fun j hj hjk => ?_⟩, by omega, To.mk [] rfl rfl List.nodup_nil trivial ?_⟩
    ·by_cases e : j = k
     ·subst e; exact h
     ·exact hn j hj (by omega)
    ·simp (etaStruct := .none) only [push_cast, DrawG, Int.cast_ofNat_Int, seval, ha, hb]
     simp (disch := omega) only [wrap_in, wk_self, tdv, tmd]
  ·have hge : k = l.length := by simp at h; omega
   subst hge
   simp (etaStruct := .none) only [push_cast, DrawG, Int.cast_ofNat_Int, seval]
   exact ret0 rfl trivial (Wk.of (by rw [ixOf_miss p l (fun j hj => hn j hj hj)]; rfl))
theorem ixOf_ge {α : Type} (p : α → Bool) (l : List α) : -1 ≤ ixOf p l ∧ ixOf p l < l.length := by
 unfold ixOf
 cases h : l.findIdx? p with
 | none => simp; omega
 | some i =>
  obtain ⟨hi, _⟩ := List.findIdx?_eq_some_iff_getElem.1 h
  simp only; omega
theorem filter_snoc {α : Type} [Inhabited α] (p : α → Bool) (l : List α) (k : Nat) (h : k < l.length) : (l.take (k + 1)).filter p = if p (l.getD k default) then (l.take k).filter p ++ [l.getD k default] else (l.take k).filter p := by
 rw [take_snoc l k h, List.filter_append, List.filter_cons, List.filter_nil]
 split <;> simp
end Go.Proofs.YthiddmncjafklaaGreat
namespace Go.Proofs.YthiddmncjafklaaGreat
set_option linter.all false
open Go.RowKit
set_option maxRecDepth 100000
set_option maxHeartbeats 1000000
structure Blw where
 by_ : Int
 at_ : Int
 deriving DecidableEq, Inhabited
def blwP (b : Blw) : List PV := [pI b.by_, pI b.at_]
structure Gop where
 id : Int
 to : Cel
 deriving DecidableEq, Inhabited
def gopP (g : Gop) : List PV := [pI g.id, pI g.to.x, pI g.to.y]
structure Ded where
 kind : Int
 who : Int
 c : Cel
 what : Int
 deriving DecidableEq, Inhabited
def dedP (d : Ded) : List PV := [pI d.kind, pI d.who, pI d.c.x, pI d.c.y, pI d.what]
def findT (w : Wld) (i : Int) : Option Trp := w.troops.find? fun t => decide (t.id = i)
def trp0 : Trp := ⟨0, 0, 0, ⟨0, 0⟩, 0, 0⟩
theorem find_hit {α : Type} [Inhabited α] (p : α → Bool) (l : List α) (k : Nat) (h : k < l.length) (hp : p (l.getD k default) = true) (hn : ∀ j, j < k → p (l.getD j default) = false) : l.find? p = some (l.getD k default) := by
 induction l generalizing k with
 | nil => simp at h
 | cons a r ih =>
  cases k with
  | zero => simp only [List.getD_cons_zero] at hp ⊢; rw [List.find?_cons, hp]
  | succ k =>
   have h0 := hn 0 (by omega)
   simp only [List.getD_cons_zero] at h0
   rw [List.find?_cons, h0]
   simp only [List.getD_cons_succ] at hp ⊢
   exact ih k (by simpa using h) hp (fun j hj => by have := hn (j + 1) (by omega); simpa using this)
theorem find_miss {α : Type} [Inhabited α] (p : α → Bool) (l : List α) (hn : ∀ j, j < l.length → p (l.getD j default) = false) : l.find? p = none := by
 rw [List.find?_eq_none]
 intro x hx
 obtain ⟨i, hi, rfl⟩ := List.getElem_of_mem hx
 have := hn i hi
 rw [getD_at _ _ hi] at this
 simp [this]
theorem troopOf_s (w : Wld) (i : Int) (hl : wldL w) : Spec Tryz.prog 96 [wldA w, I .i64 i] [] (.tup [trpA ((findT w i).getD trp0), B (findT w i).isSome]) [] := by
 obtain ⟨l1, l2, l3, l4, l5⟩ := hl
 refine spec_am Tryz.func96 rfl rfl mix 22 rfl [.cell 4 89, .tmp 5] Tryz.results96 (Nat.le_of_ble_eq_true rfl) ?_
 (try (refine xst ?_; try exact xtI))
 refine loopI (fun k : Nat => ⟨[(11, I .i64 k), (10, I .i64 w.troops.length), (9, .c (.sl 7 (w.troops.map trpP))), (4, .ptr 0 0 0), (1, I .i64 i)], [(0, .blk 89 [I .i64 0, I .i64 0, I .i64 0, I .i64 0, I .i64 0, I .i64 0, I .i64 0])], 1⟩) (fun k : Nat => k ≤ w.troops.length ∧ ∀ j, j < k → decide ((w.troops.getD j default).id = i) = false) (fun k : Nat => w.troops.length - k) (0) (⟨Nat.zero_le _, fun j h => by omega⟩) (To.mk [1] rfl rfl (by decide) ?_ ?_) ?_
 ·simp (etaStruct := .none) only [push_cast, DrawG, Int.cast_ofNat_Int, seval]
 ·simp (etaStruct := .none) only [push_cast, DrawG, Int.cast_ofNat_Int, seval]
 rintro k ⟨hk, hn⟩
 (try (refine xst ?_; try exact xtI))
 refine cond_i (fun h1 => ?_) (fun h1 => ?_)
 ·(try replace h1 := xhh h1)
  have hlt : k < w.troops.length := by omega
  (iterate 2 ((try simp (etaStruct := .none) only [push_cast, DrawG, Int.cast_ofNat_Int, seval, getD_in _ _ _ hlt, trpP]); (try (refine xsu ?_; try exact xtI))))
  refine cond_i (fun h2 => ?_) (fun h2 => ?_)
  ·(try replace h2 := xhh h2)
   have e : findT w i = some (w.troops.getD k default) := find_hit _ _ k hlt (by simpa using h2) (fun j hj => by simpa using hn j hj)
   (iterate 2 ((try simp (etaStruct := .none) only [push_cast, DrawG, Int.cast_ofNat_Int, seval, getD_in _ _ _ hlt, trpP]); (try (refine xsu ?_; try exact xtI))))
   refine ret0 rfl (by repeat' (first | exact trivial | exact rfl | refine ⟨?_, ?_⟩)) (Wk.of ?_)
   rw [e]; simp (etaStruct := .none) only [push_cast, DrawG, Int.cast_ofNat_Int, seval]
   try rfl
  ·(try replace h2 := xhh h2)
   (iterate 2 ((try simp (etaStruct := .none) only [push_cast, DrawG, Int.cast_ofNat_Int, seval, getD_in _ _ _ hlt, trpP]); (try (refine xsu ?_; try exact xtI))))
   refine ⟨k + 1, ⟨by omega, fun j hj => by
 rcases Nat.lt_or_ge j k with h | h
 ·simpa using hn j h
 ·rw [show j = k by omega]; simpa using h2⟩, by omega, To.mk [0] rfl rfl (by decide) ?_ ?_⟩
   ·(iterate 2 ((try simp (etaStruct := .none) only [push_cast, DrawG, Int.cast_ofNat_Int, seval, getD_in _ _ _ hlt, trpP]); (try (refine xsu ?_; try exact xtI))))
   ·(iterate 2 ((try simp (etaStruct := .none) only [push_cast, DrawG, Int.cast_ofNat_Int, seval, getD_in _ _ _ hlt, trpP]); (try (refine xsu ?_; try exact xtI))))
 ·(try replace h1 := xhh h1)
  have e : findT w i = none := find_miss _ _ (fun j hj => by simpa using hn j (by omega))
  (try (refine xst ?_; try exact xtI))
  refine ret0 rfl (by repeat' (first | exact trivial | exact rfl | refine ⟨?_, ?_⟩)) (Wk.of ?_)
  rw [e]; simp (etaStruct := .none) only [push_cast, DrawG, Int.cast_ofNat_Int, seval]
  try rfl
def allowV (o : Ord) (w : Wld) : Bool := if o.kind = 5 then decide (o.by_ < w.bases.length) else match findT w o.who with | some t => decide (t.owner = o.by_) | none => false
theorem allow_s (o : Ord) (w : Wld) (hl : wldL w) : Spec Tryz.prog 62 [ordA o, wldA w] [] (B (allowV o w)) [] := by
 refine spec_am Tryz.func62 rfl rfl mix 31 rfl [.tmp 4] Tryz.results62 (Nat.le_of_ble_eq_true rfl) ?_
 (try (refine xst ?_; try exact xtI))
 refine cond_i (fun h1 => ?_) (fun h1 => ?_)
 ·(try replace h1 := xhh h1)
  have e : allowV o w = decide (o.by_ < w.bases.length) := by unfold allowV; rw [if_pos h1]
  (try (refine xst ?_; try exact xtI))
  (first | (refine retA rfl (Wk.of ?_); (try simp (etaStruct := .none) only [push_cast, DrawG, Int.cast_ofNat_Int, seval]); first | done | (simp [e, *]; done) | (simp_all [e]; done)) | (refine retA rfl ?_; (try simp (etaStruct := .none) only [push_cast, DrawG, Int.cast_ofNat_Int, seval]); (try simp [e, *]); (try exact wkc)))
 ·(try replace h1 := xhh h1)
  have e : allowV o w = ((findT w o.who).isSome && decide (((findT w o.who).getD trp0).owner = o.by_)) := by
   unfold allowV; rw [if_neg (by simpa using h1)]; cases findT w o.who <;> rfl
  (try (refine xst ?_; try exact xtI))
  refine caP (troopOf_s w o.who hl) ?_
  (try (refine xst ?_; try exact xtI))
  (first | (refine retA rfl (Wk.of ?_); (try simp (etaStruct := .none) only [push_cast, DrawG, Int.cast_ofNat_Int, seval]); first | done | (simp [e, *]; done) | (simp_all [e]; done)) | (refine retA rfl ?_; (try simp (etaStruct := .none) only [push_cast, DrawG, Int.cast_ofNat_Int, seval]); (try simp [e, *]); (try exact wkc)))
def addB (o : Ord) : List Blw := if o.kind = 1 then [⟨o.who, o.what⟩] else []
def addG (o : Ord) : List Gop := if o.kind = 2 then [⟨o.who, o.c⟩] else []
def dedOf (o : Ord) : Ded := ⟨o.kind - 2, if o.kind = 5 then o.by_ else o.who, o.c, o.what⟩
def addD (o : Ord) : List Ded := if 2 < o.kind then [dedOf o] else []
def blowsV (l : List Ord) (w : Wld) : List Blw := (l.filter fun o => allowV o w).flatMap addB
def goesV (l : List Ord) (w : Wld) : List Gop := (l.filter fun o => allowV o w).flatMap addG
def deedsV (l : List Ord) (w : Wld) : List Ded := (l.filter fun o => allowV o w).flatMap addD
theorem flat_step {α : Type} (p : Ord → Bool) (f : Ord → List α) (l : List Ord) (k : Nat) (h : k < l.length) : ((l.take (k + 1)).filter p).flatMap f = ((l.take k).filter p).flatMap f ++ (if p (l.getD k default) then f (l.getD k default) else []) := by
 rw [filter_snoc p l k h]
 split <;> simp
theorem ford_len {α : Type} (p : Ord → Bool) (f : Ord → List α) (hf : ∀ o, (f o).length ≤ 1) : ∀ l : List Ord, ((l.filter p).flatMap f).length ≤ l.length
 | [] => by simp
 | a :: r => by
  have := ford_len p f hf r
  have h1 := hf a
  rw [List.filter_cons]
  split
  ·rw [List.flatMap_cons, List.length_append, List.length_cons]; omega
  ·rw [List.length_cons]; omega
theorem addB_len (o : Ord) : (addB o).length ≤ 1 := by unfold addB; split <;> simp
theorem addG_len (o : Ord) : (addG o).length ≤ 1 := by unfold addG; split <;> simp
theorem addD_len (o : Ord) : (addD o).length ≤ 1 := by unfold addD; split <;> simp
theorem blows_s (l : List Ord) (w : Wld) (hl : wldL w) (hll : l.length ≤ 100) : Spec Tryz.prog 29 [.c (.sl 6 (l.map ordP)), wldA w] [] (.c (.sl 2 ((blowsV l w).map blwP))) [] := by
 refine spec_am Tryz.func29 rfl rfl mix 32 rfl [.tmp 4] Tryz.results29 (Nat.le_of_ble_eq_true rfl) ?_
 (try (refine xst ?_; try exact xtI))
 refine loopI (fun k : Nat => ⟨[(10, I .i64 k), (9, I .i64 l.length), (8, .c (.sl 6 (l.map ordP))), (5, .own 1), (3, .ptr 0 0 0)], [(0, .blk 28 (wldC w)), (1, .row 124 2 ((blowsV (l.take k) w).map blwP))], 2⟩) (fun k : Nat => k ≤ l.length) (fun k : Nat => l.length - k) (0) (Nat.zero_le _) ((To.nil 5 124 2 rfl).trans (To.mk [0, 1] rfl rfl (by decide) ?_ ?_)) ?_
 ·simp (etaStruct := .none) only [push_cast, DrawG, Int.cast_ofNat_Int, seval, blowsV, List.filter_nil, List.flatMap_nil]
 ·simp (etaStruct := .none) only [push_cast, DrawG, Int.cast_ofNat_Int, seval]
 rintro k hk
 (try (refine xst ?_; try exact xtI))
 refine cond_i (fun h1 => ?_) (fun h1 => ?_)
 ·(try replace h1 := xhh h1)
  have hlt : k < l.length := by omega
  have st := flat_step (fun o => allowV o w) addB l k hlt
  have hfl := ford_len (fun o => allowV o w) addB addB_len (l.take k)
  rw [List.length_take] at hfl
  change blowsV (l.take (k + 1)) w = blowsV (l.take k) w ++ _ at st
  change (blowsV (l.take k) w).length ≤ _ at hfl
  (iterate 2 ((try simp (etaStruct := .none) only [push_cast, DrawG, Int.cast_ofNat_Int, seval, getD_in _ _ _ hlt, ordP]); (try (refine xsu ?_; try exact xtI))))
  refine gcP (fun hcc => allow_s (l.getD k default) w hl) ?_
  (iterate 2 ((try simp (etaStruct := .none) only [push_cast, DrawG, Int.cast_ofNat_Int, seval, getD_in _ _ _ hlt, ordP]); (try (refine xsu ?_; try exact xtI))))
  refine cond_i (fun h2 => ?_) (fun h2 => ?_)
  ·(try replace h2 := xhh h2)
   have e : blowsV (l.take (k + 1)) w = blowsV (l.take k) w ++ [⟨(l.getD k default).who, (l.getD k default).what⟩] := by rw [st, if_pos h2.2]; unfold addB; rw [if_pos h2.1]
   (iterate 2 ((try simp (etaStruct := .none) only [push_cast, DrawG, Int.cast_ofNat_Int, seval, getD_in _ _ _ hlt, ordP]); (try (refine xsu ?_; try exact xtI))))
   refine ⟨k + 1, by omega, by omega, To.mk [0, 4] rfl rfl (by decide) ?_ ?_⟩
   ·(iterate 2 ((try simp (etaStruct := .none) only [push_cast, DrawG, Int.cast_ofNat_Int, seval, e, List.map_append, blwP]); (try (refine xsu ?_; try exact xtI))))
   ·(iterate 2 ((try simp (etaStruct := .none) only [push_cast, DrawG, Int.cast_ofNat_Int, seval, getD_in _ _ _ hlt, ordP]); (try (refine xsu ?_; try exact xtI))))
  ·(try replace h2 := xhh h2)
   have e : blowsV (l.take (k + 1)) w = blowsV (l.take k) w := by
    rw [st]
    rcases h2 with h | h
    ·unfold addB; rw [if_neg h]; simp
    ·rw [h]; simp
   (iterate 2 ((try simp (etaStruct := .none) only [push_cast, DrawG, Int.cast_ofNat_Int, seval, getD_in _ _ _ hlt, ordP]); (try (refine xsu ?_; try exact xtI))))
   refine ⟨k + 1, by omega, by omega, To.mk [0, 1] rfl rfl (by decide) ?_ ?_⟩
   ·(iterate 2 ((try simp (etaStruct := .none) only [push_cast, DrawG, Int.cast_ofNat_Int, seval, e]); (try (refine xsu ?_; try exact xtI))))
   ·(iterate 2 ((try simp (etaStruct := .none) only [push_cast, DrawG, Int.cast_ofNat_Int, seval, getD_in _ _ _ hlt, ordP]); (try (refine xsu ?_; try exact xtI))))
 ·(try replace h1 := xhh h1)
  obtain rfl : k = l.length := by omega
  (iterate 2 ((try simp (etaStruct := .none) only [push_cast, DrawG, Int.cast_ofNat_Int, seval, List.take_length]); (try (refine xsu ?_; try exact xtI))))
  exact xrz rfl
theorem goes_s (l : List Ord) (w : Wld) (hl : wldL w) (hll : l.length ≤ 100) : Spec Tryz.prog 30 [.c (.sl 6 (l.map ordP)), wldA w] [] (.c (.sl 3 ((goesV l w).map gopP))) [] := by
 refine spec_am Tryz.func30 rfl rfl mix 32 rfl [.tmp 4] Tryz.results30 (Nat.le_of_ble_eq_true rfl) ?_
 (try (refine xst ?_; try exact xtI))
 refine loopI (fun k : Nat => ⟨[(10, I .i64 k), (9, I .i64 l.length), (8, .c (.sl 6 (l.map ordP))), (5, .own 1), (3, .ptr 0 0 0)], [(0, .blk 28 (wldC w)), (1, .row 126 3 ((goesV (l.take k) w).map gopP))], 2⟩) (fun k : Nat => k ≤ l.length) (fun k : Nat => l.length - k) (0) (Nat.zero_le _) ((To.nil 5 126 3 rfl).trans (To.mk [0, 1] rfl rfl (by decide) ?_ ?_)) ?_
 ·simp (etaStruct := .none) only [push_cast, DrawG, Int.cast_ofNat_Int, seval, goesV, List.filter_nil, List.flatMap_nil]
 ·simp (etaStruct := .none) only [push_cast, DrawG, Int.cast_ofNat_Int, seval]
 rintro k hk
 (try (refine xst ?_; try exact xtI))
 refine cond_i (fun h1 => ?_) (fun h1 => ?_)
 ·(try replace h1 := xhh h1)
  have hlt : k < l.length := by omega
  have st := flat_step (fun o => allowV o w) addG l k hlt
  have hfl := ford_len (fun o => allowV o w) addG addG_len (l.take k)
  rw [List.length_take] at hfl
  change goesV (l.take (k + 1)) w = goesV (l.take k) w ++ _ at st
  change (goesV (l.take k) w).length ≤ _ at hfl
  (iterate 2 ((try simp (etaStruct := .none) only [push_cast, DrawG, Int.cast_ofNat_Int, seval, getD_in _ _ _ hlt, ordP]); (try (refine xsu ?_; try exact xtI))))
  refine gcP (fun hcc => allow_s (l.getD k default) w hl) ?_
  (iterate 2 ((try simp (etaStruct := .none) only [push_cast, DrawG, Int.cast_ofNat_Int, seval, getD_in _ _ _ hlt, ordP]); (try (refine xsu ?_; try exact xtI))))
  refine cond_i (fun h2 => ?_) (fun h2 => ?_)
  ·(try replace h2 := xhh h2)
   have e : goesV (l.take (k + 1)) w = goesV (l.take k) w ++ [⟨(l.getD k default).who, (l.getD k default).c⟩] := by rw [st, if_pos h2.2]; unfold addG; rw [if_pos h2.1]
   (iterate 2 ((try simp (etaStruct := .none) only [push_cast, DrawG, Int.cast_ofNat_Int, seval, getD_in _ _ _ hlt, ordP]); (try (refine xsu ?_; try exact xtI))))
   refine ⟨k + 1, by omega, by omega, To.mk [0, 4] rfl rfl (by decide) ?_ ?_⟩
   ·(iterate 2 ((try simp (etaStruct := .none) only [push_cast, DrawG, Int.cast_ofNat_Int, seval, e, List.map_append, gopP]); (try (refine xsu ?_; try exact xtI))))
   ·(iterate 2 ((try simp (etaStruct := .none) only [push_cast, DrawG, Int.cast_ofNat_Int, seval, getD_in _ _ _ hlt, ordP]); (try (refine xsu ?_; try exact xtI))))
  ·(try replace h2 := xhh h2)
   have e : goesV (l.take (k + 1)) w = goesV (l.take k) w := by
    rw [st]
    rcases h2 with h | h
    ·unfold addG; rw [if_neg h]; simp
    ·rw [h]; simp
   (iterate 2 ((try simp (etaStruct := .none) only [push_cast, DrawG, Int.cast_ofNat_Int, seval, getD_in _ _ _ hlt, ordP]); (try (refine xsu ?_; try exact xtI))))
   refine ⟨k + 1, by omega, by omega, To.mk [0, 1] rfl rfl (by decide) ?_ ?_⟩
   ·(iterate 2 ((try simp (etaStruct := .none) only [push_cast, DrawG, Int.cast_ofNat_Int, seval, e]); (try (refine xsu ?_; try exact xtI))))
   ·(iterate 2 ((try simp (etaStruct := .none) only [push_cast, DrawG, Int.cast_ofNat_Int, seval, getD_in _ _ _ hlt, ordP]); (try (refine xsu ?_; try exact xtI))))
 ·(try replace h1 := xhh h1)
  obtain rfl : k = l.length := by omega
  (iterate 2 ((try simp (etaStruct := .none) only [push_cast, DrawG, Int.cast_ofNat_Int, seval, List.take_length]); (try (refine xsu ?_; try exact xtI))))
  exact xrz rfl
theorem deeds_s (l : List Ord) (w : Wld) (hl : wldL w) (hll : l.length ≤ 100) (hk5 : ∀ o ∈ l, ordE o = 0) : Spec Tryz.prog 31 [.c (.sl 6 (l.map ordP)), wldA w] [] (.c (.sl 5 ((deedsV l w).map dedP))) [] := by
 refine spec_am Tryz.func31 rfl rfl mix 45 rfl [.tmp 4] Tryz.results31 (Nat.le_of_ble_eq_true rfl) ?_
 (try (refine xst ?_; try exact xtI))
 refine loopI (fun k : Nat => ⟨[(11, I .i64 k), (10, I .i64 l.length), (9, .c (.sl 6 (l.map ordP))), (5, .own 1), (3, .ptr 0 0 0)], [(0, .blk 28 (wldC w)), (1, .row 119 5 ((deedsV (l.take k) w).map dedP))], 2⟩) (fun k : Nat => k ≤ l.length) (fun k : Nat => l.length - k) (0) (Nat.zero_le _) ((To.nil 5 119 5 rfl).trans (To.mk [0, 1] rfl rfl (by decide) ?_ ?_)) ?_
 ·simp (etaStruct := .none) only [push_cast, DrawG, Int.cast_ofNat_Int, seval, deedsV, List.filter_nil, List.flatMap_nil]
 ·simp (etaStruct := .none) only [push_cast, DrawG, Int.cast_ofNat_Int, seval]
 rintro k hk
 (try (refine xst ?_; try exact xtI))
 refine cond_i (fun h1 => ?_) (fun h1 => ?_)
 ·(try replace h1 := xhh h1)
  have hlt : k < l.length := by omega
  have st := flat_step (fun o => allowV o w) addD l k hlt
  have hfl := ford_len (fun o => allowV o w) addD addD_len (l.take k)
  rw [List.length_take] at hfl
  change deedsV (l.take (k + 1)) w = deedsV (l.take k) w ++ _ at st
  change (deedsV (l.take k) w).length ≤ _ at hfl
  have hor := ordE_ok (hk5 _ (getD_mem l k hlt))
  (iterate 2 ((try simp (etaStruct := .none) only [push_cast, DrawG, Int.cast_ofNat_Int, seval, getD_in _ _ _ hlt, ordP]); (try (refine xsu ?_; try exact xtI))))
  refine gcP (fun hcc => allow_s (l.getD k default) w hl) ?_
  (iterate 2 ((try simp (etaStruct := .none) only [push_cast, DrawG, Int.cast_ofNat_Int, seval, getD_in _ _ _ hlt, ordP]); (try (refine xsu ?_; try exact xtI))))
  refine cond_i (fun h2 => ?_) (fun h2 => ?_)
  ·(try replace h2 := xhh h2)
   have e : deedsV (l.take (k + 1)) w = deedsV (l.take k) w ++ [dedOf (l.getD k default)] := by rw [st, if_pos h2.2]; unfold addD; rw [if_pos h2.1]
   (iterate 2 ((try simp (etaStruct := .none) only [push_cast, DrawG, Int.cast_ofNat_Int, seval, getD_in _ _ _ hlt, ordP]); (try (refine xsu ?_; try exact xtI))))
   refine cond_i (fun h3 => ?_) (fun h3 => ?_)
   ·(try replace h3 := xhh h3)
    (iterate 2 ((try simp (etaStruct := .none) only [push_cast, DrawG, Int.cast_ofNat_Int, seval, getD_in _ _ _ hlt, ordP]); (try (refine xsu ?_; try exact xtI))))
    refine ⟨k + 1, by omega, by omega, To.mk [0, 5] rfl rfl (by decide) ?_ ?_⟩
    ·(iterate 2 ((try simp (etaStruct := .none) only [push_cast, DrawG, Int.cast_ofNat_Int, seval, e, List.map_append, dedP, dedOf, if_pos h3]); (try (refine xsu ?_; try exact xtI))))
    ·(iterate 2 ((try simp (etaStruct := .none) only [push_cast, DrawG, Int.cast_ofNat_Int, seval, getD_in _ _ _ hlt, ordP]); (try (refine xsu ?_; try exact xtI))))
   ·(try replace h3 := xhh h3)
    (iterate 2 ((try simp (etaStruct := .none) only [push_cast, DrawG, Int.cast_ofNat_Int, seval, getD_in _ _ _ hlt, ordP]); (try (refine xsu ?_; try exact xtI))))
    refine ⟨k + 1, by omega, by omega, To.mk [0, 5] rfl rfl (by decide) ?_ ?_⟩
    ·(iterate 2 ((try simp (etaStruct := .none) only [push_cast, DrawG, Int.cast_ofNat_Int, seval, e, List.map_append, dedP, dedOf, if_neg h3]); (try (refine xsu ?_; try exact xtI))))
    ·(iterate 2 ((try simp (etaStruct := .none) only [push_cast, DrawG, Int.cast_ofNat_Int, seval, getD_in _ _ _ hlt, ordP]); (try (refine xsu ?_; try exact xtI))))
  ·(try replace h2 := xhh h2)
   have e : deedsV (l.take (k + 1)) w = deedsV (l.take k) w := by
    rw [st]
    rcases h2 with h | h
    ·unfold addD; rw [if_neg (show ¬ 2 < (l.getD k default).kind by omega)]; simp
    ·rw [h]; simp
   (iterate 2 ((try simp (etaStruct := .none) only [push_cast, DrawG, Int.cast_ofNat_Int, seval, getD_in _ _ _ hlt, ordP]); (try (refine xsu ?_; try exact xtI))))
   refine ⟨k + 1, by omega, by omega, To.mk [0, 1] rfl rfl (by decide) ?_ ?_⟩
   ·(iterate 2 ((try simp (etaStruct := .none) only [push_cast, DrawG, Int.cast_ofNat_Int, seval, e]); (try (refine xsu ?_; try exact xtI))))
   ·(iterate 2 ((try simp (etaStruct := .none) only [push_cast, DrawG, Int.cast_ofNat_Int, seval, getD_in _ _ _ hlt, ordP]); (try (refine xsu ?_; try exact xtI))))
 ·(try replace h1 := xhh h1)
  obtain rfl : k = l.length := by omega
  (iterate 2 ((try simp (etaStruct := .none) only [push_cast, DrawG, Int.cast_ofNat_Int, seval, List.take_length]); (try (refine xsu ?_; try exact xtI))))
  exact xrz rfl
end Go.Proofs.YthiddmncjafklaaGreat
namespace Go.Proofs.YthiddmncjafklaaGreat
set_option linter.all false
open Go.RowKit
set_option maxRecDepth 100000
set_option maxHeartbeats 400000
theorem trp_eqn (a b : Trp) : (decide (a.id = b.id) && (decide (a.owner = b.owner) && (decide (a.kind = b.kind) && (decide (a.c.x = b.c.x) && (decide (a.c.y = b.c.y) && (decide (a.life = b.life) && decide (a.load = b.load))))))) = decide (a = b) := by
 rw [Bool.eq_iff_iff]; obtain ⟨_, _, _, ⟨_, _⟩, _, _⟩ := a; obtain ⟨_, _, _, ⟨_, _⟩, _, _⟩ := b; simp [and_assoc]
theorem trp_eq (l m : List Trp) (hl : l.length ≤ 9223372036854775807) (hm : m.length ≤ 9223372036854775807) : Spec Tryz.prog 38 [.c (.sl 7 (l.map trpP)), .c (.sl 7 (m.map trpP))] [] (B (decide (l = m))) [] := by
 refine spec_am Tryz.func38 rfl rfl mix 26 rfl [.tmp 4] Tryz.results38 (Nat.le_of_ble_eq_true rfl) ?_
 (try (refine xst ?_; try exact xtI))
 refine cond_i (fun h1 => ?_) (fun h1 => ?_)
 ·(try replace h1 := xhh h1)
  have e : l ≠ m := by intro e; subst e; simp at h1
  (try (refine xst ?_; try exact xtI))
  exact ret0 rfl trivial (Wk.of (by rw [decide_eq_false e]; rfl))
 ·(try replace h1 := xhh h1)
  (try (refine xst ?_; try exact xtI))
  refine loopI (fun k : Nat => ⟨[(13, I .i64 k), (12, I .i64 l.length), (1, .c (.sl 7 (m.map trpP))), (0, .c (.sl 7 (l.map trpP)))], [], 0⟩) (fun k : Nat => k ≤ l.length ∧ ∀ j, j < k → l.getD j default = m.getD j default) (fun k : Nat => l.length - k) (0) (⟨Nat.zero_le _, fun j h => by omega⟩) (To.mk [] rfl rfl List.nodup_nil trivial ?_) ?_
  ·simp (etaStruct := .none) only [push_cast, DrawG, Int.cast_ofNat_Int, seval]
  rintro k ⟨hk, hn⟩
  (try (refine xst ?_; try exact xtI))
  refine cond_i (fun h2 => ?_) (fun h2 => ?_)
  ·(try replace h2 := xhh h2)
   have hlt : k < l.length := by omega
   have hlt2 : k < m.length := by omega
   (iterate 2 ((try simp (etaStruct := .none) only [push_cast, DrawG, Int.cast_ofNat_Int, seval, getD_in _ _ _ hlt, getD_in _ _ _ hlt2, trpP, trp_eqn]); (try (refine xsu ?_; try exact xtI))))
   (try (refine ⟨by kernel_rfl, ?_⟩))
   (iterate 2 ((try simp (etaStruct := .none) only [push_cast, DrawG, Int.cast_ofNat_Int, seval, getD_in _ _ _ hlt, getD_in _ _ _ hlt2, trpP, trp_eqn]); (try (refine xsu ?_; try exact xtI))))
   refine cond_i (fun h3 => ?_) (fun h3 => ?_)
   ·(try replace h3 := xhh h3)
    have e : l ≠ m := by intro e; subst e; simp at h3
    (iterate 2 ((try simp (etaStruct := .none) only [push_cast, DrawG, Int.cast_ofNat_Int, seval, getD_in _ _ _ hlt, getD_in _ _ _ hlt2, trpP, trp_eqn]); (try (refine xsu ?_; try exact xtI))))
    exact ret0 rfl trivial (Wk.of (by rw [decide_eq_false e]; rfl))
   ·(try replace h3 := xhh h3)
    (iterate 2 ((try simp (etaStruct := .none) only [push_cast, DrawG, Int.cast_ofNat_Int, seval, getD_in _ _ _ hlt, getD_in _ _ _ hlt2, trpP, trp_eqn]); (try (refine xsu ?_; try exact xtI))))
    refine ⟨k + 1, ⟨by omega, fun j hj => by rcases Nat.lt_or_ge j k with h | h; exact hn j h; rw [show j = k by omega]; simpa using h3⟩, by omega, To.mk [] rfl rfl List.nodup_nil trivial ?_⟩
    ·(iterate 2 ((try simp (etaStruct := .none) only [push_cast, DrawG, Int.cast_ofNat_Int, seval, getD_in _ _ _ hlt, getD_in _ _ _ hlt2, trpP, trp_eqn]); (try (refine xsu ?_; try exact xtI))))
  ·(try replace h2 := xhh h2)
   have e : l = m := by
    refine List.ext_getElem (by omega) fun i i1 i2 => ?_
    have := hn i (by omega)
    rwa [getD_at _ _ i1, getD_at _ _ i2] at this
   (try (refine xst ?_; try exact xtI))
   exact ret0 rfl trivial (Wk.of (by rw [decide_eq_true e]; rfl))
theorem sameField_s (a b : Fld) (ha : a.p.length ≤ 9223372036854775807) (hb : b.p.length ≤ 9223372036854775807) : Spec Tryz.prog 35 [fldA a, fldA b] [] (B (decide (a = b))) [] := by
 have e : decide (a = b) = (decide (a.w = b.w) && decide (a.h = b.h) && decide (a.p = b.p)) := by
  rw [Bool.eq_iff_iff]; obtain ⟨_, _, _⟩ := a; obtain ⟨_, _, _⟩ := b; simp [and_assoc]
 refine spec_am Tryz.func35 rfl rfl mix 24 rfl [.tmp 4] Tryz.results35 (Nat.le_of_ble_eq_true rfl) ?_
 (try (refine xst ?_; try exact xtI))
 refine gcP (fun hcc => int_eq a.p b.p ha hb) ?_
 (try (refine xst ?_; try exact xtI))
 (first | (refine retA rfl (Wk.of ?_); (try simp (etaStruct := .none) only [push_cast, DrawG, Int.cast_ofNat_Int, seval]); first | done | (simp [e, *]; done) | (simp_all [e]; done)) | (refine retA rfl ?_; (try simp (etaStruct := .none) only [push_cast, DrawG, Int.cast_ofNat_Int, seval]); (try simp [e, *]); (try exact wkc)))
theorem sameWorld_s (a b : Wld) (ha : wldL a) (hb : wldL b) : Spec Tryz.prog 9 [wldA a, wldA b] [] (B (decide (a = b))) [] := by
 have e : decide (a = b) = (decide (a.f = b.f) && decide (a.bases = b.bases) && decide (a.stocks = b.stocks) && decide (a.mines = b.mines) && decide (a.troops = b.troops) && decide (a.next = b.next) && decide (a.now = b.now)) := by
  rw [Bool.eq_iff_iff]; obtain ⟨_, _, _, _, _, _, _⟩ := a; obtain ⟨_, _, _, _, _, _, _⟩ := b; simp [and_assoc]
 obtain ⟨a1, a2, a3, a4, a5⟩ := ha
 obtain ⟨b1, b2, b3, b4, b5⟩ := hb
 refine spec_am Tryz.func9 rfl rfl mix 52 rfl [.tmp 4] Tryz.results9 (Nat.le_of_ble_eq_true rfl) ?_
 (try (refine xst ?_; try exact xtI))
 refine caP (sameField_s a.f b.f a1 b1) ?_
 (try (refine xst ?_; try exact xtI))
 refine gcP (fun hcc => cel_eq a.bases b.bases a2 b2) ?_
 (try (refine xst ?_; try exact xtI))
 refine gcP (fun hcc => int_eq a.stocks b.stocks a3 b3) ?_
 (try (refine xst ?_; try exact xtI))
 refine gcP (fun hcc => int_eq a.mines b.mines a4 b4) ?_
 (try (refine xst ?_; try exact xtI))
 refine gcP (fun hcc => trp_eq a.troops b.troops a5 b5) ?_
 (try (refine xst ?_; try exact xtI))
 (first | (refine retA rfl (Wk.of ?_); (try simp (etaStruct := .none) only [push_cast, DrawG, Int.cast_ofNat_Int, seval]); first | done | (simp [e, *]; done) | (simp_all [e]; done)) | (refine retA rfl ?_; (try simp (etaStruct := .none) only [push_cast, DrawG, Int.cast_ofNat_Int, seval]); (try simp [e, *]); (try exact wkc)))
theorem int_clone (l : List Int) (hl : l.length ≤ 17592186044415) : Spec Tryz.prog 87 [.c (.sl 1 (l.map i64P))] [] (.own 0) [.row 3 1 (l.map i64P)] := by
 refine spec_am Tryz.func87 rfl rfl mix 8 rfl [.tmp 2] Tryz.results87 (Nat.le_of_ble_eq_true rfl) ?_
 (try (refine xst ?_; try exact xtI))
 intro b hb
 (try (refine xst ?_; try exact xtI))
 refine cond_i (fun h => ?_) (fun h => ?_)
 ·(try (refine xst ?_; try exact xtI))
  have e := hb h
  refine retTo (To.nil 2 3 1 rfl) (retM [0] rfl rfl (by decide) ⟨?_, trivial⟩ trivial ?_)
  ·simp (etaStruct := .none) only [push_cast, DrawG, Int.cast_ofNat_Int, seval, e]
  ·simp (etaStruct := .none) only [push_cast, DrawG, Int.cast_ofNat_Int, seval]
 ·(try (refine xst ?_; try exact xtI))
  refine retM [1] rfl rfl (by decide) ⟨?_, trivial⟩ trivial ?_
  ·simp (etaStruct := .none) only [push_cast, DrawG, Int.cast_ofNat_Int, seval]
  ·simp (etaStruct := .none) only [push_cast, DrawG, Int.cast_ofNat_Int, seval]
theorem int_copy (l : List Int) (hl : l.length ≤ 17592186044415) : Spec Tryz.prog 87 [.c (.sl 1 (l.map i64P))] [] (.c (.sl 1 (l.map i64P))) [] := by
 refine spec_am Tryz.func87 rfl rfl mix 8 rfl [.tmp 2] Tryz.results87 (Nat.le_of_ble_eq_true rfl) ?_
 (try (refine xst ?_; try exact xtI))
 intro b hb
 (try (refine xst ?_; try exact xtI))
 refine cond_i (fun h => ?_) (fun h => ?_)
 ·(try (refine xst ?_; try exact xtI))
  exact ret0 rfl trivial (by rw [hb h]; exact Wk.nil _)
 ·(try (refine xst ?_; try exact xtI))
  exact ret0 rfl trivial (Wk.refl _)
theorem cel_clone (l : List Cel) (hl : l.length ≤ 8796093022207) : Spec Tryz.prog 88 [.c (.sl 2 (l.map celP))] [] (.own 0) [.row 85 2 (l.map celP)] := by
 refine spec_am Tryz.func88 rfl rfl mix 8 rfl [.tmp 2] Tryz.results88 (Nat.le_of_ble_eq_true rfl) ?_
 (try (refine xst ?_; try exact xtI))
 intro b hb
 (try (refine xst ?_; try exact xtI))
 refine cond_i (fun h => ?_) (fun h => ?_)
 ·(try (refine xst ?_; try exact xtI))
  have e := hb h
  refine retTo (To.nil 2 85 2 rfl) (retM [0] rfl rfl (by decide) ⟨?_, trivial⟩ trivial ?_)
  ·simp (etaStruct := .none) only [push_cast, DrawG, Int.cast_ofNat_Int, seval, e]
  ·simp (etaStruct := .none) only [push_cast, DrawG, Int.cast_ofNat_Int, seval]
 ·(try (refine xst ?_; try exact xtI))
  refine retM [1] rfl rfl (by decide) ⟨?_, trivial⟩ trivial ?_
  ·simp (etaStruct := .none) only [push_cast, DrawG, Int.cast_ofNat_Int, seval]
  ·simp (etaStruct := .none) only [push_cast, DrawG, Int.cast_ofNat_Int, seval]
theorem cel_copy (l : List Cel) (hl : l.length ≤ 8796093022207) : Spec Tryz.prog 88 [.c (.sl 2 (l.map celP))] [] (.c (.sl 2 (l.map celP))) [] := by
 refine spec_am Tryz.func88 rfl rfl mix 8 rfl [.tmp 2] Tryz.results88 (Nat.le_of_ble_eq_true rfl) ?_
 (try (refine xst ?_; try exact xtI))
 intro b hb
 (try (refine xst ?_; try exact xtI))
 refine cond_i (fun h => ?_) (fun h => ?_)
 ·(try (refine xst ?_; try exact xtI))
  exact ret0 rfl trivial (by rw [hb h]; exact Wk.nil _)
 ·(try (refine xst ?_; try exact xtI))
  exact ret0 rfl trivial (Wk.refl _)
theorem trp_clone (l : List Trp) (hl : l.length ≤ 2513169434916) : Spec Tryz.prog 64 [.c (.sl 7 (l.map trpP))] [] (.own 0) [.row 89 7 (l.map trpP)] := by
 refine spec_am Tryz.func64 rfl rfl mix 8 rfl [.tmp 2] Tryz.results64 (Nat.le_of_ble_eq_true rfl) ?_
 (try (refine xst ?_; try exact xtI))
 intro b hb
 (try (refine xst ?_; try exact xtI))
 refine cond_i (fun h => ?_) (fun h => ?_)
 ·(try (refine xst ?_; try exact xtI))
  have e := hb h
  refine retTo (To.nil 2 89 7 rfl) (retM [0] rfl rfl (by decide) ⟨?_, trivial⟩ trivial ?_)
  ·simp (etaStruct := .none) only [push_cast, DrawG, Int.cast_ofNat_Int, seval, e]
  ·simp (etaStruct := .none) only [push_cast, DrawG, Int.cast_ofNat_Int, seval]
 ·(try (refine xst ?_; try exact xtI))
  refine retM [1] rfl rfl (by decide) ⟨?_, trivial⟩ trivial ?_
  ·simp (etaStruct := .none) only [push_cast, DrawG, Int.cast_ofNat_Int, seval]
  ·simp (etaStruct := .none) only [push_cast, DrawG, Int.cast_ofNat_Int, seval]
theorem trp_copy (l : List Trp) (hl : l.length ≤ 2513169434916) : Spec Tryz.prog 64 [.c (.sl 7 (l.map trpP))] [] (.c (.sl 7 (l.map trpP))) [] := by
 refine spec_am Tryz.func64 rfl rfl mix 8 rfl [.tmp 2] Tryz.results64 (Nat.le_of_ble_eq_true rfl) ?_
 (try (refine xst ?_; try exact xtI))
 intro b hb
 (try (refine xst ?_; try exact xtI))
 refine cond_i (fun h => ?_) (fun h => ?_)
 ·(try (refine xst ?_; try exact xtI))
  exact ret0 rfl trivial (by rw [hb h]; exact Wk.nil _)
 ·(try (refine xst ?_; try exact xtI))
  exact ret0 rfl trivial (Wk.refl _)
end Go.Proofs.YthiddmncjafklaaGreat
namespace Go.Proofs.YthiddmncjafklaaGreat
set_option linter.all false
open Go.RowKit
set_option maxRecDepth 100000
set_option maxHeartbeats 2000000
theorem lineV_len (a b : Cel) : (lineV a b).length = max (b.x - a.x).natAbs (b.y - a.y).natAbs + 1 := by simp [lineV, lpts_len]
theorem lpt_step (a : Cel) (sx sy : Int) (X Y k L m : Nat) (hL : L = max X Y) (hm : m = min X Y) (h0 : 0 < L) :
 lpt a sx sy X Y (k + 1) = ⟨if Y ≤ X ∨ 2 * L ≤ lr L m k + 2 * m then (lpt a sx sy X Y k).x + sx else (lpt a sx sy X Y k).x, if X < Y ∨ 2 * L ≤ lr L m k + 2 * m then (lpt a sx sy X Y k).y + sy else (lpt a sx sy X Y k).y⟩ ∧
 (lr L m (k + 1) : Int) = if 2 * L ≤ lr L m k + 2 * m then (lr L m k : Int) + 2 * m - 2 * L else lr L m k + 2 * m := by
 by_cases h : Y ≤ X
 ·obtain rfl : L = X := by omega
  obtain rfl : m = Y := by omega
  have st := lq_step L m k h0 h
  rw [lpt_stepX a sx sy L m k h h0, if_pos (show m ≤ L ∨ 2 * L ≤ lr L m k + 2 * m from Or.inl h)]
  by_cases hc : 2 * L ≤ lr L m k + 2 * m
  ·rw [if_pos hc, if_pos (show L < m ∨ 2 * L ≤ lr L m k + 2 * m from Or.inr hc), if_pos hc]; exact ⟨rfl, by have := (st.1 hc).2; omega⟩
  ·rw [if_neg hc, if_neg (show ¬ (L < m ∨ 2 * L ≤ lr L m k + 2 * m) by omega), if_neg hc]; exact ⟨rfl, by have := (st.2 (by omega)).2; omega⟩
 ·obtain rfl : L = Y := by omega
  obtain rfl : m = X := by omega
  have st := lq_step L m k h0 (by omega)
  rw [lpt_stepY a sx sy m L k (by omega), if_pos (show m < L ∨ 2 * L ≤ lr L m k + 2 * m from Or.inl (by omega))]
  by_cases hc : 2 * L ≤ lr L m k + 2 * m
  ·rw [if_pos hc, if_pos (show L ≤ m ∨ 2 * L ≤ lr L m k + 2 * m from Or.inr hc), if_pos hc]; exact ⟨rfl, by have := (st.1 hc).2; omega⟩
  ·rw [if_neg hc, if_neg (show ¬ (L ≤ m ∨ 2 * L ≤ lr L m k + 2 * m) by omega), if_neg hc]; exact ⟨rfl, by have := (st.2 (by omega)).2; omega⟩
theorem lpts_zero (a : Cel) (sx sy : Int) (X Y : Nat) : lpts a sx sy X Y 0 = [a] := by simp [lpts, lpt_zero]
theorem cells_s (a b : Cel) (ha : nearB a = true) (hb : nearB b = true) : Spec Tryz.prog 171 [celA a, celA b] [] (.tup [.c (.sl 2 ((lineV a b).map celP)), I .i64 0]) [] := by
 have hx := nearB_true ha
 have hy := nearB_true hb
 obtain ⟨sx, hsx⟩ : ∃ s, s = (b.x - a.x).sign := ⟨_, rfl⟩
 obtain ⟨sy, hsy⟩ : ∃ s, s = (b.y - a.y).sign := ⟨_, rfl⟩
 obtain ⟨X, hX⟩ : ∃ s, s = (b.x - a.x).natAbs := ⟨_, rfl⟩
 obtain ⟨Y, hY⟩ : ∃ s, s = (b.y - a.y).natAbs := ⟨_, rfl⟩
 have gx := sg (b.x - a.x)
 have gy := sg (b.y - a.y)
 rw [← hsx] at gx
 rw [← hsy] at gy
 have S1 := sign_s (b.x - a.x) (by omega) (by omega)
 have S2 := sign_s (b.y - a.y) (by omega) (by omega)
 have hX2 : X ≤ 2000 := by omega
 have hY2 : Y ≤ 2000 := by omega
 unfold lineV
 rw [← hsx, ← hX] at S1 ⊢
 rw [← hsy, ← hY] at S2 ⊢
 obtain ⟨L, hL⟩ : ∃ L, L = max X Y := ⟨_, rfl⟩
 obtain ⟨m, hm⟩ : ∃ m, m = min X Y := ⟨_, rfl⟩
 rw [← hL]
 have LR := fun k h0 => lr_lt L m k h0
 have NR := fun k hk => lpt_near a sx sy X Y k gx gy hX2 hY2 hk ha
 clear hsx hsy hX hY
 refine spec_am Tryz.func171 rfl rfl mix 93 rfl [.tmp 4, .tmp 5] Tryz.results171 (Nat.le_of_ble_eq_true rfl) ?_
 (iterate 2 ((try simp (etaStruct := .none) only [push_cast, DrawG, Int.cast_ofNat_Int, seval, lpts_len]); (try (refine xsu ?_; try exact xtI))))
 refine caP (near_s a (by omega) (by omega)) ?_
 (iterate 2 ((try simp (etaStruct := .none) only [push_cast, DrawG, Int.cast_ofNat_Int, seval, lpts_len]); (try (refine xsu ?_; try exact xtI))))
 refine gcP (fun hcc => near_s b (by omega) (by omega)) ?_
 (iterate 2 ((try simp (etaStruct := .none) only [push_cast, DrawG, Int.cast_ofNat_Int, seval, lpts_len]); (try (refine xsu ?_; try exact xtI))))
 refine cond_i (fun h1 => ?_) (fun h1 => ?_)
 ·(try replace h1 := xhh h1)
  simp [ha, hb] at h1
 ·(try replace h1 := xhh h1)
  (iterate 2 ((try simp (etaStruct := .none) only [push_cast, DrawG, Int.cast_ofNat_Int, seval, lpts_len]); (try (refine xsu ?_; try exact xtI))))
  refine caP (S1) ?_
  (iterate 2 ((try simp (etaStruct := .none) only [push_cast, DrawG, Int.cast_ofNat_Int, seval, lpts_len]); (try (refine xsu ?_; try exact xtI))))
  refine caP (S2) ?_
  (iterate 2 ((try simp (etaStruct := .none) only [push_cast, DrawG, Int.cast_ofNat_Int, seval, lpts_len]); (try (refine xsu ?_; try exact xtI))))
  refine cond_j (fun _u : Unit => ⟨[(10, I .i64 L), (11, I .i64 m), (9, I .i64 Y), (8, I .i64 sy), (7, I .i64 X), (6, I .i64 sx), (2, .ptr 0 0 0)], [(0, .blk 85 [I .i64 a.x, I .i64 a.y])], 1⟩) (fun _u : Unit => Tr) (fun h2 => ?_) (fun h2 => ?_) ?_
  ·(try replace h2 := xhh h2)
   obtain rfl : L = Y := by omega
   obtain rfl : m = X := by omega
   (iterate 2 ((try simp (etaStruct := .none) only [push_cast, DrawG, Int.cast_ofNat_Int, seval, lpts_len]); (try (refine xsu ?_; try exact xtI))))
   refine ⟨(), trI, To.mk [0] rfl rfl (by decide) ?_ ?_⟩
   ·(iterate 2 ((try simp (etaStruct := .none) only [push_cast, DrawG, Int.cast_ofNat_Int, seval, lpts_len]); (try (refine xsu ?_; try exact xtI))))
   ·(iterate 2 ((try simp (etaStruct := .none) only [push_cast, DrawG, Int.cast_ofNat_Int, seval, lpts_len]); (try (refine xsu ?_; try exact xtI))))
  ·(try replace h2 := xhh h2)
   obtain rfl : L = X := by omega
   obtain rfl : m = Y := by omega
   (iterate 2 ((try simp (etaStruct := .none) only [push_cast, DrawG, Int.cast_ofNat_Int, seval, lpts_len]); (try (refine xsu ?_; try exact xtI))))
   refine ⟨(), trI, To.mk [0] rfl rfl (by decide) ?_ ?_⟩
   ·(iterate 2 ((try simp (etaStruct := .none) only [push_cast, DrawG, Int.cast_ofNat_Int, seval, lpts_len]); (try (refine xsu ?_; try exact xtI))))
   ·(iterate 2 ((try simp (etaStruct := .none) only [push_cast, DrawG, Int.cast_ofNat_Int, seval, lpts_len]); (try (refine xsu ?_; try exact xtI))))
  ·rintro _ _
   (iterate 2 ((try simp (etaStruct := .none) only [push_cast, DrawG, Int.cast_ofNat_Int, seval, lpts_len]); (try (refine xsu ?_; try exact xtI))))
   refine loopI (fun k : Nat => ⟨[(51, I .i64 k), (50, I .i64 L), (13, I .i64 ((lr L m k : Int) - L)), (12, .own 1), (11, I .i64 m), (10, I .i64 L), (9, I .i64 Y), (8, I .i64 sy), (7, I .i64 X), (6, I .i64 sx), (2, .ptr 0 0 0)], [(0, .blk 85 [I .i64 (lpt a sx sy X Y k).x, I .i64 (lpt a sx sy X Y k).y]), (1, .row 85 2 ((lpts a sx sy X Y k).map celP))], 2⟩) (fun k : Nat => k ≤ L) (fun k : Nat => L - k) (0) (Nat.zero_le _) (To.mk [0, 1] rfl rfl (by decide) ?_ ?_) ?_
   ·simp (etaStruct := .none) only [push_cast, DrawG, Int.cast_ofNat_Int, seval, lpt_zero, lpts_zero, celP]
   ·simp (etaStruct := .none) only [push_cast, DrawG, Int.cast_ofNat_Int, seval, lpt_zero, lr_zero, Int.sub_self]
   rintro k hk
   (iterate 2 ((try simp (etaStruct := .none) only [push_cast, DrawG, Int.cast_ofNat_Int, seval, lpts_len]); (try (refine xsu ?_; try exact xtI))))
   refine cond_i (fun h3 => ?_) (fun h3 => ?_)
   ·(try replace h3 := xhh h3)
    have hlt : k < L := by omega
    obtain ⟨ST, SR⟩ := lpt_step a sx sy X Y k L m hL hm (by omega)
    have hlr := LR k (by omega)
    have hnr := NR k (by omega)
    have hnr2 := NR (k + 1) (by omega)
    (iterate 2 ((try simp (etaStruct := .none) only [push_cast, DrawG, Int.cast_ofNat_Int, seval, lpts_len]); (try (refine xsu ?_; try exact xtI))))
    refine cond_j (fun o : Bool => ⟨[(51, I .i64 k), (50, I .i64 L), (14, B o), (13, I .i64 ((lr L m (k + 1) : Int) - L)), (12, .own 1), (11, I .i64 m), (10, I .i64 L), (9, I .i64 Y), (8, I .i64 sy), (7, I .i64 X), (6, I .i64 sx), (2, .ptr 0 0 0)], [(0, .blk 85 [I .i64 (lpt a sx sy X Y k).x, I .i64 (lpt a sx sy X Y k).y]), (1, .row 85 2 ((lpts a sx sy X Y k).map celP))], 2⟩) (fun o : Bool => (o = true ↔ 2 * L ≤ lr L m k + 2 * m)) (fun h4 => ?_) (fun h4 => ?_) ?_
    ·(try replace h4 := xhh h4)
     have e1 : (lr L m k : Int) - L + 2 * m - 2 * L = (lr L m (k + 1) : Int) - L := by rw [SR, if_pos (by omega)]; omega
     have e2 : decide ((L : Int) ≤ (lr L m k : Int) - L + 2 * m) = true := by simp; omega
     (iterate 2 ((try simp (etaStruct := .none) only [push_cast, DrawG, Int.cast_ofNat_Int, seval, lpts_len, e1, e2]); (try (refine xsu ?_; try exact xtI))))
     refine ⟨true, by simp; omega, To.mk [0, 1] rfl rfl (by decide) ?_ ?_⟩
     ·(iterate 2 ((try simp (etaStruct := .none) only [push_cast, DrawG, Int.cast_ofNat_Int, seval, lpts_len, e1, e2]); (try (refine xsu ?_; try exact xtI))))
     ·(iterate 2 ((try simp (etaStruct := .none) only [push_cast, DrawG, Int.cast_ofNat_Int, seval, lpts_len, e1, e2]); (try (refine xsu ?_; try exact xtI))))
    ·(try replace h4 := xhh h4)
     have e1 : (lr L m k : Int) - L + 2 * m = (lr L m (k + 1) : Int) - L := by rw [SR, if_neg (by omega)]; omega
     have e2 : decide ((L : Int) ≤ (lr L m (k + 1) : Int) - L) = false := by rw [← e1]; simp; omega
     (iterate 2 ((try simp (etaStruct := .none) only [push_cast, DrawG, Int.cast_ofNat_Int, seval, lpts_len, e1, e2]); (try (refine xsu ?_; try exact xtI))))
     refine ⟨false, by simp; omega, To.mk [0, 1] rfl rfl (by decide) ?_ ?_⟩
     ·(iterate 2 ((try simp (etaStruct := .none) only [push_cast, DrawG, Int.cast_ofNat_Int, seval, lpts_len, e1, e2]); (try (refine xsu ?_; try exact xtI))))
     ·(iterate 2 ((try simp (etaStruct := .none) only [push_cast, DrawG, Int.cast_ofNat_Int, seval, lpts_len, e1, e2]); (try (refine xsu ?_; try exact xtI))))
    ·rintro o ho
     (iterate 2 ((try simp (etaStruct := .none) only [push_cast, DrawG, Int.cast_ofNat_Int, seval, lpts_len]); (try (refine xsu ?_; try exact xtI))))
     refine cond_j (fun _u : Unit => ⟨[(51, I .i64 k), (50, I .i64 L), (14, B o), (13, I .i64 ((lr L m (k + 1) : Int) - L)), (12, .own 1), (11, I .i64 m), (10, I .i64 L), (9, I .i64 Y), (8, I .i64 sy), (7, I .i64 X), (6, I .i64 sx), (2, .ptr 0 0 0)], [(0, .blk 85 [I .i64 (lpt a sx sy X Y (k + 1)).x, I .i64 (lpt a sx sy X Y k).y]), (1, .row 85 2 ((lpts a sx sy X Y k).map celP))], 2⟩) (fun _u : Unit => Tr) (fun h5 => ?_) (fun h5 => ?_) ?_
     ·(try replace h5 := xhh h5)
      rw [ho] at h5
      have e1 : (lpt a sx sy X Y k).x + sx = (lpt a sx sy X Y (k + 1)).x := by rw [ST]; simp only; rw [if_pos (by omega)]
      (iterate 2 ((try simp (etaStruct := .none) only [push_cast, DrawG, Int.cast_ofNat_Int, seval, lpts_len, e1]); (try (refine xsu ?_; try exact xtI))))
      refine ⟨(), trI, To.mk [0, 1] rfl rfl (by decide) ?_ ?_⟩
      ·(iterate 2 ((try simp (etaStruct := .none) only [push_cast, DrawG, Int.cast_ofNat_Int, seval, lpts_len, e1]); (try (refine xsu ?_; try exact xtI))))
      ·(iterate 2 ((try simp (etaStruct := .none) only [push_cast, DrawG, Int.cast_ofNat_Int, seval, lpts_len, e1]); (try (refine xsu ?_; try exact xtI))))
     ·(try replace h5 := xhh h5)
      rw [Bool.eq_false_iff, ne_eq, ho] at h5
      have e1 : (lpt a sx sy X Y k).x = (lpt a sx sy X Y (k + 1)).x := by rw [ST]; simp only; rw [if_neg (by omega)]
      (iterate 2 ((try simp (etaStruct := .none) only [push_cast, DrawG, Int.cast_ofNat_Int, seval, lpts_len]); (try (refine xsu ?_; try exact xtI))))
      refine ⟨(), trI, To.mk [0, 1] rfl rfl (by decide) ?_ ?_⟩
      ·simp (etaStruct := .none) only [push_cast, DrawG, Int.cast_ofNat_Int, seval]
       rw [← e1]
       simp (etaStruct := .none) only [push_cast, DrawG, Int.cast_ofNat_Int, seval]
      ·(iterate 2 ((try simp (etaStruct := .none) only [push_cast, DrawG, Int.cast_ofNat_Int, seval, lpts_len]); (try (refine xsu ?_; try exact xtI))))
     ·rintro _ _
      (iterate 2 ((try simp (etaStruct := .none) only [push_cast, DrawG, Int.cast_ofNat_Int, seval, lpts_len]); (try (refine xsu ?_; try exact xtI))))
      refine cond_i (fun h6 => ?_) (fun h6 => ?_)
      ·(try replace h6 := xhh h6)
       rw [ho] at h6
       have e1 : (lpt a sx sy X Y k).y + sy = (lpt a sx sy X Y (k + 1)).y := by rw [ST]; simp only; rw [if_pos (by omega)]
       (iterate 2 ((try simp (etaStruct := .none) only [push_cast, DrawG, Int.cast_ofNat_Int, seval, lpts_len, e1]); (try (refine xsu ?_; try exact xtI))))
       refine ⟨k + 1, by omega, by omega, To.mk [0, 3] rfl rfl (by decide) ?_ ?_⟩
       ·(iterate 2 ((try simp (etaStruct := .none) only [push_cast, DrawG, Int.cast_ofNat_Int, seval, lpts_snoc, List.map_append, celP]); (try (refine xsu ?_; try exact xtI))))
       ·(iterate 2 ((try simp (etaStruct := .none) only [push_cast, DrawG, Int.cast_ofNat_Int, seval, lpts_len, e1]); (try (refine xsu ?_; try exact xtI))))
      ·(try replace h6 := xhh h6)
       rw [Bool.eq_false_iff, ne_eq, ho] at h6
       have e1 : (lpt a sx sy X Y k).y = (lpt a sx sy X Y (k + 1)).y := by rw [ST]; simp only; rw [if_neg (by omega)]
       (iterate 2 ((try simp (etaStruct := .none) only [push_cast, DrawG, Int.cast_ofNat_Int, seval, lpts_len]); (try (refine xsu ?_; try exact xtI))))
       refine ⟨k + 1, by omega, by omega, To.mk [0, 3] rfl rfl (by decide) ?_ ?_⟩
       ·(iterate 2 ((try simp (etaStruct := .none) only [push_cast, DrawG, Int.cast_ofNat_Int, seval, lpts_snoc, List.map_append, celP]); (try (refine xsu ?_; try exact xtI))))
        rw [← e1]
        exact ⟨Wk.refl _, rfl⟩
       ·(iterate 2 ((try simp (etaStruct := .none) only [push_cast, DrawG, Int.cast_ofNat_Int, seval, lpts_len]); (try (refine xsu ?_; try exact xtI))))
   ·(try replace h3 := xhh h3)
    obtain rfl : k = L := by omega
    (iterate 2 ((try simp (etaStruct := .none) only [push_cast, DrawG, Int.cast_ofNat_Int, seval, lpts_len]); (try (refine xsu ?_; try exact xtI))))
    exact xrz rfl
theorem lineOf_s (a b : Cel) (ha : nearB a = true) (hb : nearB b = true) (hm : max (b.x - a.x).natAbs (b.y - a.y).natAbs ≤ 120) : Spec Tryz.prog 176 [celA a, celA b] [] (.c (.sl 2 ((lineV a b).map celP))) [] := by
 have hx := nearB_true ha
 have hy := nearB_true hb
 obtain ⟨sx, hsx⟩ : ∃ s, s = (b.x - a.x).sign := ⟨_, rfl⟩
 obtain ⟨sy, hsy⟩ : ∃ s, s = (b.y - a.y).sign := ⟨_, rfl⟩
 obtain ⟨X, hX⟩ : ∃ s, s = (b.x - a.x).natAbs := ⟨_, rfl⟩
 obtain ⟨Y, hY⟩ : ∃ s, s = (b.y - a.y).natAbs := ⟨_, rfl⟩
 have F1 := far_s a.x b.x (by omega) (by omega)
 have F2 := far_s a.y b.y (by omega) (by omega)
 rw [show (a.x - b.x).natAbs = X by omega] at F1
 rw [show (a.y - b.y).natAbs = Y by omega] at F2
 unfold lineV
 rw [← hsx, ← hsy, ← hX, ← hY]
 rw [← hX, ← hY] at hm
 have EM : (if (Y : Int) > X then (Y : Int) else X) = (max X Y : Nat) := by split <;> omega
 have gx := sg (b.x - a.x)
 have gy := sg (b.y - a.y)
 rw [← hsx] at gx
 rw [← hsy] at gy
 refine spec_am Tryz.func176 rfl rfl mix 80 rfl [.tmp 4] Tryz.results176 (Nat.le_of_ble_eq_true rfl) ?_
 (iterate 2 ((try simp (etaStruct := .none) only [push_cast, DrawG, Int.cast_ofNat_Int, seval, EM, lpts_len]); (try (refine xsu ?_; try exact xtI))))
 refine caP (F1) ?_
 (iterate 2 ((try simp (etaStruct := .none) only [push_cast, DrawG, Int.cast_ofNat_Int, seval, EM, lpts_len]); (try (refine xsu ?_; try exact xtI))))
 refine caP (F2) ?_
 (iterate 2 ((try simp (etaStruct := .none) only [push_cast, DrawG, Int.cast_ofNat_Int, seval, EM, lpts_len]); (try (refine xsu ?_; try exact xtI))))
 (try (refine ⟨by kernel_rfl, ?_⟩))
 (iterate 2 ((try simp (etaStruct := .none) only [push_cast, DrawG, Int.cast_ofNat_Int, seval, EM, lpts_len]); (try (refine xsu ?_; try exact xtI))))
 refine loopI (fun k : Nat => ⟨[(8, I .i64 ((k : Int) + 1)), (7, .own 2), (6, I .i64 Y), (5, I .i64 X), (3, .ptr 1 0 0), (2, .ptr 0 0 0)], [(0, .blk 85 [I .i64 a.x, I .i64 a.y]), (1, .blk 85 [I .i64 b.x, I .i64 b.y]), (2, .row 85 2 ((lpts a sx sy X Y k).map celP))], 3⟩) (fun k : Nat => k ≤ max X Y) (fun k : Nat => max X Y - k) (0) (Nat.zero_le _) (To.mk [0, 1, 50] rfl rfl (by decide) ?_ ?_) ?_
 ·simp (etaStruct := .none) only [push_cast, DrawG, Int.cast_ofNat_Int, seval, lpts_zero, celP]
 ·simp (etaStruct := .none) only [push_cast, DrawG, Int.cast_ofNat_Int, seval, Int.zero_add]
 rintro k hk
 (iterate 2 ((try simp (etaStruct := .none) only [push_cast, DrawG, Int.cast_ofNat_Int, seval, EM, lpts_len]); (try (refine xsu ?_; try exact xtI))))
 refine cond_i (fun h1 => ?_) (fun h1 => ?_)
 ·(try replace h1 := xhh h1)
  have hlt : k < max X Y := by omega
  have m1 := mul_bound (k + 1) (b.x - a.x) 120 2000 (by omega) (by omega)
  have m2 := mul_bound (k + 1) (b.y - a.y) 120 2000 (by omega) (by omega)
  simp only [Int.natCast_add, Int.cast_ofNat_Int, Int.natCast_one] at m1 m2
  (iterate 2 ((try simp (etaStruct := .none) only [push_cast, DrawG, Int.cast_ofNat_Int, seval, EM, lpts_len]); (try (refine xsu ?_; try exact xtI))))
  refine cond_i (fun h2 => ?_) (fun h2 => ?_)
  ·(try replace h2 := xhh h2)
   have t1 := tdiv_step (k + 1) X (b.x - a.x) sx hsx.symm hX.symm (by omega)
   obtain ⟨s', a1, a2, a3⟩ := aside_sign X Y (k + 1) a.y b.y sy hsy.symm hY.symm
   have q1 := lq_le X Y (k + 1) (by omega) (by omega)
   have AS := aside_s X Y (k + 1) a.y b.y s' (by omega) (by omega) (by omega) (by omega) a1 a2 (by omega) (by omega)
   rw [a3] at AS
   have LE : lpt a sx sy X Y (k + 1) = ⟨a.x + sx * (k + 1 : Nat), a.y + sy * lq X Y (k + 1)⟩ := by unfold lpt; rw [if_pos (by omega)]
   have q3 : -120 ≤ sx * ((k : Int) + 1) ∧ sx * ((k : Int) + 1) ≤ 120 := by rcases gx with h | h | h <;> rw [h] <;> omega
   simp only [Int.natCast_add, Int.cast_ofNat_Int, Int.natCast_one] at t1 LE AS
   (iterate 2 ((try simp (etaStruct := .none) only [push_cast, DrawG, Int.cast_ofNat_Int, seval, EM, lpts_len, t1]); (try (refine xsu ?_; try exact xtI))))
   (try (refine ⟨by kernel_rfl, ?_⟩))
   (iterate 2 ((try simp (etaStruct := .none) only [push_cast, DrawG, Int.cast_ofNat_Int, seval, EM, lpts_len, t1]); (try (refine xsu ?_; try exact xtI))))
   refine caP (AS) ?_
   (iterate 2 ((try simp (etaStruct := .none) only [push_cast, DrawG, Int.cast_ofNat_Int, seval, EM, lpts_len, t1]); (try (refine xsu ?_; try exact xtI))))
   refine ⟨k + 1, by omega, by omega, To.mk [0, 1, 61] rfl rfl (by decide) ?_ ?_⟩
   ·(iterate 2 ((try simp (etaStruct := .none) only [push_cast, DrawG, Int.cast_ofNat_Int, seval, lpts_snoc, List.map_append, celP, LE]); (try (refine xsu ?_; try exact xtI))))
   ·(iterate 2 ((try simp (etaStruct := .none) only [push_cast, DrawG, Int.cast_ofNat_Int, seval, EM, lpts_len, t1]); (try (refine xsu ?_; try exact xtI))))
  ·(try replace h2 := xhh h2)
   have t1 := tdiv_step (k + 1) Y (b.y - a.y) sy hsy.symm hY.symm (by omega)
   obtain ⟨s', a1, a2, a3⟩ := aside_sign Y X (k + 1) a.x b.x sx hsx.symm hX.symm
   have q1 := lq_le Y X (k + 1) (by omega) (by omega)
   have AS := aside_s Y X (k + 1) a.x b.x s' (by omega) (by omega) (by omega) (by omega) a1 a2 (by omega) (by omega)
   rw [a3] at AS
   have LE : lpt a sx sy X Y (k + 1) = ⟨a.x + sx * lq Y X (k + 1), a.y + sy * (k + 1 : Nat)⟩ := by unfold lpt; rw [if_neg (by omega)]
   have q3 : -120 ≤ sy * ((k : Int) + 1) ∧ sy * ((k : Int) + 1) ≤ 120 := by rcases gy with h | h | h <;> rw [h] <;> omega
   simp only [Int.natCast_add, Int.cast_ofNat_Int, Int.natCast_one] at t1 LE AS
   (iterate 2 ((try simp (etaStruct := .none) only [push_cast, DrawG, Int.cast_ofNat_Int, seval, EM, lpts_len, t1]); (try (refine xsu ?_; try exact xtI))))
   (try (refine ⟨by kernel_rfl, ?_⟩))
   (iterate 2 ((try simp (etaStruct := .none) only [push_cast, DrawG, Int.cast_ofNat_Int, seval, EM, lpts_len, t1]); (try (refine xsu ?_; try exact xtI))))
   refine caP (AS) ?_
   (iterate 2 ((try simp (etaStruct := .none) only [push_cast, DrawG, Int.cast_ofNat_Int, seval, EM, lpts_len, t1]); (try (refine xsu ?_; try exact xtI))))
   refine ⟨k + 1, by omega, by omega, To.mk [0, 1, 61] rfl rfl (by decide) ?_ ?_⟩
   ·(iterate 2 ((try simp (etaStruct := .none) only [push_cast, DrawG, Int.cast_ofNat_Int, seval, lpts_snoc, List.map_append, celP, LE]); (try (refine xsu ?_; try exact xtI))))
   ·(iterate 2 ((try simp (etaStruct := .none) only [push_cast, DrawG, Int.cast_ofNat_Int, seval, EM, lpts_len, t1]); (try (refine xsu ?_; try exact xtI))))
 ·(try replace h1 := xhh h1)
  obtain rfl : k = max X Y := by omega
  (iterate 2 ((try simp (etaStruct := .none) only [push_cast, DrawG, Int.cast_ofNat_Int, seval, EM, lpts_len]); (try (refine xsu ?_; try exact xtI))))
  exact xrz rfl
end Go.Proofs.YthiddmncjafklaaGreat
namespace Go.Proofs.YthiddmncjafklaaGreat
set_option linter.all false
open Go.RowKit
theorem lq_top (n m : Nat) (hn : 0 < n) (_ : m ≤ n) : lq n m n = m := by
 unfold lq
 rw [show 2 * n * m + n = n + 2 * n * m by omega, Nat.add_mul_div_left _ _ (by omega), Nat.div_eq_of_lt (by omega)]; omega
theorem sgn_mul (d : Int) (n : Nat) (h : n = d.natAbs) : d.sign * n = d := by rw [h]; exact Int.sign_mul_natAbs d
theorem way_in (d : Int) (q : Nat) (hq : q ≤ d.natAbs) (f : Int) : min f (f + d) ≤ f + d.sign * q ∧ f + d.sign * q ≤ max f (f + d) := by
 rcases Int.lt_trichotomy d 0 with h | h | h
 ·rw [Int.sign_eq_neg_one_of_neg h]; omega
 ·subst h; simp
 ·rw [Int.sign_eq_one_of_pos h]; omega
theorem lpt_box (a b : Cel) (k : Nat) (hk : k ≤ max (b.x - a.x).natAbs (b.y - a.y).natAbs) :
 (min a.x b.x ≤ (lpt a (b.x - a.x).sign (b.y - a.y).sign (b.x - a.x).natAbs (b.y - a.y).natAbs k).x ∧ (lpt a (b.x - a.x).sign (b.y - a.y).sign (b.x - a.x).natAbs (b.y - a.y).natAbs k).x ≤ max a.x b.x) ∧
 (min a.y b.y ≤ (lpt a (b.x - a.x).sign (b.y - a.y).sign (b.x - a.x).natAbs (b.y - a.y).natAbs k).y ∧ (lpt a (b.x - a.x).sign (b.y - a.y).sign (b.x - a.x).natAbs (b.y - a.y).natAbs k).y ≤ max a.y b.y) := by
 have ex : a.x + (b.x - a.x) = b.x := by omega
 have ey : a.y + (b.y - a.y) = b.y := by omega
 unfold lpt
 split
 ·rename_i h
  have hq : lq (b.x - a.x).natAbs (b.y - a.y).natAbs k ≤ (b.y - a.y).natAbs := by
   rcases Nat.eq_zero_or_pos (b.x - a.x).natAbs with h0 | h0
   ·have : k = 0 := by omega
    subst this; rw [lq_zero]; omega
   ·exact lq_le _ _ _ h0 (by omega)
  have w1 := way_in (b.x - a.x) k (by omega) a.x
  have w2 := way_in (b.y - a.y) _ hq a.y
  rw [ex] at w1; rw [ey] at w2
  exact ⟨w1, w2⟩
 ·rename_i h
  have hq : lq (b.y - a.y).natAbs (b.x - a.x).natAbs k ≤ (b.x - a.x).natAbs := lq_le _ _ _ (by omega) (by omega)
  have w1 := way_in (b.y - a.y) k (by omega) a.y
  have w2 := way_in (b.x - a.x) _ hq a.x
  rw [ey] at w1; rw [ex] at w2
  exact ⟨w2, w1⟩
theorem lpt_last (a b : Cel) : lpt a (b.x - a.x).sign (b.y - a.y).sign (b.x - a.x).natAbs (b.y - a.y).natAbs (max (b.x - a.x).natAbs (b.y - a.y).natAbs) = b := by
 obtain ⟨bx, by_⟩ := b
 unfold lpt
 split
 ·rename_i h
  simp only at h ⊢
  rw [Nat.max_eq_left h, sgn_mul _ _ rfl]
  rcases Nat.eq_zero_or_pos (bx - a.x).natAbs with h0 | h0
  ·rw [h0, lq_zero]; congr 1; omega; simp; omega
  ·rw [lq_top _ _ h0 h, sgn_mul _ _ rfl]; congr 1 <;> omega
 ·rename_i h
  simp only at h ⊢
  rw [Nat.max_eq_right (by omega), sgn_mul _ _ rfl, lq_top _ _ (by omega) (by omega), sgn_mul _ _ rfl]; congr 1 <;> omega
theorem sgn_ne {d : Int} {k : Nat} (h1 : 0 < k) (h2 : k < d.natAbs) : d.sign * k ≠ 0 ∧ d.sign * k ≠ d := by
 rcases Int.lt_trichotomy d 0 with h | h | h
 ·rw [Int.sign_eq_neg_one_of_neg h]; omega
 ·subst h; simp at h2
 ·rw [Int.sign_eq_one_of_pos h]; omega
theorem lpt_mid (a b : Cel) (k : Nat) (h0 : 0 < k) (hk : k < max (b.x - a.x).natAbs (b.y - a.y).natAbs) :
 lpt a (b.x - a.x).sign (b.y - a.y).sign (b.x - a.x).natAbs (b.y - a.y).natAbs k ≠ a ∧ lpt a (b.x - a.x).sign (b.y - a.y).sign (b.x - a.x).natAbs (b.y - a.y).natAbs k ≠ b := by
 have key : ∀ p : Cel, (p.x ≠ a.x ∧ p.x ≠ b.x ∨ p.y ≠ a.y ∧ p.y ≠ b.y) → p ≠ a ∧ p ≠ b := by
  intro p h
  constructor
  ·intro e; subst e; omega
  ·intro e; subst e; omega
 apply key
 unfold lpt
 split
 ·have := sgn_ne (d := b.x - a.x) h0 (by omega)
  simp only; omega
 ·have := sgn_ne (d := b.y - a.y) h0 (by omega)
  simp only; omega
theorem lineV_at (a b : Cel) (k : Nat) (hk : k ≤ max (b.x - a.x).natAbs (b.y - a.y).natAbs) : (lineV a b).getD k default = lpt a (b.x - a.x).sign (b.y - a.y).sign (b.x - a.x).natAbs (b.y - a.y).natAbs k := by
 rw [getD_at _ _ (by rw [lineV_len]; omega)]
 simp [lineV, lpts]
theorem inF_near {f : Fld} {c : Cel} (h : fldE f = 0) (hc : inF f c = true) : nearB c = true := by
 obtain ⟨h1, h2, _, _⟩ := fldE_ok h
 obtain ⟨h3, h4⟩ := inF_iff.1 hc
 unfold nearB; simp; omega
theorem line_in {f : Fld} {a b : Cel} (ha : inF f a = true) (hb : inF f b = true) (k : Nat) (hk : k ≤ max (b.x - a.x).natAbs (b.y - a.y).natAbs) : inF f ((lineV a b).getD k default) = true := by
 rw [lineV_at a b k hk]
 have := lpt_box a b k hk
 rw [inF_iff] at ha hb ⊢
 omega
theorem line_far {f : Fld} {a b : Cel} (h : fldE f = 0) (ha : inF f a = true) (hb : inF f b = true) : (b.x - a.x).natAbs ≤ 39 ∧ (b.y - a.y).natAbs ≤ 39 := by
 obtain ⟨h1, h2, _, _⟩ := fldE_ok h
 rw [inF_iff] at ha hb
 omega
def clearP (p : Int) : Bool := decide (p % 3 = 0)
def openV (f : Fld) (a b : Cel) : Bool := (List.range (max (b.x - a.x).natAbs (b.y - a.y).natAbs - 1)).all fun k => clearP (placeV f ((lineV a b).getD (k + 1) default))
theorem openV_t {f : Fld} {a b : Cel} (h : ∀ k, 0 < k → k < max (b.x - a.x).natAbs (b.y - a.y).natAbs → clearP (placeV f ((lineV a b).getD k default)) = true) : openV f a b = true := by
 unfold openV
 rw [List.all_eq_true]
 intro k hk
 exact h (k + 1) (by omega) (by simp at hk; omega)
theorem openV_f {f : Fld} {a b : Cel} {k : Nat} (h0 : 0 < k) (h1 : k < max (b.x - a.x).natAbs (b.y - a.y).natAbs) (h : clearP (placeV f ((lineV a b).getD k default)) = false) : openV f a b = false := by
 unfold openV
 rw [List.all_eq_false]
 refine ⟨k - 1, by simp; omega, ?_⟩
 rw [show k - 1 + 1 = k by omega, h]; simp
def looksV (f : Fld) (a b : Cel) : Bool := openV f a b || openV f b a
theorem place_03 {f : Fld} (h : fldE f = 0) {c : Cel} (hc : inF f c = true) : 0 ≤ placeV f c ∧ placeV f c < 4 := by
 obtain ⟨_, _, _, h4⟩ := fldE_ok h
 obtain ⟨_, _, i3, i4, _⟩ := place_ix h hc
 have hl : (c.y * f.w + c.x).toNat < f.p.length := by omega
 unfold placeV
 rw [getD_at _ _ hl]
 exact h4 _ (List.getElem_mem hl)
end Go.Proofs.YthiddmncjafklaaGreat
namespace Go.Proofs.YthiddmncjafklaaGreat
set_option linter.all false
open Go.RowKit
set_option maxRecDepth 100000
set_option maxHeartbeats 2000000
theorem bare_s (f : Fld) (a b : Cel) (hf : fldE f = 0) (ha : inF f a = true) (hb : inF f b = true) : Spec Tryz.prog 160 [fldA f, celA a, celA b] [] (B (openV f a b)) [] := by
 have CS := cells_s a b (inF_near hf ha) (inF_near hf hb)
 have LL := lineV_len a b
 have LF := line_far hf ha hb
 have LI := fun k hk => line_in ha hb k hk
 have LT := @openV_t f a b
 have LN := @openV_f f a b
 have PL : f.p.length ≤ 1600 := (place_ix hf ha).2.2.2.2
 generalize lineV a b = l at CS LL LI LT LN
 obtain ⟨L, hL⟩ : ∃ L, L = max (b.x - a.x).natAbs (b.y - a.y).natAbs := ⟨_, rfl⟩
 rw [← hL] at LL LI LT LN
 have hLL : L ≤ 39 := by omega
 clear hL
 refine spec_am Tryz.func160 rfl rfl mix 45 rfl [.tmp 6] Tryz.results160 (Nat.le_of_ble_eq_true rfl) ?_
 (iterate 2 ((try simp (etaStruct := .none) only [push_cast, DrawG, Int.cast_ofNat_Int, seval, LL, Int.add_sub_cancel]); (try (refine xsu ?_; try exact xtI))))
 refine caP (CS) ?_
 (iterate 2 ((try simp (etaStruct := .none) only [push_cast, DrawG, Int.cast_ofNat_Int, seval, LL, Int.add_sub_cancel]); (try (refine xsu ?_; try exact xtI))))
 refine cond_i (fun h1 => ?_) (fun h1 => ?_)
 ·(try replace h1 := xhh h1)
  have hl2 : L ≤ 1 := by omega
  have e := LT (fun k h0 h1 => by omega)
  (iterate 2 ((try simp (etaStruct := .none) only [push_cast, DrawG, Int.cast_ofNat_Int, seval, LL, Int.add_sub_cancel]); (try (refine xsu ?_; try exact xtI))))
  (first | (refine retA rfl (Wk.of ?_); (try simp (etaStruct := .none) only [push_cast, DrawG, Int.cast_ofNat_Int, seval]); first | done | (simp [e, *]; done) | (simp_all [e]; done)) | (refine retA rfl ?_; (try simp (etaStruct := .none) only [push_cast, DrawG, Int.cast_ofNat_Int, seval]); (try simp [e, *]); (try exact wkc)))
 ·(try replace h1 := xhh h1)
  have e3 : ((l.map celP).take L).drop 1 = ((l.take L).drop 1).map celP := by rw [List.map_drop, List.map_take]
  have e4 : ((l.take L).drop 1).length = L - 1 := by simp; omega
  have e5 : ∀ k, k < L - 1 → ((l.take L).drop 1).getD k default = l.getD (k + 1) default := by intro k hk; simp [List.getD_eq_getElem?_getD, List.getElem?_drop, List.getElem?_take, show k + 1 < L by omega, Nat.add_comm]
  (iterate 2 ((try simp (etaStruct := .none) only [push_cast, DrawG, Int.cast_ofNat_Int, seval, LL, Int.add_sub_cancel, e3, e4]); (try (refine xsu ?_; try exact xtI))))
  refine loopI (fun k : Nat => ⟨[(28, I .i64 k), (27, I .i64 (L - 1 : Nat)), (26, .c (.sl 2 (((l.take L).drop 1).map celP))), (3, .ptr 0 0 0)], [(0, .blk 24 [I .i64 f.w, I .i64 f.h, .c (.sl 1 (f.p.map i64P))])], 1⟩) (fun k : Nat => k ≤ L - 1 ∧ ∀ j, 0 < j → j ≤ k → clearP (placeV f (l.getD j default)) = true) (fun k : Nat => L - 1 - k) (0) (⟨Nat.zero_le _, fun j h h' => by omega⟩) (To.mk [0] rfl rfl (by decide) ?_ ?_) ?_
  ·simp (etaStruct := .none) only [push_cast, DrawG, Int.cast_ofNat_Int, seval]
  ·simp (etaStruct := .none) only [push_cast, DrawG, Int.cast_ofNat_Int, seval]
  rintro k ⟨hk, hn⟩
  (iterate 2 ((try simp (etaStruct := .none) only [push_cast, DrawG, Int.cast_ofNat_Int, seval, LL, Int.add_sub_cancel, e3, e4]); (try (refine xsu ?_; try exact xtI))))
  refine cond_i (fun h2 => ?_) (fun h2 => ?_)
  ·(try replace h2 := xhh h2)
   have hlt : k < L - 1 := by omega
   have hlt2 : k < ((l.take L).drop 1).length := by omega
   have e6 := e5 k hlt
   have hin := LI (k + 1) (by omega)
   have AT := at_s f (l.getD (k + 1) default) (by omega)
   have AV : atV f (l.getD (k + 1) default) = (placeV f (l.getD (k + 1) default), 0) := by unfold atV; rw [if_neg (by simp [hf]), if_pos hin]
   rw [AV] at AT
   have p03 := place_03 hf hin
   (iterate 2 ((try simp (etaStruct := .none) only [push_cast, DrawG, Int.cast_ofNat_Int, seval, LL, Int.add_sub_cancel, e3, e4, getD_in _ _ _ hlt2, celP, e6]); (try (refine xsu ?_; try exact xtI))))
   refine caP (AT) ?_
   (iterate 2 ((try simp (etaStruct := .none) only [push_cast, DrawG, Int.cast_ofNat_Int, seval, LL, Int.add_sub_cancel, e3, e4, getD_in _ _ _ hlt2, celP, e6]); (try (refine xsu ?_; try exact xtI))))
   refine cond_i (fun h3 => ?_) (fun h3 => ?_)
   ·(try replace h3 := xhh h3)
    have hc : clearP (placeV f (l.getD (k + 1) default)) = false := decide_eq_false (by omega)
    have e := LN (by omega) (by omega) hc
    (iterate 2 ((try simp (etaStruct := .none) only [push_cast, DrawG, Int.cast_ofNat_Int, seval, LL, Int.add_sub_cancel, e3, e4, getD_in _ _ _ hlt2, celP, e6]); (try (refine xsu ?_; try exact xtI))))
    (first | (refine retA rfl (Wk.of ?_); (try simp (etaStruct := .none) only [push_cast, DrawG, Int.cast_ofNat_Int, seval]); first | done | (simp [e, *]; done) | (simp_all [e]; done)) | (refine retA rfl ?_; (try simp (etaStruct := .none) only [push_cast, DrawG, Int.cast_ofNat_Int, seval]); (try simp [e, *]); (try exact wkc)))
   ·(try replace h3 := xhh h3)
    have hc : clearP (placeV f (l.getD (k + 1) default)) = true := decide_eq_true (by omega)
    (iterate 2 ((try simp (etaStruct := .none) only [push_cast, DrawG, Int.cast_ofNat_Int, seval, LL, Int.add_sub_cancel, e3, e4, getD_in _ _ _ hlt2, celP, e6]); (try (refine xsu ?_; try exact xtI))))
    refine ⟨k + 1, ⟨by omega, fun j h0 h1 => by rcases Nat.lt_or_ge k j with h | h; rw [show j = k + 1 by omega]; exact hc; exact hn j h0 h⟩, by omega, To.mk [0] rfl rfl (by decide) ?_ ?_⟩
    ·(iterate 2 ((try simp (etaStruct := .none) only [push_cast, DrawG, Int.cast_ofNat_Int, seval, LL, Int.add_sub_cancel, e3, e4, getD_in _ _ _ hlt2, celP, e6]); (try (refine xsu ?_; try exact xtI))))
    ·(iterate 2 ((try simp (etaStruct := .none) only [push_cast, DrawG, Int.cast_ofNat_Int, seval, LL, Int.add_sub_cancel, e3, e4, getD_in _ _ _ hlt2, celP, e6]); (try (refine xsu ?_; try exact xtI))))
  ·(try replace h2 := xhh h2)
   have e := LT (fun j h0 h1 => hn j h0 (by omega))
   (iterate 2 ((try simp (etaStruct := .none) only [push_cast, DrawG, Int.cast_ofNat_Int, seval, LL, Int.add_sub_cancel, e3, e4]); (try (refine xsu ?_; try exact xtI))))
   (first | (refine retA rfl (Wk.of ?_); (try simp (etaStruct := .none) only [push_cast, DrawG, Int.cast_ofNat_Int, seval]); first | done | (simp [e, *]; done) | (simp_all [e]; done)) | (refine retA rfl ?_; (try simp (etaStruct := .none) only [push_cast, DrawG, Int.cast_ofNat_Int, seval]); (try simp [e, *]); (try exact wkc)))
theorem openLine_s (f : Fld) (a b : Cel) (hf : fldE f = 0) (ha : inF f a = true) (hb : inF f b = true) : Spec Tryz.prog 167 [fldA f, celA a, celA b] [] (B (openV f a b)) [] := by
 have LF := line_far hf ha hb
 have CS := lineOf_s a b (inF_near hf ha) (inF_near hf hb) (by omega)
 have LL := lineV_len a b
 have LI := fun k hk => line_in ha hb k hk
 have LT := @openV_t f a b
 have LN := @openV_f f a b
 have LA := lineV_at a b
 have MID := lpt_mid a b
 have L0 := lpt_zero a (b.x - a.x).sign (b.y - a.y).sign (b.x - a.x).natAbs (b.y - a.y).natAbs
 have LZ := lpt_last a b
 have PL : f.p.length ≤ 1600 := (place_ix hf ha).2.2.2.2
 generalize lineV a b = l at CS LL LI LT LN LA
 generalize lpt a (b.x - a.x).sign (b.y - a.y).sign (b.x - a.x).natAbs (b.y - a.y).natAbs = g at LA MID L0 LZ
 obtain ⟨L, hL⟩ : ∃ L, L = max (b.x - a.x).natAbs (b.y - a.y).natAbs := ⟨_, rfl⟩
 rw [← hL] at LL LI LT LN LA MID LZ
 have hLL : L ≤ 39 := by omega
 clear hL
 refine spec_am Tryz.func167 rfl rfl mix 35 rfl [.tmp 6] Tryz.results167 (Nat.le_of_ble_eq_true rfl) ?_
 (iterate 2 ((try simp (etaStruct := .none) only [push_cast, DrawG, Int.cast_ofNat_Int, seval, LL]); (try (refine xsu ?_; try exact xtI))))
 refine caP (CS) ?_
 (iterate 2 ((try simp (etaStruct := .none) only [push_cast, DrawG, Int.cast_ofNat_Int, seval, LL]); (try (refine xsu ?_; try exact xtI))))
 refine loopI (fun k : Nat => ⟨[(14, I .i64 k), (13, I .i64 (L + 1 : Nat)), (12, .c (.sl 2 (l.map celP))), (5, .ptr 2 0 0), (4, .ptr 1 0 0), (3, .ptr 0 0 0)], [(0, .blk 24 [I .i64 f.w, I .i64 f.h, .c (.sl 1 (f.p.map i64P))]), (1, .blk 85 [I .i64 a.x, I .i64 a.y]), (2, .blk 85 [I .i64 b.x, I .i64 b.y])], 3⟩) (fun k : Nat => k ≤ L + 1 ∧ ∀ j, 0 < j → j < k → j < L → clearP (placeV f (l.getD j default)) = true) (fun k : Nat => L + 1 - k) (0) (⟨Nat.zero_le _, fun j h h' => by omega⟩) (To.mk [0, 1, 2] rfl rfl (by decide) ?_ ?_) ?_
 ·simp (etaStruct := .none) only [push_cast, DrawG, Int.cast_ofNat_Int, seval]
 ·simp (etaStruct := .none) only [push_cast, DrawG, Int.cast_ofNat_Int, seval]
 rintro k ⟨hk, hn⟩
 (iterate 2 ((try simp (etaStruct := .none) only [push_cast, DrawG, Int.cast_ofNat_Int, seval, LL]); (try (refine xsu ?_; try exact xtI))))
 refine cond_i (fun h1 => ?_) (fun h1 => ?_)
 ·(try replace h1 := xhh h1)
  have hlt : k < l.length := by omega
  have hin := LI k (by omega)
  have p03 := place_03 hf hin
  have eL := LA k (by omega)
  have PS := place_s f (l.getD k default) hf hin
  have ca := cel_dec (l.getD k default) a
  have cb := cel_dec (l.getD k default) b
  (iterate 2 ((try simp (etaStruct := .none) only [push_cast, DrawG, Int.cast_ofNat_Int, seval, LL, getD_in _ _ _ hlt, celP, ca, cb]); (try (refine xsu ?_; try exact xtI))))
  refine caP (PS) ?_
  (iterate 2 ((try simp (etaStruct := .none) only [push_cast, DrawG, Int.cast_ofNat_Int, seval, LL, getD_in _ _ _ hlt, celP, ca, cb]); (try (refine xsu ?_; try exact xtI))))
  refine cond_i (fun h2 => ?_) (fun h2 => ?_)
  ·(try replace h2 := xhh h2)
   have hk0 : 0 < k := by
    rcases Nat.eq_zero_or_pos k with e | e
    ·subst e; rw [eL, L0] at h2; exact absurd rfl h2.1.1
    ·exact e
   have hkL : k < L := by
    rcases Nat.lt_or_ge k L with e | e
    ·exact e
    ·obtain rfl : k = L := by omega
     rw [eL, LZ] at h2; exact absurd rfl h2.1.2
   have e := LN hk0 hkL (decide_eq_false h2.2)
   (iterate 2 ((try simp (etaStruct := .none) only [push_cast, DrawG, Int.cast_ofNat_Int, seval, LL, getD_in _ _ _ hlt, celP, ca, cb]); (try (refine xsu ?_; try exact xtI))))
   (first | (refine retA rfl (Wk.of ?_); (try simp (etaStruct := .none) only [push_cast, DrawG, Int.cast_ofNat_Int, seval]); first | done | (simp [e, *]; done) | (simp_all [e]; done)) | (refine retA rfl ?_; (try simp (etaStruct := .none) only [push_cast, DrawG, Int.cast_ofNat_Int, seval]); (try simp [e, *]); (try exact wkc)))
  ·(try replace h2 := xhh h2)
   have hc : 0 < k → k < L → clearP (placeV f (l.getD k default)) = true := by
    intro k0 k1
    have mm := MID k k0 (by omega)
    rw [← eL] at mm
    rcases h2 with (h | h) | h
    ·exact absurd h mm.1
    ·exact absurd h mm.2
    ·exact decide_eq_true h
   (iterate 2 ((try simp (etaStruct := .none) only [push_cast, DrawG, Int.cast_ofNat_Int, seval, LL, getD_in _ _ _ hlt, celP, ca, cb]); (try (refine xsu ?_; try exact xtI))))
   refine ⟨k + 1, ⟨by omega, fun j h0 h1 hj => by rcases Nat.lt_or_ge j k with h | h; exact hn j h0 h hj; rw [show j = k by omega] at hj ⊢; exact hc (by omega) hj⟩, by omega, To.mk [0, 1, 2] rfl rfl (by decide) ?_ ?_⟩
   ·(iterate 2 ((try simp (etaStruct := .none) only [push_cast, DrawG, Int.cast_ofNat_Int, seval, LL, getD_in _ _ _ hlt, celP, ca, cb]); (try (refine xsu ?_; try exact xtI))))
   ·(iterate 2 ((try simp (etaStruct := .none) only [push_cast, DrawG, Int.cast_ofNat_Int, seval, LL, getD_in _ _ _ hlt, celP, ca, cb]); (try (refine xsu ?_; try exact xtI))))
 ·(try replace h1 := xhh h1)
  have e := LT (fun j h0 h1 => hn j h0 (by omega) h1)
  (iterate 2 ((try simp (etaStruct := .none) only [push_cast, DrawG, Int.cast_ofNat_Int, seval, LL]); (try (refine xsu ?_; try exact xtI))))
  (first | (refine retA rfl (Wk.of ?_); (try simp (etaStruct := .none) only [push_cast, DrawG, Int.cast_ofNat_Int, seval]); first | done | (simp [e, *]; done) | (simp_all [e]; done)) | (refine retA rfl ?_; (try simp (etaStruct := .none) only [push_cast, DrawG, Int.cast_ofNat_Int, seval]); (try simp [e, *]); (try exact wkc)))
end Go.Proofs.YthiddmncjafklaaGreat
namespace Go.Proofs.YthiddmncjafklaaGreat
set_option linter.all false
open Go.RowKit
set_option maxRecDepth 100000
set_option maxHeartbeats 2000000
theorem looks_s (f : Fld) (a b : Cel) (hf : fldE f = 0) (ha : inF f a = true) (hb : inF f b = true) : Spec Tryz.prog 143 [fldA f, celA a, celA b] [] (B (looksV f a b)) [] := by
 refine spec_am Tryz.func143 rfl rfl mix 17 rfl [.tmp 6] Tryz.results143 (Nat.le_of_ble_eq_true rfl) ?_
 (try (refine xst ?_; try exact xtI))
 refine caP (openLine_s f a b hf ha hb) ?_
 (try (refine xst ?_; try exact xtI))
 refine gcP (fun hcc => openLine_s f b a hf hb ha) ?_
 (try (refine xst ?_; try exact xtI))
 (first | (refine retA rfl (Wk.of ?_); (try simp (etaStruct := .none) only [push_cast, DrawG, Int.cast_ofNat_Int, seval]); first | done | (simp [looksV, *]; done) | (simp_all [looksV]; done)) | (refine retA rfl ?_; (try simp (etaStruct := .none) only [push_cast, DrawG, Int.cast_ofNat_Int, seval]); (try simp [looksV, *]); (try exact wkc)))
theorem at_2 (f : Fld) (c : Cel) : (atV f c).2 = if fldE f ≠ 0 then fldE f else if inF f c then 0 else 7 := by
 unfold atV; split
 ·rfl
 ·split <;> rfl
theorem at_0 {f : Fld} {c : Cel} (h : (atV f c).2 = 0) : fldE f = 0 ∧ inF f c = true := by
 rw [at_2] at h
 split at h
 ·rename_i h1; exact absurd h h1
 ·rename_i h1
  split at h
  ·rename_i h2; exact ⟨Decidable.not_not.1 h1, h2⟩
  ·simp at h
def seesV (f : Fld) (a b : Cel) : Bool × Int := if fldE f ≠ 0 then (false, fldE f) else if inF f a && inF f b then (looksV f a b, 0) else (false, 7)
theorem sees_s (f : Fld) (a b : Cel) (hl : f.p.length ≤ 9223372036854775807) : Spec Tryz.prog 133 [fldA f, celA a, celA b] [] (.tup [B (seesV f a b).1, I .i64 (seesV f a b).2]) [] := by
 refine spec_am Tryz.func133 rfl rfl mix 38 rfl [.tmp 6, .tmp 7] Tryz.results133 (Nat.le_of_ble_eq_true rfl) ?_
 (try (refine xst ?_; try exact xtI))
 refine loopI (fun k : Nat => ⟨[(15, I .i64 k), (14, .agg [I .i64 a.x, I .i64 a.y, I .i64 b.x, I .i64 b.y]), (5, .ptr 2 0 0), (4, .ptr 1 0 0), (3, .ptr 0 0 0)], [(0, .blk 24 [I .i64 f.w, I .i64 f.h, .c (.sl 1 (f.p.map i64P))]), (1, .blk 85 [I .i64 a.x, I .i64 a.y]), (2, .blk 85 [I .i64 b.x, I .i64 b.y])], 3⟩) (fun k : Nat => k ≤ 2 ∧ (0 < k → fldE f = 0 ∧ inF f a = true) ∧ (1 < k → inF f b = true)) (fun k : Nat => 2 - k) (0) (⟨by omega, fun h => by omega, fun h => by omega⟩) (To.mk [0, 1, 2] rfl rfl (by decide) ?_ ?_) ?_
 ·simp (etaStruct := .none) only [push_cast, DrawG, Int.cast_ofNat_Int, seval]
 ·simp (etaStruct := .none) only [push_cast, DrawG, Int.cast_ofNat_Int, seval]
 rintro k ⟨hk, q1, q2⟩
 (try (refine xst ?_; try exact xtI))
 refine cond_i (fun h1 => ?_) (fun h1 => ?_)
 ·(try replace h1 := xhh h1)
  obtain ⟨c, hc1, hc2, hc3⟩ : ∃ c : Cel, (k = 0 → c = a) ∧ (k = 1 → c = b) ∧ List.take 2 (List.drop (k * 2) [AV.c (PV.v (.int .i64 a.x)), .c (.v (.int .i64 a.y)), .c (.v (.int .i64 b.x)), .c (.v (.int .i64 b.y))]) = [.c (.v (.int .i64 c.x)), .c (.v (.int .i64 c.y))] := by
   rcases (show k = 0 ∨ k = 1 by omega) with rfl | rfl
   ·exact ⟨a, fun _ => rfl, fun h => by omega, rfl⟩
   ·exact ⟨b, fun h => by omega, fun _ => rfl, rfl⟩
  (iterate 2 ((try simp (etaStruct := .none) only [push_cast, DrawG, Int.cast_ofNat_Int, seval, hc3]); (try (refine xsu ?_; try exact xtI))))
  refine caP (at_s f c hl) ?_
  (iterate 2 ((try simp (etaStruct := .none) only [push_cast, DrawG, Int.cast_ofNat_Int, seval, hc3]); (try (refine xsu ?_; try exact xtI))))
  refine cond_i (fun h2 => ?_) (fun h2 => ?_)
  ·(try replace h2 := xhh h2)
   have e2 := at_2 f c
   have e3 : seesV f a b = (false, (atV f c).2) := by
    unfold seesV
    by_cases hf : fldE f = 0
    ·rw [if_neg (by simp [hf])]
     rw [if_neg (by simp [hf])] at e2
     cases hc : inF f c with
     | true => rw [hc] at e2; exact absurd e2 h2
     | false =>
      rw [hc] at e2
      rw [e2]
      rcases (show k = 0 ∨ k = 1 by omega) with h | h
      ·rw [← hc1 h, hc]; rfl
      ·rw [← hc2 h, hc]; simp
    ·rw [if_pos hf] at e2 ⊢; rw [e2]
   (iterate 2 ((try simp (etaStruct := .none) only [push_cast, DrawG, Int.cast_ofNat_Int, seval, hc3]); (try (refine xsu ?_; try exact xtI))))
   (first | (refine retA rfl (Wk.of ?_); (try simp (etaStruct := .none) only [push_cast, DrawG, Int.cast_ofNat_Int, seval]); first | done | (simp [e3, *]; done) | (simp_all [e3]; done)) | (refine retA rfl ?_; (try simp (etaStruct := .none) only [push_cast, DrawG, Int.cast_ofNat_Int, seval]); (try simp [e3, *]); (try exact wkc)))
  ·(try replace h2 := xhh h2)
   obtain ⟨a1, a2⟩ := at_0 h2
   (iterate 2 ((try simp (etaStruct := .none) only [push_cast, DrawG, Int.cast_ofNat_Int, seval, hc3]); (try (refine xsu ?_; try exact xtI))))
   refine ⟨k + 1, ⟨by omega, fun _ => ⟨a1, by rcases (show k = 0 ∨ k = 1 by omega) with h | h; rw [← hc1 h]; exact a2; exact (q1 (by omega)).2⟩, fun h => by rw [← hc2 (by omega)]; exact a2⟩, by omega, To.mk [0, 1, 2] rfl rfl (by decide) ?_ ?_⟩
   ·(iterate 2 ((try simp (etaStruct := .none) only [push_cast, DrawG, Int.cast_ofNat_Int, seval, hc3]); (try (refine xsu ?_; try exact xtI))))
   ·(iterate 2 ((try simp (etaStruct := .none) only [push_cast, DrawG, Int.cast_ofNat_Int, seval, hc3]); (try (refine xsu ?_; try exact xtI))))
 ·(try replace h1 := xhh h1)
  obtain ⟨hf, ha⟩ := q1 (by omega)
  have hb := q2 (by omega)
  have e4 : seesV f a b = (looksV f a b, 0) := by unfold seesV; rw [if_neg (by simp [hf]), if_pos (by simp [ha, hb])]
  (try (refine xst ?_; try exact xtI))
  refine caP (bare_s f a b hf ha hb) ?_
  (try (refine xst ?_; try exact xtI))
  refine gcP (fun hcc => bare_s f b a hf hb ha) ?_
  (try (refine xst ?_; try exact xtI))
  (first | (refine retA rfl (Wk.of ?_); (try simp (etaStruct := .none) only [push_cast, DrawG, Int.cast_ofNat_Int, seval]); first | done | (simp [e4, looksV, *]; done) | (simp_all [e4, looksV]; done)) | (refine retA rfl ?_; (try simp (etaStruct := .none) only [push_cast, DrawG, Int.cast_ofNat_Int, seval]); (try simp [e4, looksV, *]); (try exact wkc)))
end Go.Proofs.YthiddmncjafklaaGreat
namespace Go.Proofs.YthiddmncjafklaaGreat
set_option linter.all false
open Go.RowKit
set_option maxRecDepth 100000
def kingD (a b : Cel) : Nat := max (a.x - b.x).natAbs (a.y - b.y).natAbs
def countB (w : Wld) (x y : Trp) : Bool := !decide (x.owner = y.owner) && decide ((kingD x.c y.c : Int) ≤ (kindV x.kind).blow) && looksV w.f x.c y.c
def blowB (w : Wld) (b : Blw) : Bool := (findT w b.by_).isSome && (findT w b.at_).isSome && countB w ((findT w b.by_).getD trp0) ((findT w b.at_).getD trp0)
def hitP (w : Wld) (t : Trp) (b : Blw) : Bool := decide (b.by_ = t.id) && blowB w b
def hitC (w : Wld) (l : List Blw) (id : Int) (t : Trp) : Int := match l.find? (hitP w t) with | some b => if b.at_ = id then (kindV t.kind).load else 0 | none => 0
def sumI (l : List Int) : Int := l.sum
theorem sumI_snoc (l : List Int) (x : Int) : sumI (l ++ [x]) = sumI l + x := by unfold sumI; simp
theorem sumI_set : ∀ (l : List Int) (i : Nat) (v : Int), i < l.length → sumI (l.set i v) = sumI l - l.getD i default + v
 | [], i, v, h => by simp at h
 | a :: r, 0, v, _ => by simp [sumI]; omega
 | a :: r, i + 1, v, h => by
  have := sumI_set r i v (by simpa using h)
  simp only [sumI, List.set_cons_succ, List.sum_cons, List.getD_cons_succ] at this ⊢
  omega
def harmV (w : Wld) (l : List Blw) (id : Int) : Int := sumI (w.troops.map (hitC w l id))
def Ups (w : Wld) : Prop := ∀ i j, i < j → j < w.troops.length → (w.troops.getD i default).id < (w.troops.getD j default).id
theorem ups_ok {w : Wld} (h : worldE w = 0) : Ups w := by
 intro i j hij hj
 have h2 := (troop_ok h hj).2
 unfold trp2 at h2
 have := (allN_iff _ _).1 h2 i hij
 simp only [Bool.and_eq_true, decide_eq_true_eq] at this
 exact this.1
theorem Ups.ne {w : Wld} (h : Ups w) {i j : Nat} (hi : i < w.troops.length) (hj : j < w.troops.length) (hne : i ≠ j) : (w.troops.getD i default).id ≠ (w.troops.getD j default).id := by
 rcases Nat.lt_or_gt_of_ne hne with h1 | h1
 ·have := h i j h1 hj; omega
 ·have := h j i h1 hi; omega
theorem findT_some {w : Wld} {n : Int} (h : (findT w n).isSome = true) : ∃ i, i < w.troops.length ∧ (w.troops.getD i default).id = n ∧ (findT w n).getD trp0 = w.troops.getD i default := by
 unfold findT at *
 obtain ⟨t, ht⟩ := Option.isSome_iff_exists.1 h
 have hm := List.mem_of_find?_eq_some ht
 have hp := List.find?_some ht
 obtain ⟨i, hi, e⟩ := mem_getD.1 hm
 refine ⟨i, hi, by rw [e]; simpa using hp, by rw [ht, e]; rfl⟩
theorem hitC_snoc (w : Wld) (l : List Blw) (b : Blw) (id : Int) (t : Trp) : hitC w (l ++ [b]) id t = if l.any (hitP w t) = false ∧ hitP w t b = true then (if b.at_ = id then (kindV t.kind).load else 0) else hitC w l id t := by
 unfold hitC
 rw [List.find?_append]
 cases h : l.find? (hitP w t) with
 | some x =>
  have hx := List.find?_some h
  have hm := List.mem_of_find?_eq_some h
  have : l.any (hitP w t) = true := List.any_eq_true.2 ⟨x, hm, hx⟩
  rw [if_neg (by simp [this])]; rfl
 | none =>
  have : l.any (hitP w t) = false := by rw [List.any_eq_false]; intro x hx; exact List.find?_eq_none.1 h x hx
  rw [this]
  cases hp : hitP w t b with
  | true => simp [hp]
  | false => simp [hp]
theorem hitC_none (w : Wld) (l : List Blw) (id : Int) (t : Trp) (h : l.any (hitP w t) = false) : hitC w l id t = 0 := by
 unfold hitC
 rw [List.find?_eq_none.2 (fun x hx => by have := List.any_eq_false.1 h x hx; simpa using this)]
theorem harm_skip {w : Wld} (hu : Ups w) (l : List Blw) (b : Blw) (id : Int) (h : blowB w b = false ∨ ∃ i, i < w.troops.length ∧ (w.troops.getD i default).id = b.by_ ∧ l.any (hitP w (w.troops.getD i default)) = true) : harmV w (l ++ [b]) id = harmV w l id := by
 unfold harmV
 congr 1
 refine List.map_congr_left fun t ht => ?_
 rw [hitC_snoc, if_neg]
 rintro ⟨h1, h2⟩
 rcases h with h | ⟨i, hi, e, h3⟩
 ·unfold hitP at h2; rw [h] at h2; simp at h2
 ·obtain ⟨j, hj, rfl⟩ := mem_getD.1 ht
  by_cases hij : i = j
  ·subst hij; rw [h3] at h1; simp at h1
  ·have := hu.ne hi hj hij
   unfold hitP at h2
   simp only [Bool.and_eq_true, decide_eq_true_eq] at h2
   omega
theorem harm_step {w : Wld} (hu : Ups w) (l : List Blw) (b : Blw) (id : Int) (hb : blowB w b = true) {i : Nat} (hi : i < w.troops.length) (hid : (w.troops.getD i default).id = b.by_) (hn : l.any (hitP w (w.troops.getD i default)) = false) :
 harmV w (l ++ [b]) id = harmV w l id + (if b.at_ = id then (kindV (w.troops.getD i default).kind).load else 0) := by
 have e : w.troops.map (hitC w (l ++ [b]) id) = (w.troops.map (hitC w l id)).set i (if b.at_ = id then (kindV (w.troops.getD i default).kind).load else 0) := by
  refine List.ext_getElem (by simp) fun j h1 h2 => ?_
  rw [List.length_map] at h1
  rw [List.getElem_map, List.getElem_set, hitC_snoc, ← getD_at _ _ h1]
  by_cases hij : i = j
  ·subst hij
   rw [if_pos rfl, if_pos ⟨hn, by unfold hitP; rw [hb, hid]; simp⟩]
  ·have := hu.ne hi h1 hij
   rw [if_neg hij, if_neg, List.getElem_map, ← getD_at _ _ h1]
   rintro ⟨_, h3⟩
   unfold hitP at h3
   simp only [Bool.and_eq_true, decide_eq_true_eq] at h3
   omega
 unfold harmV
 rw [e, sumI_set _ _ _ (by simpa using hi)]
 have : (w.troops.map (hitC w l id)).getD i default = 0 := by
  rw [getD_at _ _ (by simpa using hi), List.getElem_map, ← getD_at _ _ hi]
  exact hitC_none _ _ _ _ hn
 omega
theorem harm_nil (w : Wld) (id : Int) : harmV w [] id = 0 := by
 unfold harmV sumI
 induction w.troops with
 | nil => rfl
 | cons a r ih => rw [List.map_cons, List.sum_cons, ih]; rfl
theorem ixOf_find {α : Type} [Inhabited α] (p : α → Bool) (l : List α) : (∃ i : Nat, i < l.length ∧ ixOf p l = (i : Int) ∧ l.find? p = some (l.getD i default)) ∨ (ixOf p l = -1 ∧ l.find? p = none) := by
 unfold ixOf
 cases h : l.findIdx? p with
 | none =>
  refine .inr ⟨rfl, ?_⟩
  rw [List.find?_eq_none]
  intro x hx
  have := List.findIdx?_eq_none_iff.1 h x hx
  simp [this]
 | some i =>
  obtain ⟨hi, h1, h2⟩ := List.findIdx?_eq_some_iff_getElem.1 h
  refine .inl ⟨i, hi, rfl, find_hit p l i hi (by rw [getD_at _ _ hi]; exact h1) (fun j hj => ?_)⟩
  rw [getD_at _ _ (by omega)]
  have := h2 j hj
  simpa using this
def harmL (w : Wld) (l : List Blw) : List Int := w.troops.map fun t => harmV w l t.id
def blowsE (w : Wld) (l : List Blw) : Int := if worldE w ≠ 0 then worldE w else if 200 < l.length then 2 else 0
def harmR (w : Wld) (l : List Blw) : List Int := if blowsE w l = 0 then harmL w l else []
def woundT (w : Wld) (l : List Blw) (t : Trp) : Trp := { t with life := t.life - harmV w l t.id }
def leftV (w : Wld) (l : List Blw) : List Trp := (w.troops.map (woundT w l)).filter fun t => decide (0 < t.life)
def goneV (w : Wld) (l : List Blw) : List Int := ((w.troops.map (woundT w l)).filter fun t => !decide (0 < t.life)).map (·.id)
def struckW (w : Wld) (l : List Blw) : Wld := { w with troops := leftV w l }
end Go.Proofs.YthiddmncjafklaaGreat
namespace Go.Proofs.YthiddmncjafklaaGreat
set_option linter.all false
open Go.RowKit
theorem gcallN {P : Program} {c : Bool} {f : FuncId} {args : List AV} {φ : Prop} {h : Nat → Chunk} {m : Nat} {K : Eff → Prop} (hc : c = false) (k : K ⟨.undef, [], 0⟩) : GCall P c f args φ h m K := .inr ⟨fun h => absurd (hc.symm.trans h) (by decide), fun _ => k⟩
end Go.Proofs.YthiddmncjafklaaGreat
namespace Go.Proofs.YthiddmncjafklaaGreat
set_option linter.all false
open Go.RowKit
set_option maxRecDepth 100000
set_option maxHeartbeats 400000
theorem king_max (a b : Cel) : (if (b.x - a.x).natAbs < (b.y - a.y).natAbs then ((b.y - a.y).natAbs : Int) else ((b.x - a.x).natAbs : Int)) = (kingD a b : Int) := by
 unfold kingD; split <;> omega
theorem lapart_s (a b : Cel) (ha : nearB a = true) (hb : nearB b = true) : Spec Tryz.prog 132 [celA a, celA b] [] (.tup [I .i64 (kingD a b : Nat), I .i64 (((b.x - a.x).natAbs + (b.y - a.y).natAbs : Nat) : Int), I .i64 0]) [] := by
 have ha1 := ha
 have hb1 := hb
 unfold nearB at ha1 hb1
 rw [decide_eq_true_eq] at ha1 hb1
 refine spec_am Tryz.func132 rfl rfl mix 43 rfl [.tmp 4, .tmp 5, .tmp 6] Tryz.results132 (Nat.le_of_ble_eq_true rfl) ?_
 (try (refine xst ?_; try exact xtI))
 refine caP (near_s a ⟨by omega, by omega⟩ ⟨by omega, by omega⟩) ?_
 (try (refine xst ?_; try exact xtI))
 refine gcP (fun hcc => near_s b ⟨by omega, by omega⟩ ⟨by omega, by omega⟩) ?_
 (try (refine xst ?_; try exact xtI))
 refine cond_i (fun h1 => ?_) (fun h1 => ?_)
 ·(try replace h1 := xhh h1)
  rw [ha, hb] at h1; simp at h1
 ·(try replace h1 := xhh h1)
  (try (refine xst ?_; try exact xtI))
  refine caP (sign_s (b.x - a.x) ⟨by omega, by omega⟩ (by omega)) ?_
  (try (refine xst ?_; try exact xtI))
  refine caP (sign_s (b.y - a.y) ⟨by omega, by omega⟩ (by omega)) ?_
  (try (refine xst ?_; try exact xtI))
  (first | (refine retA rfl (Wk.of ?_); (try simp (etaStruct := .none) only [push_cast, DrawG, Int.cast_ofNat_Int, seval]); first | done | (simp [king_max, *]; done) | (simp_all [king_max]; done)) | (refine retA rfl ?_; (try simp (etaStruct := .none) only [push_cast, DrawG, Int.cast_ofNat_Int, seval]); (try simp [king_max, *]); (try exact wkc)))
theorem seesV_in {f : Fld} {a b : Cel} (hf : fldE f = 0) (ha : inF f a = true) (hb : inF f b = true) : seesV f a b = (looksV f a b, 0) := by
 unfold seesV; rw [if_neg (by simp [hf]), if_pos (by simp [ha, hb])]
theorem nearB_in {f : Fld} {c : Cel} (hf : fldE f = 0) (h : inF f c = true) : nearB c = true := by
 have h1 := inF_iff.1 h
 obtain ⟨h2, h3, _⟩ := fldE_ok hf
 unfold nearB
 rw [decide_eq_true_eq]; omega
theorem counts_s (w : Wld) (x y : Trp) (hl : wldL w) (hw : worldE w = 0) (hx : x ∈ w.troops) (hy : y ∈ w.troops) : Spec Tryz.prog 85 [wldA w, trpA x, trpA y] [] (B (countB w x y)) [] := by
 obtain ⟨hf, _⟩ := worldE_ok hw
 have ox := troop_mem hw hx
 have oy := troop_mem hw hy
 have ix := (ground_iff.1 ox.at_).1
 have iy := (ground_iff.1 oy.at_).1
 have es := seesV_in hf ix iy
 refine spec_am Tryz.func85 rfl rfl mix 51 rfl [.tmp 6] Tryz.results85 (Nat.le_of_ble_eq_true rfl) ?_
 (try (refine xst ?_; try exact xtI))
 refine caP (tkind_s x.kind) ?_
 (try (refine xst ?_; try exact xtI))
 refine caP (lapart_s x.c y.c (nearB_in hf ix) (nearB_in hf iy)) ?_
 (try (refine xst ?_; try exact xtI))
 refine cond_i (fun h1 => ?_) (fun h1 => ?_)
 ·(try replace h1 := xhh h1)
  have e : countB w x y = false := by
   unfold countB
   rcases h1 with h | h
   ·simp [h]
   ·simp only [Bool.and_eq_false_iff]; exact .inl (.inr (by simpa using h))
  (try (refine xst ?_; try exact xtI))
  (first | (refine retA rfl (Wk.of ?_); (try simp (etaStruct := .none) only [push_cast, DrawG, Int.cast_ofNat_Int, seval]); first | done | (simp [e, *]; done) | (simp_all [e]; done)) | (refine retA rfl ?_; (try simp (etaStruct := .none) only [push_cast, DrawG, Int.cast_ofNat_Int, seval]); (try simp [e, *]); (try exact wkc)))
 ·(try replace h1 := xhh h1)
  have e : countB w x y = looksV w.f x.c y.c := by
   unfold countB
   rw [decide_eq_false h1.1, decide_eq_true h1.2]; simp
  (try (refine xst ?_; try exact xtI))
  refine caP (sees_s w.f x.c y.c hl.1) ?_
  (try (refine xst ?_; try exact xtI))
  rw [es]
  (first | (refine retA rfl (Wk.of ?_); (try simp (etaStruct := .none) only [push_cast, DrawG, Int.cast_ofNat_Int, seval]); first | done | (simp [e, *]; done) | (simp_all [e]; done)) | (refine retA rfl ?_; (try simp (etaStruct := .none) only [push_cast, DrawG, Int.cast_ofNat_Int, seval]); (try simp [e, *]); (try exact wkc)))
def IdxM (w : Wld) (k : Nat) (es : List (List Int × Int)) : Prop := (∀ i : Int, mhas [i] es = (w.troops.take k).any fun t => decide (t.id = i)) ∧ ∀ j, j < k → mget [(w.troops.getD j default).id] es = (j : Int)
theorem IdxM.step {w : Wld} (hu : Ups w) {k : Nat} {es : List (List Int × Int)} (h : IdxM w k es) (hk : k < w.troops.length) : IdxM w (k + 1) (mput [(w.troops.getD k default).id] (k : Int) es) := by
 refine ⟨fun i => ?_, fun j hj => ?_⟩
 ·rw [mhas_put_if, take_snoc _ _ hk, List.any_append, h.1 i]
  simp only [List.any_cons, List.any_nil, Bool.or_false, List.cons.injEq, and_true]
  by_cases hi : i = (w.troops.getD k default).id
  ·rw [if_pos hi, decide_eq_true hi.symm, Bool.or_true]
  ·rw [if_neg hi, decide_eq_false (Ne.symm hi), Bool.or_false]
 ·rw [mget_put_if]
  by_cases hjk : j = k
  ·subst hjk; rw [if_pos rfl]
  ·have := hu j k (by omega) hk
   rw [if_neg (fun h => by have := (List.cons.inj h).1; omega)]
   exact h.2 j (by omega)
theorem mget_none {k : List Int} {es : List (List Int × Int)} (h : mhas k es = false) : mget k es = 0 := by
 unfold mhas at h; unfold mget
 cases hm : mfind k 0 es with
 | none => rfl
 | some p => rw [hm] at h; simp at h
theorem IdxM.get {w : Wld} {es : List (List Int × Int)} (h : IdxM w w.troops.length es) (hpos : 0 < w.troops.length) (a : Int) : ∃ i : Nat, i < w.troops.length ∧ mget [a] es = (i : Int) ∧ mhas [a] es = (findT w a).isSome ∧ ((findT w a).isSome = true → (w.troops.getD i default).id = a ∧ (findT w a).getD trp0 = w.troops.getD i default) := by
 have h1 := h.1 a
 rw [List.take_length] at h1
 cases hf : findT w a with
 | none =>
  have e : mhas [a] es = false := by
   rw [h1, List.any_eq_false]
   intro x hx
   have := List.find?_eq_none.1 hf x hx
   simpa using this
  exact ⟨0, hpos, mget_none e, e, fun h => by simp at h⟩
 | some t =>
  obtain ⟨i, hi, e1, e2⟩ := findT_some (w := w) (n := a) (by rw [hf]; rfl)
  refine ⟨i, hi, ?_, ?_, fun _ => ⟨e1, by rw [← hf]; exact e2⟩⟩
  ·rw [← e1]; exact h.2 i hi
  ·rw [h1, List.any_eq_true.2 ⟨w.troops.getD i default, getD_mem _ _ hi, by simpa using e1⟩]; rfl
theorem kind_harm (k : Int) : 0 ≤ (kindV k).load ∧ (kindV k).load ≤ 4 := by unfold kindV; split <;> (try split) <;> simp
theorem harm_ext {w : Wld} {l : List Blw} {harm : List Int} (hl : harm.length = w.troops.length) (h : ∀ j, j < w.troops.length → harm.getD j default = harmV w l (w.troops.getD j default).id) : harm = harmL w l := by
 refine List.ext_getElem (by unfold harmL; rw [List.length_map]; exact hl) fun j h1 h2 => ?_
 have := h j (by omega)
 rw [getD_at _ _ h1, getD_at _ _ (by omega)] at this
 simp only [harmL, List.getElem_map]; exact this
theorem sgetB {l : List Bool} {i : Nat} (v : Bool) (p : Nat) (hi : i < l.length) : (l.set i v).getD p default = if p = i then v else l.getD p default := by
 by_cases h : p = i
 ·subst h; rw [if_pos rfl, getD_at _ _ (by simpa using hi)]; simp
 ·rw [if_neg h]
  simp only [List.getD_eq_getElem?_getD, List.getElem?_set, if_neg (Ne.symm h)]
theorem sgetI {l : List Int} {i : Nat} (v : Int) (p : Nat) (hi : i < l.length) : (l.set i v).getD p default = if p = i then v else l.getD p default := by
 by_cases h : p = i
 ·subst h; rw [if_pos rfl, getD_at _ _ (by simpa using hi)]; simp
 ·rw [if_neg h]
  simp only [List.getD_eq_getElem?_getD, List.getElem?_set, if_neg (Ne.symm h)]
theorem blows_e (w : Wld) (l : List Blw) (hl : wldL w) (hll : l.length ≤ 9223372036854775807) (h : blowsE w l ≠ 0) : Spec Tryz.prog 55 [wldA w, .c (.sl 2 (l.map blwP))] [] (.tup [.c (.sl 1 ((harmR w l).map i64P)), I .i64 (blowsE w l)]) [] := by
 have e2 : harmR w l = [] := by unfold harmR; rw [if_neg h]
 refine spec_am Tryz.func55 rfl rfl mix 120 rfl [.tmp 4, .tmp 5] Tryz.results55 (Nat.le_of_ble_eq_true rfl) ?_
 (try (refine xst ?_; try exact xtI))
 refine caP (tcheck_s w hl) ?_
 (try (refine xst ?_; try exact xtI))
 refine cond_i (fun h1 => ?_) (fun h1 => ?_)
 ·(try replace h1 := xhh h1)
  have e : blowsE w l = worldE w := by unfold blowsE; rw [if_pos h1]
  (try (refine xst ?_; try exact xtI))
  (first | (refine retA rfl (Wk.of ?_); (try simp (etaStruct := .none) only [push_cast, DrawG, Int.cast_ofNat_Int, seval]); first | done | (simp [e, e2, *]; done) | (simp_all [e, e2]; done)) | (refine retA rfl ?_; (try simp (etaStruct := .none) only [push_cast, DrawG, Int.cast_ofNat_Int, seval]); (try simp [e, e2, *]); (try exact wkc)))
 ·(try replace h1 := xhh h1)
  (try (refine xst ?_; try exact xtI))
  refine cond_i (fun h2 => ?_) (fun h2 => ?_)
  ·(try replace h2 := xhh h2)
   have e : blowsE w l = 2 := by unfold blowsE; rw [if_neg (by simpa using h1), if_pos (by omega)]
   (try (refine xst ?_; try exact xtI))
   (first | (refine retA rfl (Wk.of ?_); (try simp (etaStruct := .none) only [push_cast, DrawG, Int.cast_ofNat_Int, seval]); first | done | (simp [e, e2, *]; done) | (simp_all [e, e2]; done)) | (refine retA rfl ?_; (try simp (etaStruct := .none) only [push_cast, DrawG, Int.cast_ofNat_Int, seval]); (try simp [e, e2, *]); (try exact wkc)))
  ·(try replace h2 := xhh h2)
   exact absurd (by unfold blowsE; rw [if_neg (by simpa using h1), if_neg (by omega)]) h
end Go.Proofs.YthiddmncjafklaaGreat
