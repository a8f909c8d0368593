/- Lemmas for the proof of hostFollows.proved. -/
import Derived.Test.YthiddmncjafklaaGreatHostFollowsM4
namespace Go.Proofs.YthiddmncjafklaaGreat
set_option linter.all false
open Go.RowKit
set_option maxRecDepth 100000
set_option maxHeartbeats 2000000
theorem near_s (c : Cel) (hx : In64 c.x) (hy : In64 c.y) : Spec Tryz.prog 158 [celA c] [] (B (nearB c)) [] := by
 refine spec_am Tryz.func158 rfl rfl mix 23 rfl [.tmp 2] Tryz.results158 (Nat.le_of_ble_eq_true rfl) ?_
 (try (refine xst ?_; try exact xtI))
 refine ret0 rfl trivial (Wk.of ?_)
 simp (etaStruct := .none) only [push_cast, DrawG, Int.cast_ofNat_Int, seval]
 simp only [I, B, AV.c.injEq, PV.v.injEq, Value.bool.injEq, nearB, IntKind.wrap_i64]
 rw [Bool.eq_iff_iff]
 simp only [Bool.and_eq_true, decide_eq_true_eq]
 repeat' split
 all_goals omega
theorem sign_s (n : Int) (hn : In64 n) (h : n ≠ -9223372036854775808) : Spec Tryz.prog 159 [I .i64 n] [] (.tup [I .i64 n.sign, I .i64 n.natAbs]) [] := by
 refine spec_am Tryz.func159 rfl rfl mix 13 rfl [.tmp 2, .tmp 3] Tryz.results159 (Nat.le_of_ble_eq_true rfl) ?_
 (try (refine xst ?_; try exact xtI))
 refine cond_i (fun h1 => ?_) (fun h1 => ?_)
 ·(try replace h1 := xhh h1)
  have e1 : n.sign = -1 := Int.sign_eq_neg_one_of_neg h1
  have e2 : (n.natAbs : Int) = -n := by omega
  (iterate 2 ((try simp (etaStruct := .none) only [push_cast, DrawG, Int.cast_ofNat_Int, seval, e1, e2]); (try (refine xsu ?_; try exact xtI))))
  exact xrz rfl
 ·(try replace h1 := xhh h1)
  (try (refine xst ?_; try exact xtI))
  refine cond_i (fun h2 => ?_) (fun h2 => ?_)
  ·(try replace h2 := xhh h2)
   have e1 : n.sign = 1 := Int.sign_eq_one_of_pos h2
   have e2 : (n.natAbs : Int) = n := by omega
   (try (refine xst ?_; try exact xtI))
   exact xrz rfl
  ·(try replace h2 := xhh h2)
   obtain rfl : n = 0 := by omega
   (try (refine xst ?_; try exact xtI))
   exact xrz rfl
theorem cellNear_s (c : Cel) : Spec Tryz.prog 95 [celA c] [] (B (nearB c)) [] := by
 refine spec_am Tryz.func95 rfl rfl mix 11 rfl [.tmp 2] Tryz.results95 (Nat.le_of_ble_eq_true rfl) ?_
 (try (refine xst ?_; try exact xtI))
 refine caP (between_s c.x (-1000) 1000) ?_
 (try (refine xst ?_; try exact xtI))
 refine gcP (fun hcc => between_s c.y (-1000) 1000) ?_
 (try (refine xst ?_; try exact xtI))
 exact ret0 rfl trivial (Wk.of (congrArg B (by unfold nearB within; rw [Bool.eq_iff_iff]; simp; omega)))
theorem far_s (a b : Int) (ha : -4000000000000000000 ≤ a ∧ a ≤ 4000000000000000000) (hb : -4000000000000000000 ≤ b ∧ b ≤ 4000000000000000000) : Spec Tryz.prog 142 [I .i64 a, I .i64 b] [] (I .i64 (a - b).natAbs) [] := by
 refine spec_am Tryz.func142 rfl rfl mix 12 rfl [.tmp 4] Tryz.results142 (Nat.le_of_ble_eq_true rfl) ?_
 (try (refine xst ?_; try exact xtI))
 refine ret0 rfl trivial (Wk.of ?_)
 simp (etaStruct := .none) only [push_cast, DrawG, Int.cast_ofNat_Int, seval]
 simp only [I, AV.c.injEq, PV.v.injEq, Value.int.injEq, true_and]
 split <;> omega
theorem sg (d : Int) : d.sign = -1 ∨ d.sign = 0 ∨ d.sign = 1 := by
 rcases Int.lt_trichotomy d 0 with h | h | h
 ·rw [Int.sign_eq_neg_one_of_neg h]; omega
 ·rw [h]; simp
 ·rw [Int.sign_eq_one_of_pos h]; omega
def lineV (a b : Cel) : List Cel := lpts a (b.x - a.x).sign (b.y - a.y).sign (b.x - a.x).natAbs (b.y - a.y).natAbs (max (b.x - a.x).natAbs (b.y - a.y).natAbs)
theorem aside_s (n m k : Nat) (f t s : Int) (hn : 0 < n) (hm : m ≤ n) (hk : k ≤ n) (hn2 : n ≤ 120) (hs : s = 1 ∨ s = -1) (ht : t = f + s * m) (hf : -1000 ≤ f ∧ f ≤ 1000) (htn : -1000 ≤ t ∧ t ≤ 1000) :
 Spec Tryz.prog 183 [I .i64 k, I .i64 n, I .i64 f, I .i64 t] [] (I .i64 (f + s * lq n m k)) [] := by
 have HB := fun z hz hne => best_beats n m k f t s hn hm hk hs ht z hz hne
 obtain ⟨Q, hQ⟩ : ∃ Q, Q = f + s * lq n m k := ⟨_, rfl⟩
 obtain ⟨T, hT⟩ : ∃ T : Int, T = n * f + k * (t - f) := ⟨_, rfl⟩
 rw [← hQ, ← hT] at HB
 rw [← hQ]
 have HQ : min f t ≤ Q ∧ Q ≤ max f t := by
  have hq := lq_le n m k hn hk
  rw [hQ, ht]
  generalize lq n m k = q at *
  rcases hs with rfl | rfl <;> omega
 have hb1 := mul_bound n f 120 1000 hn2 (by omega)
 have hb2 := mul_bound k (t - f) 120 2000 (by omega) (by omega)
 clear hs ht hQ
 have E1 : (if f > t then t else f) = min f t := by simp only [Int.min_def]; split <;> split <;> omega
 have E2 : (if t > f then t else f) = max f t := by simp only [Int.max_def]; split <;> split <;> omega
 have E3 : (if t < f then t else f) = min f t := by simp only [Int.min_def]; split <;> split <;> omega
 refine spec_am Tryz.func183 rfl rfl mix 69 rfl [.tmp 8] Tryz.results183 (Nat.le_of_ble_eq_true rfl) ?_
 (iterate 2 ((try simp (etaStruct := .none) only [push_cast, DrawG, Int.cast_ofNat_Int, seval, E1, E2, E3]); (try (refine xsu ?_; try exact xtI))))
 refine loopI (fun p : Int × Int => ⟨[(10, I .i64 p.1), (9, I .i64 p.2), (3, I .i64 t), (2, I .i64 f), (1, I .i64 n), (0, I .i64 k)], [], 0⟩) (fun p : Int × Int => (min f t ≤ p.1 ∧ p.1 ≤ max f t + 1) ∧ (min f t ≤ p.2 ∧ p.2 ≤ max f t) ∧ (Q < p.1 ∨ Q = f → p.2 = Q)) (fun p : Int × Int => (max f t + 1 - p.1).toNat) ((min f t, f)) (⟨⟨by simp only; omega, by simp only; omega⟩, ⟨by simp only; omega, by simp only; omega⟩, fun h => by simp only at h ⊢; omega⟩) (To.mk [] rfl rfl List.nodup_nil trivial ?_) ?_
 ·simp (etaStruct := .none) only [push_cast, DrawG, Int.cast_ofNat_Int, seval]
 rintro ⟨y, b⟩ ⟨hy, hb, HI⟩
 simp only at hy hb HI
 (iterate 2 ((try simp (etaStruct := .none) only [push_cast, DrawG, Int.cast_ofNat_Int, seval, E1, E2, E3]); (try (refine xsu ?_; try exact xtI))))
 refine cond_i (fun h1 => ?_) (fun h1 => ?_)
 ·(try replace h1 := xhh h1)
  have hb3 := mul_bound n y 120 1000 hn2 (by omega)
  have hb4 := mul_bound n b 120 1000 hn2 (by omega)
  (iterate 2 ((try simp (etaStruct := .none) only [push_cast, DrawG, Int.cast_ofNat_Int, seval, E1, E2, E3]); (try (refine xsu ?_; try exact xtI))))
  have st := aside_step n T t Q f b y _ _ _ _ rfl rfl rfl rfl HI (fun h => HB y (by omega) h) (fun h => HB b (by omega) h)
  rw [hT] at st
  refine caP (far_s (n * y) (n * f + k * (t - f)) (by omega) (by omega)) ?_
  (iterate 2 ((try simp (etaStruct := .none) only [push_cast, DrawG, Int.cast_ofNat_Int, seval, E1, E2, E3]); (try (refine xsu ?_; try exact xtI))))
  refine caP (far_s (n * b) (n * f + k * (t - f)) (by omega) (by omega)) ?_
  (iterate 2 ((try simp (etaStruct := .none) only [push_cast, DrawG, Int.cast_ofNat_Int, seval, E1, E2, E3]); (try (refine xsu ?_; try exact xtI))))
  refine gcP (fun hcc => far_s y t (by omega) (by omega)) ?_
  (iterate 2 ((try simp (etaStruct := .none) only [push_cast, DrawG, Int.cast_ofNat_Int, seval, E1, E2, E3]); (try (refine xsu ?_; try exact xtI))))
  refine gcP (fun hcc => far_s b t (by omega) (by omega)) ?_
  (iterate 2 ((try simp (etaStruct := .none) only [push_cast, DrawG, Int.cast_ofNat_Int, seval, E1, E2, E3]); (try (refine xsu ?_; try exact xtI))))
  refine cond_i (fun h2 => ?_) (fun h2 => ?_)
  ·(try replace h2 := xhh h2)
   (iterate 2 ((try simp (etaStruct := .none) only [push_cast, DrawG, Int.cast_ofNat_Int, seval, E1, E2, E3]); (try (refine xsu ?_; try exact xtI))))
   refine ⟨(y + 1, y), ⟨⟨by simp only; omega, by simp only; omega⟩, ⟨by simp only; omega, by simp only; omega⟩, fun h => st.1 (by omega) h⟩, by simp only; omega, To.mk [] rfl rfl List.nodup_nil trivial ?_⟩
   ·(iterate 2 ((try simp (etaStruct := .none) only [push_cast, DrawG, Int.cast_ofNat_Int, seval, E1, E2, E3]); (try (refine xsu ?_; try exact xtI))))
  ·(try replace h2 := xhh h2)
   (iterate 2 ((try simp (etaStruct := .none) only [push_cast, DrawG, Int.cast_ofNat_Int, seval, E1, E2, E3]); (try (refine xsu ?_; try exact xtI))))
   refine ⟨(y + 1, b), ⟨⟨by simp only; omega, by simp only; omega⟩, ⟨by simp only; omega, by simp only; omega⟩, fun h => st.2 (by omega) h⟩, by simp only; omega, To.mk [] rfl rfl List.nodup_nil trivial ?_⟩
   ·(iterate 2 ((try simp (etaStruct := .none) only [push_cast, DrawG, Int.cast_ofNat_Int, seval, E1, E2, E3]); (try (refine xsu ?_; try exact xtI))))
 ·(try replace h1 := xhh h1)
  (iterate 2 ((try simp (etaStruct := .none) only [push_cast, DrawG, Int.cast_ofNat_Int, seval, E1, E2, E3]); (try (refine xsu ?_; try exact xtI))))
  exact ret0 rfl trivial (Wk.of (by rw [← HI (by omega)]; rfl))
end Go.Proofs.YthiddmncjafklaaGreat
namespace Go.Proofs.YthiddmncjafklaaGreat
set_option linter.all false
open Go.RowKit
set_option maxRecDepth 100000
set_option maxHeartbeats 2000000
def ordBad (o : Ord) : Bool := !within o.by_ 0 7 || !within o.kind 1 5 || !within o.who 0 1000000 || !nearB o.c || !within o.what 0 1000000
def ordForm (o : Ord) : Bool := decide (o.kind = 5 ∧ o.who ≠ 0) || decide (o.kind ≠ 2 ∧ o.kind ≠ 3 ∧ ¬ (o.c.x = 0 ∧ o.c.y = 0)) || decide (o.kind ≠ 1 ∧ o.kind ≠ 5 ∧ o.what ≠ 0)
def ordE (o : Ord) : Int := if ordBad o then 1 else if ordForm o then 4 else 0
theorem ordE_ok {o : Ord} (h : ordE o = 0) : (0 ≤ o.by_ ∧ o.by_ ≤ 7) ∧ (1 ≤ o.kind ∧ o.kind ≤ 5) ∧ (0 ≤ o.who ∧ o.who ≤ 1000000) ∧ (-1000 ≤ o.c.x ∧ o.c.x ≤ 1000 ∧ -1000 ≤ o.c.y ∧ o.c.y ≤ 1000) ∧ (0 ≤ o.what ∧ o.what ≤ 1000000) ∧
 (o.kind = 5 → o.who = 0) ∧ (o.kind ≠ 2 → o.kind ≠ 3 → o.c = ⟨0, 0⟩) ∧ (o.kind ≠ 1 → o.kind ≠ 5 → o.what = 0) := by
 unfold ordE at h
 split at h
 ·simp at h
 ·rename_i h1
  split at h
  ·simp at h
  ·rename_i h2
   simp only [ordBad, Bool.or_eq_true, Bool.not_eq_true', not_or, Bool.not_eq_false, within_iff, nearB, decide_eq_true_eq] at h1
   simp only [ordForm, Bool.or_eq_true, decide_eq_true_eq, not_or] at h2
   obtain ⟨⟨⟨⟨a1, a2⟩, a3⟩, a4⟩, a5⟩ := h1
   refine ⟨a1, a2, a3, a4, a5, fun h => by omega, fun h h' => ?_, fun h h' => by omega⟩
   have : o.c.x = 0 ∧ o.c.y = 0 := by omega
   cases hc : o.c; rw [hc] at this; simp at this; rw [this.1, this.2]
def firstE : List Ord → Int
 | [] => 0
 | o :: r => if ordE o ≠ 0 then ordE o else firstE r
theorem firstE_at : ∀ (l : List Ord) (k : Nat), k < l.length → firstE (l.drop k) = if ordE (l.getD k default) ≠ 0 then ordE (l.getD k default) else firstE (l.drop (k + 1)) := by
 intro l k hk
 rw [List.drop_eq_getElem_cons hk, getD_at _ _ hk]; rfl
theorem firstE_drop (l : List Ord) : ∀ k, k ≤ l.length → (∀ j, j < k → ordE (l.getD j default) = 0) → firstE l = firstE (l.drop k)
 | 0, _, _ => by simp
 | k + 1, hk, h => by
  rw [firstE_drop l k (by omega) fun j hj => h j (by omega), firstE_at l k (by omega), if_neg (fun h' => h' (h k (by omega)))]
theorem firstE_ok : ∀ (l : List Ord), firstE l = 0 → ∀ o ∈ l, ordE o = 0
 | [], _, o, ho => by simp at ho
 | a :: r, h, o, ho => by
  unfold firstE at h
  split at h
  ·rename_i h1; exact absurd h h1
  ·rename_i h1
   rcases List.mem_cons.1 ho with rfl | ho
   ·exact Decidable.not_not.1 h1
   ·exact firstE_ok r h o ho
def ordsE (l : List Ord) : Int := if 100 < l.length then 2 else firstE l
theorem ordsE_ok {l : List Ord} (h : ordsE l = 0) : l.length ≤ 100 ∧ ∀ o ∈ l, ordE o = 0 := by
 unfold ordsE at h
 split at h
 ·simp at h
 ·rename_i h1; exact ⟨by omega, firstE_ok l h⟩
def bareV (o : Ord) : Ord := ⟨o.by_, o.kind, if o.kind = 5 then 0 else o.who, if o.kind ≠ 2 ∧ o.kind ≠ 3 then ⟨0, 0⟩ else o.c, if o.kind ≠ 1 ∧ o.kind ≠ 5 then 0 else o.what⟩
theorem ord_dec (a b : Ord) : (decide (a.by_ = b.by_) && (decide (a.kind = b.kind) && (decide (a.who = b.who) && (decide (a.c.x = b.c.x) && (decide (a.c.y = b.c.y) && decide (a.what = b.what)))))) = decide (a = b) := by
 rw [Bool.eq_iff_iff]; obtain ⟨_, _, _, ⟨_, _⟩, _⟩ := a; obtain ⟨_, _, _, ⟨_, _⟩, _⟩ := b; simp [and_assoc]
theorem bare_form (o : Ord) : decide (bareV o = o) = !ordForm o := by
 obtain ⟨b, k, w, ⟨x, y⟩, t⟩ := o
 unfold bareV ordForm
 rw [Bool.eq_iff_iff]
 simp only [decide_eq_true_eq, Bool.not_eq_true', Bool.or_eq_false_iff, decide_eq_false_iff_not, Ord.mk.injEq, true_and]
 constructor
 ·rintro ⟨h1, h2, h3⟩
  refine ⟨⟨fun h => ?_, fun h => ?_⟩, fun h => ?_⟩
  ·rw [if_pos h.1] at h1; omega
  ·rw [if_pos ⟨h.1, h.2.1⟩] at h2; simp at h2; omega
  ·rw [if_pos ⟨h.1, h.2.1⟩] at h3; omega
 ·rintro ⟨⟨h1, h2⟩, h3⟩
  refine ⟨?_, ?_, ?_⟩
  ·split <;> omega
  ·split
   ·simp; omega
   ·rfl
  ·split <;> omega
theorem near_within (c : Cel) : (!within c.x (-1000) 1000 || !within c.y (-1000) 1000) = !nearB c := by
 unfold within nearB
 rw [Bool.eq_iff_iff]; simp; omega
theorem owithin_s (n a b : Int) : Spec Tryz.prog 124 [I .i64 n, I .i64 a, I .i64 b] [] (B (within n a b)) [] := by
 refine spec_am Tryz.func124 rfl rfl mix 15 rfl [.tmp 6] Tryz.results124 (Nat.le_of_ble_eq_true rfl) ?_
 (try (refine xst ?_; try exact xtI))
 exact ret0 rfl trivial (Wk.of (congrArg B (by unfold within; first | rfl | simp)))
theorem bare_o (o : Ord) : Spec Tryz.prog 125 [ordA o] [] (ordA (bareV o)) [] := by
 refine spec_am Tryz.func125 rfl rfl mix 27 rfl [.cell 2 96] Tryz.results125 (Nat.le_of_ble_eq_true rfl) ?_
 (try (refine xst ?_; try exact xtI))
 refine cond_i (fun h1 => ?_) (fun h1 => ?_)
 ·(try replace h1 := xhh h1)
  (try (refine xst ?_; try exact xtI))
  refine cond_i (fun h2 => ?_) (fun h2 => ?_)
  ·(try replace h2 := xhh h2)
   (try (refine xst ?_; try exact xtI))
   refine cond_i (fun h3 => ?_) (fun h3 => ?_)
   ·(try replace h3 := xhh h3)
    (try (refine xst ?_; try exact xtI))
    (first | (refine retA rfl (Wk.of ?_); (try simp (etaStruct := .none) only [push_cast, DrawG, Int.cast_ofNat_Int, seval]); first | done | (simp [bareV, *]; done) | (simp_all [bareV]; done)) | (refine retA rfl ?_; (try simp (etaStruct := .none) only [push_cast, DrawG, Int.cast_ofNat_Int, seval]); (try simp [bareV, *]); (try exact wkc)))
   ·(try replace h3 := xhh h3)
    have e2 : ¬ (o.kind ≠ 1 ∧ o.kind ≠ 5) := by omega
    (try (refine xst ?_; try exact xtI))
    (first | (refine retA rfl (Wk.of ?_); (try simp (etaStruct := .none) only [push_cast, DrawG, Int.cast_ofNat_Int, seval]); first | done | (simp [bareV, *]; done) | (simp_all [bareV]; done)) | (refine retA rfl ?_; (try simp (etaStruct := .none) only [push_cast, DrawG, Int.cast_ofNat_Int, seval]); (try simp [bareV, *]); (try exact wkc)))
  ·(try replace h2 := xhh h2)
   have e1 : ¬ (o.kind ≠ 2 ∧ o.kind ≠ 3) := by omega
   (try (refine xst ?_; try exact xtI))
   refine cond_i (fun h4 => ?_) (fun h4 => ?_)
   ·(try replace h4 := xhh h4)
    (try (refine xst ?_; try exact xtI))
    (first | (refine retA rfl (Wk.of ?_); (try simp (etaStruct := .none) only [push_cast, DrawG, Int.cast_ofNat_Int, seval]); first | done | (simp [bareV, *]; done) | (simp_all [bareV]; done)) | (refine retA rfl ?_; (try simp (etaStruct := .none) only [push_cast, DrawG, Int.cast_ofNat_Int, seval]); (try simp [bareV, *]); (try exact wkc)))
   ·(try replace h4 := xhh h4)
    have e2 : ¬ (o.kind ≠ 1 ∧ o.kind ≠ 5) := by omega
    (try (refine xst ?_; try exact xtI))
    (first | (refine retA rfl (Wk.of ?_); (try simp (etaStruct := .none) only [push_cast, DrawG, Int.cast_ofNat_Int, seval]); first | done | (simp [bareV, *]; done) | (simp_all [bareV]; done)) | (refine retA rfl ?_; (try simp (etaStruct := .none) only [push_cast, DrawG, Int.cast_ofNat_Int, seval]); (try simp [bareV, *]); (try exact wkc)))
 ·(try replace h1 := xhh h1)
  (try (refine xst ?_; try exact xtI))
  refine cond_i (fun h5 => ?_) (fun h5 => ?_)
  ·(try replace h5 := xhh h5)
   (try (refine xst ?_; try exact xtI))
   refine cond_i (fun h6 => ?_) (fun h6 => ?_)
   ·(try replace h6 := xhh h6)
    (try (refine xst ?_; try exact xtI))
    (first | (refine retA rfl (Wk.of ?_); (try simp (etaStruct := .none) only [push_cast, DrawG, Int.cast_ofNat_Int, seval]); first | done | (simp [bareV, *]; done) | (simp_all [bareV]; done)) | (refine retA rfl ?_; (try simp (etaStruct := .none) only [push_cast, DrawG, Int.cast_ofNat_Int, seval]); (try simp [bareV, *]); (try exact wkc)))
   ·(try replace h6 := xhh h6)
    have e2 : o.kind = 1 := by omega
    (try (refine xst ?_; try exact xtI))
    (first | (refine retA rfl (Wk.of ?_); (try simp (etaStruct := .none) only [push_cast, DrawG, Int.cast_ofNat_Int, seval]); first | done | (simp [bareV, *]; done) | (simp_all [bareV]; done)) | (refine retA rfl ?_; (try simp (etaStruct := .none) only [push_cast, DrawG, Int.cast_ofNat_Int, seval]); (try simp [bareV, *]); (try exact wkc)))
  ·(try replace h5 := xhh h5)
   have e1 : ¬ (o.kind ≠ 2 ∧ o.kind ≠ 3) := by omega
   (try (refine xst ?_; try exact xtI))
   refine cond_i (fun h7 => ?_) (fun h7 => ?_)
   ·(try replace h7 := xhh h7)
    (try (refine xst ?_; try exact xtI))
    (first | (refine retA rfl (Wk.of ?_); (try simp (etaStruct := .none) only [push_cast, DrawG, Int.cast_ofNat_Int, seval]); first | done | (simp [bareV, *]; done) | (simp_all [bareV]; done)) | (refine retA rfl ?_; (try simp (etaStruct := .none) only [push_cast, DrawG, Int.cast_ofNat_Int, seval]); (try simp [bareV, *]); (try exact wkc)))
   ·(try replace h7 := xhh h7)
    have e2 : ¬ (o.kind ≠ 1 ∧ o.kind ≠ 5) := by omega
    (try (refine xst ?_; try exact xtI))
    (first | (refine retA rfl (Wk.of ?_); (try simp (etaStruct := .none) only [push_cast, DrawG, Int.cast_ofNat_Int, seval]); first | done | (simp [bareV, *]; done) | (simp_all [bareV]; done)) | (refine retA rfl ?_; (try simp (etaStruct := .none) only [push_cast, DrawG, Int.cast_ofNat_Int, seval]); (try simp [bareV, *]); (try exact wkc)))
theorem ocheck_s (o : Ord) : Spec Tryz.prog 80 [ordA o] [] (I .i64 (ordE o)) [] := by
 refine spec_am Tryz.func80 rfl rfl mix 43 rfl [.tmp 2] Tryz.results80 (Nat.le_of_ble_eq_true rfl) ?_
 (iterate 2 ((try simp (etaStruct := .none) only [push_cast, DrawG, Int.cast_ofNat_Int, seval, ord_dec (bareV o) o, bare_form o]); (try (refine xsu ?_; try exact xtI))))
 refine caP (owithin_s o.by_ 0 7) ?_
 (iterate 2 ((try simp (etaStruct := .none) only [push_cast, DrawG, Int.cast_ofNat_Int, seval, ord_dec (bareV o) o, bare_form o]); (try (refine xsu ?_; try exact xtI))))
 refine gcP (fun hcc => owithin_s o.kind 1 5) ?_
 (iterate 2 ((try simp (etaStruct := .none) only [push_cast, DrawG, Int.cast_ofNat_Int, seval, ord_dec (bareV o) o, bare_form o]); (try (refine xsu ?_; try exact xtI))))
 refine gcP (fun hcc => owithin_s o.who 0 1000000) ?_
 (iterate 2 ((try simp (etaStruct := .none) only [push_cast, DrawG, Int.cast_ofNat_Int, seval, ord_dec (bareV o) o, bare_form o]); (try (refine xsu ?_; try exact xtI))))
 refine gcP (fun hcc => owithin_s o.c.x (-1000) 1000) ?_
 (iterate 2 ((try simp (etaStruct := .none) only [push_cast, DrawG, Int.cast_ofNat_Int, seval, ord_dec (bareV o) o, bare_form o]); (try (refine xsu ?_; try exact xtI))))
 refine gcP (fun hcc => owithin_s o.c.y (-1000) 1000) ?_
 (iterate 2 ((try simp (etaStruct := .none) only [push_cast, DrawG, Int.cast_ofNat_Int, seval, ord_dec (bareV o) o, bare_form o]); (try (refine xsu ?_; try exact xtI))))
 refine gcP (fun hcc => owithin_s o.what 0 1000000) ?_
 (iterate 2 ((try simp (etaStruct := .none) only [push_cast, DrawG, Int.cast_ofNat_Int, seval, ord_dec (bareV o) o, bare_form o]); (try (refine xsu ?_; try exact xtI))))
 refine cond_i (fun h1 => ?_) (fun h1 => ?_)
 ·(try replace h1 := xhh h1)
  have hb : ordBad o = true := by unfold ordBad; rw [← near_within]; simpa [or_assoc] using h1
  (iterate 2 ((try simp (etaStruct := .none) only [push_cast, DrawG, Int.cast_ofNat_Int, seval, ord_dec (bareV o) o, bare_form o]); (try (refine xsu ?_; try exact xtI))))
  (first | (refine retA rfl (Wk.of ?_); (try simp (etaStruct := .none) only [push_cast, DrawG, Int.cast_ofNat_Int, seval]); first | done | (simp [ordE, hb, *]; done) | (simp_all [ordE, hb]; done)) | (refine retA rfl ?_; (try simp (etaStruct := .none) only [push_cast, DrawG, Int.cast_ofNat_Int, seval]); (try simp [ordE, hb, *]); (try exact wkc)))
 ·(try replace h1 := xhh h1)
  have hb : ordBad o = false := by unfold ordBad; rw [← near_within]; simpa [and_assoc] using h1
  (iterate 2 ((try simp (etaStruct := .none) only [push_cast, DrawG, Int.cast_ofNat_Int, seval, ord_dec (bareV o) o, bare_form o]); (try (refine xsu ?_; try exact xtI))))
  refine caP (bare_o o) ?_
  (iterate 2 ((try simp (etaStruct := .none) only [push_cast, DrawG, Int.cast_ofNat_Int, seval, ord_dec (bareV o) o, bare_form o]); (try (refine xsu ?_; try exact xtI))))
  (try (refine ⟨by kernel_rfl, ?_⟩))
  (iterate 2 ((try simp (etaStruct := .none) only [push_cast, DrawG, Int.cast_ofNat_Int, seval, ord_dec (bareV o) o, bare_form o]); (try (refine xsu ?_; try exact xtI))))
  refine cond_i (fun h2 => ?_) (fun h2 => ?_)
  ·(try replace h2 := xhh h2)
   (iterate 2 ((try simp (etaStruct := .none) only [push_cast, DrawG, Int.cast_ofNat_Int, seval, ord_dec (bareV o) o, bare_form o]); (try (refine xsu ?_; try exact xtI))))
   (first | (refine retA rfl (Wk.of ?_); (try simp (etaStruct := .none) only [push_cast, DrawG, Int.cast_ofNat_Int, seval]); first | done | (simp [ordE, hb, *]; done) | (simp_all [ordE, hb]; done)) | (refine retA rfl ?_; (try simp (etaStruct := .none) only [push_cast, DrawG, Int.cast_ofNat_Int, seval]); (try simp [ordE, hb, *]); (try exact wkc)))
  ·(try replace h2 := xhh h2)
   (iterate 2 ((try simp (etaStruct := .none) only [push_cast, DrawG, Int.cast_ofNat_Int, seval, ord_dec (bareV o) o, bare_form o]); (try (refine xsu ?_; try exact xtI))))
   (first | (refine retA rfl (Wk.of ?_); (try simp (etaStruct := .none) only [push_cast, DrawG, Int.cast_ofNat_Int, seval]); first | done | (simp [ordE, hb, *]; done) | (simp_all [ordE, hb]; done)) | (refine retA rfl ?_; (try simp (etaStruct := .none) only [push_cast, DrawG, Int.cast_ofNat_Int, seval]); (try simp [ordE, hb, *]); (try exact wkc)))
theorem oright_s (o : Ord) : Spec Tryz.prog 61 [ordA o] [] (I .i64 (ordE o)) [] := by
 refine spec_am Tryz.func61 rfl rfl mix 85 rfl [.tmp 2] Tryz.results61 (Nat.le_of_ble_eq_true rfl) ?_
 (try (refine xst ?_; try exact xtI))
 refine caP (between_s o.by_ 0 7) ?_
 (try (refine xst ?_; try exact xtI))
 refine gcP (fun hcc => between_s o.kind 1 5) ?_
 (try (refine xst ?_; try exact xtI))
 refine gcP (fun hcc => between_s o.who 0 1000000) ?_
 (try (refine xst ?_; try exact xtI))
 refine gcP (fun hcc => cellNear_s o.c) ?_
 (try (refine xst ?_; try exact xtI))
 refine gcP (fun hcc => between_s o.what 0 1000000) ?_
 (try (refine xst ?_; try exact xtI))
 refine cond_i (fun h1 => ?_) (fun h1 => ?_)
 ·(try replace h1 := xhh h1)
  have hb : ordBad o = true := by unfold ordBad; simpa [or_assoc] using h1
  (try (refine xst ?_; try exact xtI))
  (first | (refine retA rfl (Wk.of ?_); (try simp (etaStruct := .none) only [push_cast, DrawG, Int.cast_ofNat_Int, seval]); first | done | (simp [ordE, hb, *]; done) | (simp_all [ordE, hb]; done)) | (refine retA rfl ?_; (try simp (etaStruct := .none) only [push_cast, DrawG, Int.cast_ofNat_Int, seval]); (try simp [ordE, hb, *]); (try exact wkc)))
 ·(try replace h1 := xhh h1)
  have hb : ordBad o = false := by unfold ordBad; simpa [and_assoc] using h1
  (try (refine xst ?_; try exact xtI))
  refine cond_i (fun h2 => ?_) (fun h2 => ?_)
  ·(try replace h2 := xhh h2)
   have hc : ordForm o = true := by unfold ordForm; simp; omega
   (try (refine xst ?_; try exact xtI))
   (first | (refine retA rfl (Wk.of ?_); (try simp (etaStruct := .none) only [push_cast, DrawG, Int.cast_ofNat_Int, seval]); first | done | (simp [ordE, hb, *]; done) | (simp_all [ordE, hb]; done)) | (refine retA rfl ?_; (try simp (etaStruct := .none) only [push_cast, DrawG, Int.cast_ofNat_Int, seval]); (try simp [ordE, hb, *]); (try exact wkc)))
  ·(try replace h2 := xhh h2)
   have hc : ordForm o = false := by unfold ordForm; simp; omega
   (try (refine xst ?_; try exact xtI))
   (first | (refine retA rfl (Wk.of ?_); (try simp (etaStruct := .none) only [push_cast, DrawG, Int.cast_ofNat_Int, seval]); first | done | (simp [ordE, hb, *]; done) | (simp_all [ordE, hb]; done)) | (refine retA rfl ?_; (try simp (etaStruct := .none) only [push_cast, DrawG, Int.cast_ofNat_Int, seval]); (try simp [ordE, hb, *]); (try exact wkc)))
theorem oall_s (l : List Ord) (hl : l.length ≤ 9223372036854775807) : Spec Tryz.prog 52 [.c (.sl 6 (l.map ordP))] [] (I .i64 (ordsE l)) [] := by
 refine spec_am Tryz.func52 rfl rfl mix 21 rfl [.tmp 2] Tryz.results52 (Nat.le_of_ble_eq_true rfl) ?_
 (try (refine xst ?_; try exact xtI))
 refine cond_i (fun h1 => ?_) (fun h1 => ?_)
 ·(try replace h1 := xhh h1)
  have h1' : 100 < l.length := by omega
  (try (refine xst ?_; try exact xtI))
  (first | (refine retA rfl (Wk.of ?_); (try simp (etaStruct := .none) only [push_cast, DrawG, Int.cast_ofNat_Int, seval]); first | done | (simp [ordsE, *]; done) | (simp_all [ordsE]; done)) | (refine retA rfl ?_; (try simp (etaStruct := .none) only [push_cast, DrawG, Int.cast_ofNat_Int, seval]); (try simp [ordsE, *]); (try exact wkc)))
 ·(try replace h1 := xhh h1)
  (try (refine xst ?_; try exact xtI))
  refine loopI (fun k : Nat => ⟨[(11, I .i64 k), (10, I .i64 l.length), (9, .c (.sl 6 (l.map ordP)))], [], 0⟩) (fun k : Nat => k ≤ l.length ∧ ∀ j, j < k → ordE (l.getD j default) = 0) (fun k : Nat => l.length - k) (0) (⟨Nat.zero_le _, fun j h => by omega⟩) (To.mk [] rfl rfl List.nodup_nil trivial ?_) ?_
  ·simp (etaStruct := .none) only [push_cast, DrawG, Int.cast_ofNat_Int, seval]
  rintro k ⟨hk, hn⟩
  (try (refine xst ?_; try exact xtI))
  refine cond_i (fun h2 => ?_) (fun h2 => ?_)
  ·(try replace h2 := xhh h2)
   have hlt : k < l.length := by omega
   (iterate 2 ((try simp (etaStruct := .none) only [push_cast, DrawG, Int.cast_ofNat_Int, seval, getD_in _ _ _ hlt, ordP]); (try (refine xsu ?_; try exact xtI))))
   refine caP (ocheck_s (l.getD k default)) ?_
   (iterate 2 ((try simp (etaStruct := .none) only [push_cast, DrawG, Int.cast_ofNat_Int, seval, getD_in _ _ _ hlt, ordP]); (try (refine xsu ?_; try exact xtI))))
   refine cond_i (fun h3 => ?_) (fun h3 => ?_)
   ·(try replace h3 := xhh h3)
    have e : ordsE l = ordE (l.getD k default) := by
     unfold ordsE
     rw [if_neg (by omega), firstE_drop l k hk hn, firstE_at l k hlt, if_pos h3]
    (iterate 2 ((try simp (etaStruct := .none) only [push_cast, DrawG, Int.cast_ofNat_Int, seval, getD_in _ _ _ hlt, ordP]); (try (refine xsu ?_; try exact xtI))))
    (first | (refine retA rfl (Wk.of ?_); (try simp (etaStruct := .none) only [push_cast, DrawG, Int.cast_ofNat_Int, seval]); first | done | (simp [e, *]; done) | (simp_all [e]; done)) | (refine retA rfl ?_; (try simp (etaStruct := .none) only [push_cast, DrawG, Int.cast_ofNat_Int, seval]); (try simp [e, *]); (try exact wkc)))
   ·(try replace h3 := xhh h3)
    (iterate 2 ((try simp (etaStruct := .none) only [push_cast, DrawG, Int.cast_ofNat_Int, seval, getD_in _ _ _ hlt, ordP]); (try (refine xsu ?_; try exact xtI))))
    refine ⟨k + 1, ⟨by omega, fun j hj => by rcases Nat.lt_or_ge j k with h | h; exact hn j h; rw [show j = k by omega]; exact h3⟩, by omega, To.mk [] rfl rfl List.nodup_nil trivial ?_⟩
    ·(iterate 2 ((try simp (etaStruct := .none) only [push_cast, DrawG, Int.cast_ofNat_Int, seval, getD_in _ _ _ hlt, ordP]); (try (refine xsu ?_; try exact xtI))))
  ·(try replace h2 := xhh h2)
   have e : ordsE l = 0 := by
    unfold ordsE
    rw [if_neg (by omega), firstE_drop l k hk hn, List.drop_eq_nil_of_le (by omega)]; rfl
   (try (refine xst ?_; try exact xtI))
   (first | (refine retA rfl (Wk.of ?_); (try simp (etaStruct := .none) only [push_cast, DrawG, Int.cast_ofNat_Int, seval]); first | done | (simp [e, *]; done) | (simp_all [e]; done)) | (refine retA rfl ?_; (try simp (etaStruct := .none) only [push_cast, DrawG, Int.cast_ofNat_Int, seval]); (try simp [e, *]); (try exact wkc)))
theorem orights_s (l : List Ord) (hl : l.length ≤ 9223372036854775807) : Spec Tryz.prog 28 [.c (.sl 6 (l.map ordP))] [] (I .i64 (ordsE l)) [] := by
 refine spec_am Tryz.func28 rfl rfl mix 25 rfl [.tmp 2] Tryz.results28 (Nat.le_of_ble_eq_true rfl) ?_
 (try (refine xst ?_; try exact xtI))
 refine cond_i (fun h1 => ?_) (fun h1 => ?_)
 ·(try replace h1 := xhh h1)
  have h1' : 100 < l.length := by omega
  (try (refine xst ?_; try exact xtI))
  (first | (refine retA rfl (Wk.of ?_); (try simp (etaStruct := .none) only [push_cast, DrawG, Int.cast_ofNat_Int, seval]); first | done | (simp [ordsE, *]; done) | (simp_all [ordsE]; done)) | (refine retA rfl ?_; (try simp (etaStruct := .none) only [push_cast, DrawG, Int.cast_ofNat_Int, seval]); (try simp [ordsE, *]); (try exact wkc)))
 ·(try replace h1 := xhh h1)
  have h1' : ¬ 100 < l.length := by omega
  (try (refine xst ?_; try exact xtI))
  refine loopI (fun k : Nat => ⟨[(4, I .i64 ((k : Int) - 1)), (3, I .i64 (firstE (l.drop k))), (0, .c (.sl 6 (l.map ordP)))], [], 0⟩) (fun k : Nat => k ≤ l.length) (fun k : Nat => k) (l.length) (Nat.le_refl _) (To.mk [] rfl rfl List.nodup_nil trivial ?_) ?_
  ·simp (etaStruct := .none) only [push_cast, DrawG, Int.cast_ofNat_Int, seval, List.drop_length, firstE]
  rintro k hk
  (try (refine xst ?_; try exact xtI))
  refine cond_i (fun h2 => ?_) (fun h2 => ?_)
  ·(try replace h2 := xhh h2)
   have hlt : k - 1 < l.length := by omega
   have ek : ((k : Int) - 1).toNat = k - 1 := by omega
   have ek2 : ((k - 1 : Nat) : Int) = (k : Int) - 1 := by omega
   have fe := firstE_at l (k - 1) hlt
   rw [show k - 1 + 1 = k by omega] at fe
   (iterate 2 ((try simp (etaStruct := .none) only [push_cast, DrawG, Int.cast_ofNat_Int, seval, ek, getD_in _ _ _ hlt, ordP]); (try (refine xsu ?_; try exact xtI))))
   refine caP (oright_s (l.getD (k - 1) default)) ?_
   (iterate 2 ((try simp (etaStruct := .none) only [push_cast, DrawG, Int.cast_ofNat_Int, seval, ek, getD_in _ _ _ hlt, ordP]); (try (refine xsu ?_; try exact xtI))))
   refine cond_i (fun h3 => ?_) (fun h3 => ?_)
   ·(try replace h3 := xhh h3)
    rw [if_pos h3] at fe
    (iterate 2 ((try simp (etaStruct := .none) only [push_cast, DrawG, Int.cast_ofNat_Int, seval, ek, getD_in _ _ _ hlt, ordP]); (try (refine xsu ?_; try exact xtI))))
    refine ⟨k - 1, by omega, by omega, To.mk [] rfl rfl List.nodup_nil trivial ?_⟩
    ·(iterate 2 ((try simp (etaStruct := .none) only [push_cast, DrawG, Int.cast_ofNat_Int, seval, fe, ek2]); (try (refine xsu ?_; try exact xtI))))
   ·(try replace h3 := xhh h3)
    rw [if_neg (by simpa using h3)] at fe
    (iterate 2 ((try simp (etaStruct := .none) only [push_cast, DrawG, Int.cast_ofNat_Int, seval, ek, getD_in _ _ _ hlt, ordP]); (try (refine xsu ?_; try exact xtI))))
    refine ⟨k - 1, by omega, by omega, To.mk [] rfl rfl List.nodup_nil trivial ?_⟩
    ·(iterate 2 ((try simp (etaStruct := .none) only [push_cast, DrawG, Int.cast_ofNat_Int, seval, fe, ek2]); (try (refine xsu ?_; try exact xtI))))
  ·(try replace h2 := xhh h2)
   obtain rfl : k = 0 := by omega
   (try (refine xst ?_; try exact xtI))
   (first | (refine retA rfl (Wk.of ?_); (try simp (etaStruct := .none) only [push_cast, DrawG, Int.cast_ofNat_Int, seval]); first | done | (simp [ordsE, *]; done) | (simp_all [ordsE]; done)) | (refine retA rfl ?_; (try simp (etaStruct := .none) only [push_cast, DrawG, Int.cast_ofNat_Int, seval]); (try simp [ordsE, *]); (try exact wkc)))
end Go.Proofs.YthiddmncjafklaaGreat
namespace Go.Proofs.YthiddmncjafklaaGreat
set_option linter.all false
open Go.RowKit
theorem RelL.setAt {U F : Nat → Prop} {β : Nat → Option Bind} {w : World} {y : AV} : ∀ {cs : List AV} {us : List Value} (j : Nat), RelL U w F β cs us → (∀ u, us[j]? = some u → RelA U w F β y u) → RelL U w F β (cs.set j y) us
 | [], us, j, h, _ => by simpa using h
 | x :: r, us, j, h, hy => by
  simp only [RelL] at h
  obtain ⟨u, us', rfl, h1, h2⟩ := h
  cases j with
  | zero => simp only [List.set_cons_zero, RelL]; exact ⟨u, us', rfl, hy u rfl, h2⟩
  | succ j => simp only [List.set_cons_succ, RelL]; exact ⟨u, us', rfl, h1, RelL.setAt j h2 (fun v hv => hy v (by simpa using hv))⟩
theorem To.nilC {k : Nat} {s : St} (id j e sz tt : Nat) (cs : List AV) (hc : lookC s.h id = .blk tt cs) (hj : cs[j]? = some (.c (.v (.slice none 0 0)))) : ToK k s ⟨s.t, (s.n, .row e sz []) :: (id, .blk tt (cs.set j (.own s.n))) :: s.h, s.n + 1⟩ := by
 intro H F β a w hk C
 obtain ⟨bd0, hb1, hb2⟩ := C.m.ch id (by rw [hc]; simp)
 have hidn : id ≠ s.n := fun h => absurd (C.m.used _ _ hb1) (by rw [h]; exact Nat.lt_irrefl _)
 obtain ⟨M, E⟩ := C.m.step (w' := w) (h' := lookC ((s.n, .row e sz []) :: (id, .blk tt (cs.set j (.own s.n))) :: s.h)) (β' := updB β s.n (some ⟨.slice none 0 0, none, 0, sz⟩)) (F' := F) (U' := (· < s.n + 1)) (fun i => i = s.n ∨ i = id)
  (fun i hi => by simp only [not_or] at hi; simp [updB, Ne.symm hi.1]) (fun i hi => by simp only [not_or] at hi; simp [lookC, Ne.symm hi.1, Ne.symm hi.2]) rfl rfl rfl (Nat.le_refl _) (fun _ _ _ => rfl) (fun i hi => Nat.lt_succ_of_lt hi) (fun b hb => hb)
  (fun b hb => ⟨C.m.fin b hb, .inl hb⟩)
  (fun i bd' hi hu hb => by
   rcases hi with rfl | rfl
   ·exact absurd hu (Nat.lt_irrefl _)
   ·simpa [updB, Ne.symm hidn] using hb)
  (fun i bd' hi hb => by
   rcases hi with rfl | rfl
   ·simp only [updB, if_true, Option.some.injEq] at hb
    subst hb
    exact ⟨Nat.lt_succ_self _, fun b hb => by simp at hb⟩
   ·have hb' : β i = some bd' := by simpa [updB, Ne.symm hidn] using hb
    refine ⟨Nat.lt_succ_of_lt (C.m.used _ _ hb'), fun b hbb => ?_⟩
    obtain ⟨p1, p2, p3⟩ := C.m.off _ _ _ hb' hbb
    exact ⟨p2, p1, .inr ⟨i, bd', .inr rfl, hb', hbb⟩⟩)
  (fun i j' bi bj b hi hj' hbi hbj h1 h2 => by
   rcases hi with rfl | rfl <;> rcases hj' with rfl | rfl
   ·rfl
   ·simp only [updB, if_true, Option.some.injEq] at hbi; subst hbi; simp at h1
   ·simp only [updB, if_true, Option.some.injEq] at hbj; subst hbj; simp at h2
   ·rfl)
  (fun E i hi _ => by
   rcases hi with rfl | rfl
   ·refine ⟨⟨.slice none 0 0, none, 0, sz⟩, by simp [updB], ?_⟩
    simp only [lookC, if_true, ChOk]
    simp
   ·refine ⟨bd0, by simpa [updB, Ne.symm hidn] using hb1, ?_⟩
    have hb2' := ChOk.mono E (fun g _ => rfl) hb2
    rw [hc] at hb2'
    simp only [lookC, if_true, Ne.symm hidn, if_false]
    obtain ⟨q1, q2, g, vs, q3, q4, q5, q6, q7⟩ := hb2'
    refine ⟨by rw [List.length_set]; exact q1, q2, g, vs, q3, q4, q5, RelL.setAt j q6 (fun u hu => ?_), q7⟩
    obtain ⟨u', hu', hr⟩ := q6.at j _ hj
    rw [hu] at hu'; cases hu'
    rw [relC] at hr
    simp only [RelA]
    rw [hr.1]
    refine ⟨Nat.lt_succ_self _, rfl, fun bd hb => ?_⟩
    simp only [updB, if_true, Option.some.injEq] at hb
    subst hb; rfl)
 refine ⟨F, updB β s.n (some ⟨.slice none 0 0, none, 0, sz⟩), fun t' => RelA.mono E _ _ (C.t t'), M, C.nt, C.d, C.f, C.g, fun i bd' hi hb => ?_, Nat.le_succ_of_le C.k⟩
 refine C.e i bd' hi ?_
 have : s.n ≠ i := by have := C.k; omega
 simpa [updB, this] using hb
theorem To.cutC {k : Nat} {s : St} (bid j id l e sz tt : Nat) (cs : List AV) (xs : List (List PV)) (hc : lookC s.h bid = .blk tt cs) (hj : cs[j]? = some (.view id 0 l)) (hr : lookC s.h id = .row e sz xs) (hl : l ≤ xs.length) :
 ToK k s ⟨s.t, (s.n, .row e sz (xs.take l)) :: (id, .dead) :: (bid, .blk tt (cs.set j (.own s.n))) :: s.h, s.n + 1⟩ := by
 intro H F β a w hk C
 obtain ⟨bd0, hb1, hb2⟩ := C.m.ch bid (by rw [hc]; simp)
 obtain ⟨bd1, hr1, hr2⟩ := C.m.ch id (by rw [hr]; simp)
 have hbn : bid ≠ s.n := fun h => absurd (C.m.used _ _ hb1) (by rw [h]; exact Nat.lt_irrefl _)
 have hin : id ≠ s.n := fun h => absurd (C.m.used _ _ hr1) (by rw [h]; exact Nat.lt_irrefl _)
 have hbi : bid ≠ id := fun h => by rw [h, hr] at hc; simp at hc
 have hb2' := hb2
 rw [hc] at hb2'
 obtain ⟨q1, q2, g0, vs, q3, q4, q5, q6, q7⟩ := hb2'
 obtain ⟨u, hu, hv⟩ := q6.at j _ hj
 simp only [RelA] at hv
 obtain ⟨_, hone, hv⟩ := hv
 obtain ⟨va, vc, rfl, hvl, hvc, hvm, hvg, hvn⟩ := hv bd1 hr1
 obtain ⟨vn, hvn⟩ := hvn trivial
 have hr3 := hr2
 rw [hr] at hr3
 obtain ⟨p1, p2, p3, p4⟩ := hr3
 have nb : ∃ b, (⟨.slice va l vc, b, l, sz⟩ : Bind).b = bd1.b ∧ ((b = none ∧ l = 0 ∧ (Value.slice va l vc) = .slice none 0 0) ∨ ∃ g cur, b = some g ∧ va = some ⟨g, 0, none⟩ ∧ w.heap[g]? = some (.cells cur e (0, 0)) ∧ l ≤ vc ∧ vc ≤ maxLen ∧ cur.size = vc * sz ∧ RelE w F g sz 0 (xs.take l)) := by
  refine ⟨bd1.b, rfl, ?_⟩
  rcases p4 with ⟨h1, h2, h3⟩ | ⟨g, cap, cur, h1, h2, h3, h4, h5, h6, h7⟩
  ·rw [h3] at hvn
   simp only [Value.slice.injEq] at hvn
   obtain ⟨rfl, _, rfl⟩ := hvn
   have : l = 0 := by subst h2; simpa using hl
   subst this
   exact .inl ⟨h1, rfl, rfl⟩
  ·rw [h2] at hvn
   simp only [Value.slice.injEq] at hvn
   obtain ⟨rfl, _, rfl⟩ := hvn
   refine .inr ⟨g, cur, h1, rfl, h3, hvc, hvm, h6, ?_⟩
   refine RelE.of fun i cs' hi => ?_
   rw [List.getElem?_take] at hi
   split at hi
   ·exact RelE.at h7 i cs' hi
   ·simp at hi
 obtain ⟨nbb, hnb, hnc⟩ := nb
 obtain ⟨M, E⟩ := C.m.step (w' := w) (h' := lookC ((s.n, .row e sz (xs.take l)) :: (id, .dead) :: (bid, .blk tt (cs.set j (.own s.n))) :: s.h)) (β' := updB (updB β id none) s.n (some ⟨.slice va l vc, nbb, l, sz⟩)) (F' := F) (U' := (· < s.n + 1)) (fun i => i = s.n ∨ i = id ∨ i = bid)
  (fun i hi => by simp only [not_or] at hi; simp [updB, Ne.symm hi.1, Ne.symm hi.2.1]) (fun i hi => by simp only [not_or] at hi; simp [lookC, Ne.symm hi.1, Ne.symm hi.2.1, Ne.symm hi.2.2]) rfl rfl rfl (Nat.le_refl _) (fun _ _ _ => rfl) (fun i hi => Nat.lt_succ_of_lt hi) (fun b hb => hb)
  (fun b hb => ⟨C.m.fin b hb, .inl hb⟩)
  (fun i bd' hi hu hb => by
   rcases hi with rfl | rfl | rfl
   ·exact absurd hu (Nat.lt_irrefl _)
   ·simp [updB, Ne.symm hin] at hb
   ·simpa [updB, Ne.symm hbn, Ne.symm hbi] using hb)
  (fun i bd' hi hb => by
   rcases hi with rfl | rfl | rfl
   ·simp only [updB, if_true, Option.some.injEq] at hb
    subst hb
    refine ⟨Nat.lt_succ_self _, fun b hbb => ?_⟩
    have hbb' : bd1.b = some b := by rw [← hnb]; exact hbb
    obtain ⟨r1, r2, r3⟩ := C.m.off _ _ _ hr1 hbb'
    exact ⟨r2, r1, .inr ⟨id, bd1, .inr (.inl rfl), hr1, hbb'⟩⟩
   ·simp [updB, Ne.symm hin] at hb
   ·have hb' : β i = some bd' := by simpa [updB, Ne.symm hbn, Ne.symm hbi] using hb
    refine ⟨Nat.lt_succ_of_lt (C.m.used _ _ hb'), fun b hbb => ?_⟩
    obtain ⟨p1, p2, p3⟩ := C.m.off _ _ _ hb' hbb
    exact ⟨p2, p1, .inr ⟨i, bd', .inr (.inr rfl), hb', hbb⟩⟩)
  (fun i j' bi bj b hi hj' hbi2 hbj h1 h2 => by
   have old : ∀ i' bd', i' = bid → (updB (updB β id none) s.n (some ⟨.slice va l vc, nbb, l, sz⟩)) i' = some bd' → β bid = some bd' := by
    intro i' bd' h hb; subst h; simpa [updB, Ne.symm hbn, Ne.symm hbi] using hb
   rcases hi with rfl | rfl | rfl <;> rcases hj' with rfl | rfl | rfl
   ·rfl
   ·simp [updB, Ne.symm hin] at hbj
   ·simp only [updB, if_true, Option.some.injEq] at hbi2; subst hbi2
    have := C.m.dis id j' bd1 bj b hr1 (old _ _ rfl hbj) (by rw [← hnb]; exact h1) h2
    exact absurd this.symm hbi
   ·simp [updB, Ne.symm hin] at hbi2
   ·rfl
   ·simp [updB, Ne.symm hin] at hbi2
   ·simp only [updB, if_true, Option.some.injEq] at hbj; subst hbj
    have := C.m.dis i id bi bd1 b (old _ _ rfl hbi2) hr1 h1 (by rw [← hnb]; exact h2)
    exact absurd this hbi
   ·simp [updB, Ne.symm hin] at hbj
   ·rfl)
  (fun E i hi hd => by
   rcases hi with rfl | rfl | rfl
   ·refine ⟨⟨.slice va l vc, nbb, l, sz⟩, by simp [updB], ?_⟩
    simp only [lookC, if_true, ChOk]
    refine ⟨trivial, by rw [List.length_take]; omega, fun cs' hcs => p3 cs' (List.mem_of_mem_take hcs), ?_⟩
    rcases hnc with ⟨h1, h2, h3⟩ | ⟨g, cur, h1, h2, h3, h4, h5, h6, h7⟩
    ·exact .inl ⟨h1, by rw [h2]; rfl, h3⟩
    ·refine .inr ⟨g, vc, cur, h1, ?_, h3, ?_, h5, h6, h7⟩
     ·rw [h2, List.length_take, Nat.min_eq_left hl]
     ·rw [List.length_take, Nat.min_eq_left hl]; exact h4
   ·simp [lookC, Ne.symm hin] at hd
   ·refine ⟨bd0, by simpa [updB, Ne.symm hbn, Ne.symm hbi] using hb1, ?_⟩
    have hb3 := ChOk.mono E (fun g _ => rfl) hb2
    rw [hc] at hb3
    simp only [lookC, if_true, Ne.symm hbn, Ne.symm hbi, if_false]
    obtain ⟨q1, q2, g, vs', q3', q4, q5', q6', q7⟩ := hb3
    have hg : g = g0 := by rw [q3] at q3'; exact (Option.some.inj q3').symm
    subst hg
    have hvs : vs' = vs := by rw [q5] at q5'; simpa using q5'.symm
    subst hvs
    refine ⟨by rw [List.length_set]; exact q1, q2, g, vs', q3', q4, q5', RelL.setAt j q6' (fun u hu2 => ?_), q7⟩
    rw [hu] at hu2
    obtain rfl := Option.some.inj hu2
    simp only [RelA]
    refine ⟨Nat.lt_succ_self _, rfl, fun bd hb => ?_⟩
    simp only [updB, if_true, Option.some.injEq] at hb
    subst hb; rfl)
 refine ⟨F, _, fun t' => RelA.mono E _ _ (C.t t'), M, C.nt, C.d, C.f, C.g, fun i bd' hi hb => ?_, Nat.le_succ_of_le C.k⟩
 have h1 : s.n ≠ i := by have := C.k; omega
 by_cases h2 : id = i
 ·subst h2; simp [updB, h1] at hb
 ·exact C.e i bd' hi (by simpa [updB, h1, h2] using hb)
end Go.Proofs.YthiddmncjafklaaGreat
namespace Go.Proofs.YthiddmncjafklaaGreat
set_option linter.all false
open Go.RowKit
set_option maxRecDepth 100000
set_option maxHeartbeats 1000000
def ordOf (c : List Int) : Ord := ⟨c.getD 0 default, c.getD 1 default, c.getD 2 default, ⟨c.getD 3 default, c.getD 4 default⟩, c.getD 5 default⟩
def ordsOf (ns : List Int) (k : Nat) : List Ord := (List.range k).map fun i => ordOf (partC ns 6 i)
theorem ordsOf_succ (ns : List Int) (k : Nat) : ordsOf ns (k + 1) = ordsOf ns k ++ [ordOf (partC ns 6 k)] := by unfold ordsOf; rw [List.range_succ, List.map_append]; rfl
theorem ordsOf_len (ns : List Int) (k : Nat) : (ordsOf ns k).length = k := by simp [ordsOf]
def readV (s : ByteArray) : List Ord × Int :=
 if (openR s).2 ≠ 0 then ([], (openR s).2)
 else if (gaR (openR s).1).2 ≠ 0 then ([], (gaR (openR s).1).2)
 else if (gaR (openR s).1).1.length % 6 ≠ 0 then ([], 4)
 else if ordsE (ordsOf (gaR (openR s).1).1 ((gaR (openR s).1).1.length / 6)) ≠ 0 then ([], ordsE (ordsOf (gaR (openR s).1).1 ((gaR (openR s).1).1.length / 6)))
 else (ordsOf (gaR (openR s).1).1 ((gaR (openR s).1).1.length / 6), 0)
theorem chunk_s (xs : List Int) (m : Nat) (hm : 1 ≤ m) : Spec Tryz.prog 75 [.c (.sl 1 (xs.map i64P)), I .i64 m] [] (.clo (.func 120) [] [.fel 1 [[.sl 1 (xs.map i64P)]] 0 0, .fel 1 [[.v (.int .i64 m)]] 0 0]) [] := by
 refine spec_am Tryz.func75 rfl rfl mix 9 rfl [.tmp 4] Tryz.results75 (Nat.le_of_ble_eq_true rfl) ?_
 (try (refine xst ?_; try exact xtI))
 refine cond_i (fun h1 => ?_) (fun h1 => ?_)
 ·(try replace h1 := xhh h1)
  omega
 ·(try replace h1 := xhh h1)
  (try (refine xst ?_; try exact xtI))
  exact xrz rfl
theorem six {c : List Int} (h : c.length = 6) : ∃ a0 a1 a2 a3 a4 a5, c = [a0, a1, a2, a3, a4, a5] := by
 match c, h with
 | [a0, a1, a2, a3, a4, a5], _ => exact ⟨a0, a1, a2, a3, a4, a5, rfl⟩
theorem read_s (s : ByteArray) (hs : s.size ≤ 140737488351232) : Spec Tryz.prog 47 [S s] [] (.tup [.c (.sl 6 ((readV s).1.map ordP)), I .i64 (readV s).2]) [] := by
 obtain ⟨r, hr⟩ : ∃ r, r = readV s := ⟨_, rfl⟩
 rw [← hr]
 have hsz := openR_size s
 have hO := copen_s s hs
 unfold readV at hr
 generalize openR s = o at *
 obtain ⟨t, eo⟩ := o
 have hG := getAll_s t (by simp at hsz; omega)
 have hgl := gaR_len t
 simp only at hr hO
 generalize gaR t = g at *
 obtain ⟨ns, eg⟩ := g
 simp only at hr hG hgl
 refine spec_am Tryz.func47 rfl rfl mix 61 rfl [.tmp 2, .tmp 3] Tryz.results47 (Nat.le_of_ble_eq_true rfl) ?_
 (try (refine xst ?_; try exact xtI))
 refine caP (hO) ?_
 (try (refine xst ?_; try exact xtI))
 refine cond_i (fun h1 => ?_) (fun h1 => ?_)
 ·(try replace h1 := xhh h1)
  rw [if_pos h1] at hr; subst hr
  (try (refine xst ?_; try exact xtI))
  exact xrz rfl
 ·(try replace h1 := xhh h1)
  rw [if_neg (fun hn => hn h1)] at hr
  (try (refine xst ?_; try exact xtI))
  refine caP (hG) ?_
  (try (refine xst ?_; try exact xtI))
  refine cond_i (fun h2 => ?_) (fun h2 => ?_)
  ·(try replace h2 := xhh h2)
   rw [if_pos h2] at hr; subst hr
   (try (refine xst ?_; try exact xtI))
   exact xrz rfl
  ·(try replace h2 := xhh h2)
   rw [if_neg (fun hn => hn h2)] at hr
   (try (refine xst ?_; try exact xtI))
   refine cond_i (fun h3 => ?_) (fun h3 => ?_)
   ·(try replace h3 := xhh h3)
    rw [if_pos (by omega)] at hr; subst hr
    (try (refine xst ?_; try exact xtI))
    exact xrz rfl
   ·(try replace h3 := xhh h3)
    rw [if_neg (by omega)] at hr
    have hq : ns.length = ns.length / 6 * 6 := by omega
    (try (refine xst ?_; try exact xtI))
    refine caP (chunk_s ns 6 (by decide)) ?_
    (try (refine xst ?_; try exact xtI))
    refine range_i (by kernel_rfl) rfl (chunk_iter ns 6 (ns.length / 6) (by decide) (by decide) hq (by omega)) [(6, .ptr 0 0 0)] 1 2 (fun pre => [(0, .blk 29 [.own 1]), (1, .row 96 6 ((pre.map ordOf).map ordP))]) ((To.nilC 0 0 96 6 29 _ rfl rfl).trans (To.mk [0, 1] rfl rfl (by decide) ?_ ?_)) (by decide) (by decide) (by decide) (fun pre => by exact noMp_list rfl) (by kernel_rfl) (by decide) (by decide) (fun pre x hpl hpr hx => ?_) ?_
    ·simp (etaStruct := .none) only [push_cast, DrawG, Int.cast_ofNat_Int, seval, List.set_cons_zero, List.map_nil]
    ·simp (etaStruct := .none) only [push_cast, DrawG, Int.cast_ofNat_Int, seval]
    ·skip
     obtain ⟨a0, a1, a2, a3, a4, a5, rfl⟩ := six hx
     simp only [List.length_map, List.length_range] at hpl
     (iterate 2 ((try simp (etaStruct := .none) only [push_cast, DrawG, Int.cast_ofNat_Int, seval, rgK_n, i64P, List.map_cons, List.map_nil]); (try (refine xsu ?_; try exact xtI))))
     (try (refine ⟨by kernel_rfl, ?_⟩))
     (iterate 2 ((try simp (etaStruct := .none) only [push_cast, DrawG, Int.cast_ofNat_Int, seval, rgK_n, i64P, List.map_cons, List.map_nil]); (try (refine xsu ?_; try exact xtI))))
     refine To.mk [0, 90] rfl rfl (by decide) ?_ ?_
     ·(iterate 2 ((try simp (etaStruct := .none) only [push_cast, DrawG, Int.cast_ofNat_Int, seval, rgK_n, List.map_append, List.map_cons, List.map_nil, ordP, ordOf, List.getD_cons_zero, List.getD_cons_succ]); (try (refine xsu ?_; try exact xtI))))
     ·(iterate 2 ((try simp (etaStruct := .none) only [push_cast, DrawG, Int.cast_ofNat_Int, seval, rgK_n, i64P, List.map_cons, List.map_nil]); (try (refine xsu ?_; try exact xtI))))
    simp only [show ((List.range (ns.length / 6)).map (partC ns 6)).map ordOf = ordsOf ns (ns.length / 6) from by unfold ordsOf; rw [List.map_map]; rfl]
    (try (refine xst ?_; try exact xtI))
    refine callB (oall_s (ordsOf ns (ns.length / 6)) (by rw [ordsOf_len]; omega)) (WkL.refl _) rfl ?_
    (try (refine xst ?_; try exact xtI))
    refine cond_i (fun h4 => ?_) (fun h4 => ?_)
    ·(try replace h4 := xhh h4)
     rw [if_pos h4] at hr; subst hr; clear hq
     (try (refine xst ?_; try exact xtI))
     exact xrz rfl
    ·(try replace h4 := xhh h4)
     rw [if_neg (fun hn => hn h4)] at hr; subst hr; clear hq
     (try (refine xst ?_; try exact xtI))
     exact xrz rfl
end Go.Proofs.YthiddmncjafklaaGreat
namespace Go.Proofs.YthiddmncjafklaaGreat
set_option linter.all false
open Go.RowKit
set_option maxRecDepth 100000
set_option maxHeartbeats 1000000
theorem partC_get (ns : List Int) (k j : Nat) (hj : j < 6) : (partC ns 6 k).getD j default = ns.getD (6 * k + j) default := by
 unfold partC
 rw [List.getD_eq_getElem?_getD, List.getD_eq_getElem?_getD, List.getElem?_take, if_pos hj, List.getElem?_drop, Nat.mul_comm k 6]
theorem ordOf_part (ns : List Int) (k : Nat) : ordOf (partC ns 6 k) = ⟨ns.getD (6 * k) default, ns.getD (6 * k + 1) default, ns.getD (6 * k + 2) default, ⟨ns.getD (6 * k + 3) default, ns.getD (6 * k + 4) default⟩, ns.getD (6 * k + 5) default⟩ := by
 unfold ordOf
 rw [partC_get ns k 0 (by decide), partC_get ns k 1 (by decide), partC_get ns k 2 (by decide), partC_get ns k 3 (by decide), partC_get ns k 4 (by decide), partC_get ns k 5 (by decide)]; rfl
theorem rtext_s (s : ByteArray) (hs : s.size ≤ 140737488351232) : Spec Tryz.prog 51 [S s] [] (.tup [.c (.sl 6 ((readV s).1.map ordP)), I .i64 (readV s).2]) [] := by
 obtain ⟨r, hr⟩ : ∃ r, r = readV s := ⟨_, rfl⟩
 rw [← hr]
 have hsz := openR_size s
 have hO := ropened_s s hs
 unfold readV at hr
 generalize openR s = o at *
 obtain ⟨t, eo⟩ := o
 have hG := runpacked_s t (by simp at hsz; omega)
 have hgl := gaR_len t
 simp only at hr hO
 generalize gaR t = g at *
 obtain ⟨ns, eg⟩ := g
 simp only at hr hG hgl
 refine spec_am Tryz.func51 rfl rfl mix 80 rfl [.tmp 2, .tmp 3] Tryz.results51 (Nat.le_of_ble_eq_true rfl) ?_
 (try (refine xst ?_; try exact xtI))
 refine caP (hO) ?_
 (try (refine xst ?_; try exact xtI))
 refine cond_i (fun h1 => ?_) (fun h1 => ?_)
 ·(try replace h1 := xhh h1)
  rw [if_pos h1] at hr; subst hr
  (try (refine xst ?_; try exact xtI))
  exact xrz rfl
 ·(try replace h1 := xhh h1)
  rw [if_neg (fun hn => hn h1)] at hr
  (try (refine xst ?_; try exact xtI))
  refine caP (hG) ?_
  (try (refine xst ?_; try exact xtI))
  refine cond_i (fun h2 => ?_) (fun h2 => ?_)
  ·(try replace h2 := xhh h2)
   rw [if_pos h2] at hr; subst hr
   (try (refine xst ?_; try exact xtI))
   exact xrz rfl
  ·(try replace h2 := xhh h2)
   rw [if_neg (fun hn => hn h2)] at hr
   (try (refine xst ?_; try exact xtI))
   refine cond_i (fun h3 => ?_) (fun h3 => ?_)
   ·(try replace h3 := xhh h3)
    rw [if_pos (by omega)] at hr; subst hr
    (try (refine xst ?_; try exact xtI))
    exact xrz rfl
   ·(try replace h3 := xhh h3)
    rw [if_neg (by omega)] at hr
    have hq : ns.length = ns.length / 6 * 6 := by omega
    (try (refine xst ?_; try exact xtI))
    refine loopI (fun i : Nat => ⟨[(7, I .i64 i), (6, .own 0), (5, .c (.sl 1 (ns.map i64P)))], [(0, .row 96 6 ((ordsOf ns (i / 6)).map ordP))], 1⟩) (fun i : Nat => i ≤ ns.length ∧ i % 6 = 0) (fun i : Nat => ns.length - i) (0) (⟨Nat.zero_le _, rfl⟩) ((To.nil 6 96 6 rfl).trans (To.mk [0] rfl rfl (by decide) ?_ ?_)) ?_
    ·simp (etaStruct := .none) only [push_cast, DrawG, Int.cast_ofNat_Int, seval, ordsOf, Nat.zero_div, List.range_zero, List.map_nil]
    ·simp (etaStruct := .none) only [push_cast, DrawG, Int.cast_ofNat_Int, seval]
    rintro i ⟨hk, hn⟩
    (try (refine xst ?_; try exact xtI))
    refine cond_i (fun h4 => ?_) (fun h4 => ?_)
    ·(try replace h4 := xhh h4)
     have hlt : i + 5 < ns.length := by omega
     obtain ⟨j, hj⟩ : ∃ j, j = i + 6 := ⟨_, rfl⟩
     have hjc : (i : Int) + 6 = (j : Int) := by omega
     have hS : ordsOf ns (j / 6) = ordsOf ns (i / 6) ++ [⟨ns.getD i default, ns.getD (i + 1) default, ns.getD (i + 2) default, ⟨ns.getD (i + 3) default, ns.getD (i + 4) default⟩, ns.getD (i + 5) default⟩] := by
      rw [show j / 6 = i / 6 + 1 by omega, ordsOf_succ, ordOf_part, show 6 * (i / 6) = i by omega]
     have hSl := ordsOf_len ns (i / 6)
     have w1 : IntKind.i64.wrap ((i : Int) + 1) = (i : Int) + 1 := wrap_in _ (by omega) (by omega)
     have t1 : ((i : Int) + 1).toNat = i + 1 := by omega
     have w2 : IntKind.i64.wrap ((i : Int) + 2) = (i : Int) + 2 := wrap_in _ (by omega) (by omega)
     have t2 : ((i : Int) + 2).toNat = i + 2 := by omega
     have w3 : IntKind.i64.wrap ((i : Int) + 3) = (i : Int) + 3 := wrap_in _ (by omega) (by omega)
     have t3 : ((i : Int) + 3).toNat = i + 3 := by omega
     have w4 : IntKind.i64.wrap ((i : Int) + 4) = (i : Int) + 4 := wrap_in _ (by omega) (by omega)
     have t4 : ((i : Int) + 4).toNat = i + 4 := by omega
     have w5 : IntKind.i64.wrap ((i : Int) + 5) = (i : Int) + 5 := wrap_in _ (by omega) (by omega)
     have t5 : ((i : Int) + 5).toNat = i + 5 := by omega
     have w6 : IntKind.i64.wrap ((i : Int) + 6) = (i : Int) + 6 := wrap_in _ (by omega) (by omega)
     have t6 : ((i : Int) + 6).toNat = i + 6 := by omega
     have g0 : i < ns.length := by omega
     have g1 : i + 1 < ns.length := by omega
     have g2 : i + 2 < ns.length := by omega
     have g3 : i + 3 < ns.length := by omega
     have g4 : i + 4 < ns.length := by omega
     (iterate 2 ((try simp (etaStruct := .none) only [push_cast, DrawG, Int.cast_ofNat_Int, seval, w1, w2, w3, w4, w5, w6, t1, t2, t3, t4, t5, Int.toNat_natCast, getD_in _ _ _ g0, getD_in _ _ _ g1, getD_in _ _ _ g2, getD_in _ _ _ g3, getD_in _ _ _ g4, getD_in _ _ _ hlt, i64P]); (try (refine xsu ?_; try exact xtI))))
     (try (refine ⟨by kernel_rfl, ?_⟩))
     (iterate 2 ((try simp (etaStruct := .none) only [push_cast, DrawG, Int.cast_ofNat_Int, seval, w1, w2, w3, w4, w5, w6, t1, t2, t3, t4, t5, Int.toNat_natCast, getD_in _ _ _ g0, getD_in _ _ _ g1, getD_in _ _ _ g2, getD_in _ _ _ g3, getD_in _ _ _ g4, getD_in _ _ _ hlt, i64P]); (try (refine xsu ?_; try exact xtI))))
     (try (refine ⟨by kernel_rfl, ?_⟩))
     (iterate 2 ((try simp (etaStruct := .none) only [push_cast, DrawG, Int.cast_ofNat_Int, seval, w1, w2, w3, w4, w5, w6, t1, t2, t3, t4, t5, Int.toNat_natCast, getD_in _ _ _ g0, getD_in _ _ _ g1, getD_in _ _ _ g2, getD_in _ _ _ g3, getD_in _ _ _ g4, getD_in _ _ _ hlt, i64P]); (try (refine xsu ?_; try exact xtI))))
     clear w1 w2 w3 w4 w5 t1 t2 t3 t4 t5 t6
     refine ⟨j, ⟨by omega, by omega⟩, by omega, To.mk [154] rfl rfl (by decide) ?_ ?_⟩
     ·(iterate 2 ((try simp (etaStruct := .none) only [push_cast, DrawG, Int.cast_ofNat_Int, seval, hS, List.map_append, List.map_cons, List.map_nil, ordP]); (try (refine xsu ?_; try exact xtI))))
     ·(iterate 2 ((try simp (etaStruct := .none) only [push_cast, DrawG, Int.cast_ofNat_Int, seval, w6, hjc]); (try (refine xsu ?_; try exact xtI))))
    ·(try replace h4 := xhh h4)
     obtain rfl : i = ns.length := by omega
     (try (refine xst ?_; try exact xtI))
     refine callB (orights_s (ordsOf ns (ns.length / 6)) (by rw [ordsOf_len]; omega)) (WkL.refl _) rfl ?_
     (try (refine xst ?_; try exact xtI))
     refine cond_i (fun h5 => ?_) (fun h5 => ?_)
     ·(try replace h5 := xhh h5)
      rw [if_pos h5] at hr; subst hr; clear hq
      (try (refine xst ?_; try exact xtI))
      exact xrz rfl
     ·(try replace h5 := xhh h5)
      rw [if_neg (fun hn => hn h5)] at hr; subst hr; clear hq
      (try (refine xst ?_; try exact xtI))
      exact xrz rfl
end Go.Proofs.YthiddmncjafklaaGreat
namespace Go.Proofs.YthiddmncjafklaaGreat
set_option linter.all false
open Go.RowKit
section
variable {α : Type} [Inhabited α] (key : α → Int)
def swapL (l : List α) (i j : Nat) : List α := (l.set i (l.getD j default)).set j (l.getD i default)
theorem swapL_len (l : List α) (i j : Nat) : (swapL l i j).length = l.length := by simp [swapL]
theorem swapL_getD (l : List α) {i j k : Nat} (hi : i < l.length) (hj : j < l.length) (hk : k < l.length) : (swapL l i j).getD k default = if k = j then l.getD i default else if k = i then l.getD j default else l.getD k default := by
 unfold swapL
 rw [getD_at _ _ (by simpa using hk), List.getElem_set, List.getElem_set]
 by_cases h1 : j = k
 ·rw [if_pos h1, if_pos h1.symm]
 ·rw [if_neg h1, if_neg (Ne.symm h1)]
  by_cases h2 : i = k
  ·rw [if_pos h2, if_pos h2.symm]
  ·rw [if_neg h2, if_neg (Ne.symm h2), getD_at _ _ hk]
theorem mem_getD {l : List α} {x : α} : x ∈ l ↔ ∃ k, k < l.length ∧ l.getD k default = x := by
 constructor
 ·intro h
  obtain ⟨k, hk, e⟩ := List.getElem_of_mem h
  exact ⟨k, hk, by rw [getD_at _ _ hk]; exact e⟩
 ·rintro ⟨k, hk, rfl⟩
  exact getD_mem l k hk
theorem swapL_mem (l : List α) {i j : Nat} (hi : i < l.length) (hj : j < l.length) (x : α) : x ∈ swapL l i j ↔ x ∈ l := by
 rw [mem_getD, mem_getD, swapL_len]
 constructor
 ·rintro ⟨k, hk, e⟩
  rw [swapL_getD l hi hj hk] at e
  split at e
  ·exact ⟨i, hi, e⟩
  ·split at e
   ·exact ⟨j, hj, e⟩
   ·exact ⟨k, hk, e⟩
 ·rintro ⟨k, hk, e⟩
  by_cases h1 : k = i
  ·subst h1
   refine ⟨j, hj, ?_⟩
   rw [swapL_getD l hi hj hj, if_pos rfl]; exact e
  ·by_cases h2 : k = j
   ·subst h2
    refine ⟨i, hi, ?_⟩
    rw [swapL_getD l hi hj hi]
    by_cases h3 : i = k
    ·exact absurd h3.symm h1
    ·rw [if_neg h3, if_pos rfl]; exact e
   ·exact ⟨k, hk, by rw [swapL_getD l hi hj hk, if_neg h2, if_neg h1]; exact e⟩
def par (k : Nat) : Nat := (k - 1) / 2
theorem par_tdiv (j : Nat) : ((j : Int) - 1).tdiv 2 = ((par j : Nat) : Int) := by
 cases j with
 | zero => rfl
 | succ k =>
  rw [show ((k + 1 : Nat) : Int) - 1 = (k : Int) from by omega, Int.tdiv_eq_ediv_of_nonneg (by omega)]
  simp [par]
def HeapN (l : List α) (n : Nat) : Prop := ∀ k, 0 < k → k < n → key (l.getD (par k) default) ≤ key (l.getD k default)
def hup (l : List α) (j : Nat) : List α := if par j = j ∨ ¬ key (l.getD j default) < key (l.getD (par j) default) then l else hup (swapL l (par j) j) (par j)
termination_by j
decreasing_by simp only [par, not_or] at *; omega
theorem hup_len (l : List α) (j : Nat) : (hup key l j).length = l.length := by
 induction j using Nat.strongRecOn generalizing l with
 | _ j ih =>
  rw [hup]
  split
  ·rfl
  ·rename_i h
   rw [ih (par j) (by simp only [par, not_or] at *; omega), swapL_len]
theorem hup_mem (l : List α) (j : Nat) (hj : j < l.length) (x : α) : x ∈ hup key l j ↔ x ∈ l := by
 induction j using Nat.strongRecOn generalizing l with
 | _ j ih =>
  rw [hup]
  split
  ·rfl
  ·rename_i h
   have : par j < j := by simp only [par, not_or] at *; omega
   rw [ih (par j) this _ (by rw [swapL_len]; omega), swapL_mem _ (by omega) hj]
theorem hup_heap (l : List α) (j : Nat) (hj : j < l.length) (h1 : ∀ k, 0 < k → k < l.length → k ≠ j → key (l.getD (par k) default) ≤ key (l.getD k default))
 (h2 : 0 < j → ∀ k, 0 < k → k < l.length → par k = j → key (l.getD (par j) default) ≤ key (l.getD k default)) : HeapN key (hup key l j) l.length := by
 induction j using Nat.strongRecOn generalizing l with
 | _ j ih =>
  rw [hup]
  split
  ·rename_i h
   intro k hk hkl
   by_cases e : k = j
   ·subst e
    rcases h with h | h
    ·simp only [par] at h; omega
    ·omega
   ·exact h1 k hk hkl e
  ·rename_i h
   rw [not_or, Decidable.not_not] at h
   obtain ⟨e1, e2⟩ := h
   have lt : par j < j := by simp only [par] at *; omega
   have hi : par j < l.length := by omega
   have G : ∀ k, k < l.length → (swapL l (par j) j).getD k default = if k = j then l.getD (par j) default else if k = par j then l.getD j default else l.getD k default := fun k hk => swapL_getD l hi hj hk
   have := ih (par j) lt (swapL l (par j) j) (by rw [swapL_len]; exact hi) (fun k hk hkl hne => by
    rw [swapL_len] at hkl
    rw [G k hkl, G (par k) (by simp only [par] at *; omega)]
    by_cases a : k = j
    ·subst a
     rw [if_neg (by omega), if_pos rfl, if_pos rfl]; omega
    ·rw [if_neg a, if_neg hne]
     by_cases b : par k = j
     ·rw [if_pos b]
      exact h2 (by omega) k hk hkl b
     ·rw [if_neg b]
      by_cases c : par k = par j
      ·rw [if_pos c]
       have := h1 k hk hkl a
       rw [c] at this; omega
      ·rw [if_neg c]; exact h1 k hk hkl a) (fun hp k hk hkl hpk => by
    rw [swapL_len] at hkl
    have q1 : par (par j) < par j := by simp only [par] at *; omega
    have q2 := h1 (par j) hp hi (by omega)
    rw [G k hkl, G _ (by omega), if_neg (by omega), if_neg (by omega)]
    by_cases a : k = j
    ·rw [if_pos a]; exact q2
    ·have : k ≠ par j := by intro e; rw [e] at hpk; omega
     rw [if_neg a, if_neg this]
     have := h1 k hk hkl a
     rw [hpk] at this; omega)
   rwa [swapL_len] at this
def kid (l : List α) (i n : Nat) : Nat := if 2 * i + 2 < n ∧ key (l.getD (2 * i + 2) default) < key (l.getD (2 * i + 1) default) then 2 * i + 2 else 2 * i + 1
theorem kid_gt (l : List α) (i n : Nat) : i < kid key l i n := by unfold kid; split <;> omega
theorem kid_lt (l : List α) (i n : Nat) (h : 2 * i + 1 < n) : kid key l i n < n := by unfold kid; split <;> omega
def hdn (l : List α) (i n : Nat) : List α := if n ≤ 2 * i + 1 ∨ ¬ key (l.getD (kid key l i n) default) < key (l.getD i default) then l else hdn (swapL l i (kid key l i n)) (kid key l i n) n
termination_by n - i
decreasing_by
 rename_i h
 have h1 := kid_gt key l i n
 rw [not_or] at h
 omega
theorem hdn_len (l : List α) (i n : Nat) : (hdn key l i n).length = l.length := by
 induction hm : n - i using Nat.strongRecOn generalizing l i with
 | _ m ih =>
  rw [hdn]
  split
  ·rfl
  ·rename_i h
   have h1 := kid_gt key l i n
   rw [ih _ (by omega) _ _ rfl, swapL_len]
theorem hdn_mem (l : List α) (i n : Nat) (hn : n ≤ l.length) (x : α) : x ∈ hdn key l i n ↔ x ∈ l := by
 induction hm : n - i using Nat.strongRecOn generalizing l i with
 | _ m ih =>
  rw [hdn]
  split
  ·rfl
  ·rename_i h
   have h1 := kid_gt key l i n
   have h2 := kid_lt key l i n (by omega)
   rw [ih _ (by omega) _ _ (by rw [swapL_len]; exact hn) rfl, swapL_mem _ (by omega) (by omega)]
theorem hdn_out (l : List α) (i n k : Nat) (hn : n ≤ l.length) (hk : n ≤ k) (hkl : k < l.length) : (hdn key l i n).getD k default = l.getD k default := by
 induction hm : n - i using Nat.strongRecOn generalizing l i with
 | _ m ih =>
  rw [hdn]
  split
  ·rfl
  ·rename_i h
   have h1 := kid_gt key l i n
   have h2 := kid_lt key l i n (by omega)
   rw [ih _ (by omega) _ _ (by rw [swapL_len]; exact hn) (by rw [swapL_len]; exact hkl) rfl, swapL_getD _ (by omega) (by omega) hkl, if_neg (by omega), if_neg (by omega)]
theorem hdn_heap (l : List α) (i n : Nat) (hn : n ≤ l.length) (h1 : ∀ k, 0 < k → k < n → par k ≠ i → key (l.getD (par k) default) ≤ key (l.getD k default))
 (h2 : 0 < i → ∀ k, 0 < k → k < n → par k = i → key (l.getD (par i) default) ≤ key (l.getD k default)) : HeapN key (hdn key l i n) n := by
 induction hm : n - i using Nat.strongRecOn generalizing l i with
 | _ m ih =>
  have kd : ∀ k, 0 < k → k < n → par k = i → key (l.getD (kid key l i n) default) ≤ key (l.getD k default) := by
   intro k hk hkn hp
   have : k = 2 * i + 1 ∨ k = 2 * i + 2 := by simp only [par] at hp; omega
   unfold kid
   rcases this with e | e
   ·subst e
    split
    ·rename_i h; omega
    ·exact Int.le_refl _
   ·subst e
    split
    ·exact Int.le_refl _
    ·rename_i h
     by_cases h3 : key (l.getD (2 * i + 2) default) < key (l.getD (2 * i + 1) default)
     ·exact absurd ⟨hkn, h3⟩ h
     ·omega
  rw [hdn]
  split
  ·rename_i h
   intro k hk hkn
   by_cases e : par k = i
   ·rcases h with h | h
    ·simp only [par] at e; omega
    ·have := kd k hk hkn e
     rw [e]; omega
   ·exact h1 k hk hkn e
  ·rename_i h
   rw [not_or, Decidable.not_not] at h
   have g1 := kid_gt key l i n
   have g2 := kid_lt key l i n (by omega)
   have gp : par (kid key l i n) = i := by unfold kid; simp only [par]; split <;> omega
   generalize kid key l i n = j at *
   have G : ∀ k, k < l.length → (swapL l i j).getD k default = if k = j then l.getD i default else if k = i then l.getD j default else l.getD k default := fun k hk => swapL_getD l (by omega) (by omega) hk
   refine ih (n - j) (by omega) (swapL l i j) j (by rw [swapL_len]; exact hn) (fun k hk hkn hpk => ?_) (fun hj k hk hkn hpk => ?_) rfl
   ·have hp : par k < k := by simp only [par] at *; omega
    rw [G k (by omega), G (par k) (by omega)]
    by_cases a : k = j
    ·subst a
     rw [if_pos rfl, if_neg (by omega), if_pos gp]; omega
    ·rw [if_neg a, if_neg hpk]
     by_cases b : k = i
     ·subst b
      rw [if_pos rfl, if_neg (by omega)]
      have := h2 hk j (by omega) (by omega) gp
      exact this
     ·rw [if_neg b]
      by_cases c : par k = i
      ·rw [if_pos c]; exact kd k hk hkn c
      ·rw [if_neg c]; exact h1 k hk hkn c
   ·have hp : par k < k := by simp only [par] at *; omega
    rw [G k (by omega), if_neg (by omega), if_neg (by omega), gp, G i (by omega), if_neg (by omega), if_pos rfl]
    have := h1 k hk hkn (by omega)
    rw [hpk] at this; exact this
theorem heap_min {l : List α} {n : Nat} (h : HeapN key l n) : ∀ k, k < n → key (l.getD 0 default) ≤ key (l.getD k default) := by
 intro k
 induction k using Nat.strongRecOn with
 | _ k ih =>
  intro hk
  rcases Nat.eq_zero_or_pos k with e | e
  ·subst e; exact Int.le_refl _
  ·have := ih (par k) (by simp only [par]; omega) (by simp only [par]; omega)
   have := h k e hk
   omega
def hpush (l : List α) (x : α) : List α := hup key (l ++ [x]) l.length
def hpop (l : List α) : List α := (hdn key (swapL l 0 (l.length - 1)) 0 (l.length - 1)).take (l.length - 1)
theorem getD_snoc (l : List α) (x : α) (k : Nat) (h : k < l.length) : (l ++ [x]).getD k default = l.getD k default := by
 rw [getD_at _ _ (by simp; omega), getD_at _ _ h, List.getElem_append_left h]
theorem hpush_len (l : List α) (x : α) : (hpush key l x).length = l.length + 1 := by unfold hpush; rw [hup_len]; simp
theorem hpush_mem (l : List α) (x y : α) : y ∈ hpush key l x ↔ y ∈ l ∨ y = x := by
 unfold hpush
 rw [hup_mem _ _ _ (by simp)]; simp
theorem hpush_heap (l : List α) (x : α) (h : HeapN key l l.length) : HeapN key (hpush key l x) (hpush key l x).length := by
 rw [hpush_len]
 have := hup_heap key (l ++ [x]) l.length (by simp) (fun k hk hkl hne => by
  simp only [List.length_append, List.length_cons, List.length_nil] at hkl
  have : par k < k := by simp only [par] at *; omega
  rw [getD_snoc _ _ _ (by omega), getD_snoc _ _ _ (by omega)]; exact h k hk (by omega)) (fun _ k hk hkl hp => by
  simp only [List.length_append, List.length_cons, List.length_nil, par] at *; omega)
 simpa [hpush] using this
theorem take_getD (l : List α) (n k : Nat) (h : k < n) : (l.take n).getD k default = l.getD k default := by
 simp only [List.getD_eq_getElem?_getD, List.getElem?_take, if_pos h]
theorem hpop_len (l : List α) : (hpop key l).length = l.length - 1 := by unfold hpop; rw [List.length_take, hdn_len, swapL_len]; omega
theorem hpop_heap (l : List α) (hl : 0 < l.length) (h : HeapN key l l.length) : HeapN key (hpop key l) (hpop key l).length := by
 rw [hpop_len]
 have := hdn_heap key (swapL l 0 (l.length - 1)) 0 (l.length - 1) (by rw [swapL_len]; omega) (fun k hk hkn hp => by
  have q : par k < k := by simp only [par] at *; omega
  rw [swapL_getD _ (by omega) (by omega) (by omega), swapL_getD _ (by omega) (by omega) (by omega), if_neg (by omega), if_neg (by omega), if_neg (by omega), if_neg (by omega)]
  exact h k hk (by omega)) (fun h0 => absurd h0 (Nat.lt_irrefl _))
 intro k hk hkn
 unfold hpop
 rw [take_getD _ _ _ hkn, take_getD _ _ _ (by simp only [par] at *; omega)]
 exact this k hk hkn
theorem hpop_last (l : List α) (hl : 0 < l.length) : (hdn key (swapL l 0 (l.length - 1)) 0 (l.length - 1)).getD (l.length - 1) default = l.getD 0 default := by
 rw [hdn_out _ _ _ _ _ (by rw [swapL_len]; omega) (Nat.le_refl _) (by rw [swapL_len]; omega), swapL_getD _ hl (by omega) (by omega), if_pos rfl]
theorem hpop_mem (l : List α) (hl : 0 < l.length) (x : α) : x ∈ l ↔ x = l.getD 0 default ∨ x ∈ hpop key l := by
 have e : hdn key (swapL l 0 (l.length - 1)) 0 (l.length - 1) = hpop key l ++ [l.getD 0 default] := by
  have h1 := hpop_last key l hl
  have h2 : (hdn key (swapL l 0 (l.length - 1)) 0 (l.length - 1)).length = l.length - 1 + 1 := by rw [hdn_len, swapL_len]; omega
  unfold hpop
  rw [← h1, ← take_snoc _ _ (by omega), List.take_of_length_le (by omega)]
 rw [← swapL_mem l hl (show l.length - 1 < l.length by omega), ← hdn_mem key _ 0 (l.length - 1) (by rw [swapL_len]; omega), e]
 simp [or_comm]
end
end Go.Proofs.YthiddmncjafklaaGreat
namespace Go.Proofs.YthiddmncjafklaaGreat
set_option linter.all false
open Go.RowKit
def Adj (W p n : Nat) : Prop := n + W = p ∨ (n + 1 = p ∧ 0 < p % W) ∨ (p + 1 = n ∧ 0 < n % W) ∨ p + W = n
theorem Adj.symm {W p n : Nat} (h : Adj W p n) : Adj W n p := by
 rcases h with h | ⟨h, h'⟩ | ⟨h, h'⟩ | h
 ·exact .inr (.inr (.inr h))
 ·exact .inr (.inr (.inl ⟨h, h'⟩))
 ·exact .inr (.inl ⟨h, h'⟩)
 ·exact .inl h
theorem Adj.ne {W p n : Nat} (hW : 0 < W) (h : Adj W p n) : p ≠ n := by
 rcases h with h | ⟨h, h'⟩ | ⟨h, h'⟩ | h <;> omega
def besideN (W H p : Nat) : List Nat := (if 0 < p / W then [p - W] else []) ++ (if 0 < p % W then [p - 1] else []) ++ (if p % W + 1 < W then [p + 1] else []) ++ (if p / W + 1 < H then [p + W] else [])
theorem besideN_len (W H p : Nat) : (besideN W H p).length ≤ 4 := by
 unfold besideN
 simp only [List.length_append]
 split <;> split <;> split <;> split <;> simp
theorem succ_mod {W : Nat} (hW : 0 < W) (p : Nat) : (p + 1) % W = if p % W + 1 = W then 0 else p % W + 1 := by
 have h1 := Nat.div_add_mod p W
 have h2 := Nat.mod_lt p hW
 have e : p + 1 = W * (p / W) + (p % W + 1) := by omega
 rw [e, Nat.mul_add_mod]
 split
 ·rename_i h; rw [h, Nat.mod_self]
 ·rename_i h; exact Nat.mod_eq_of_lt (by omega)
theorem mem_beside {W H p n : Nat} (hW : 0 < W) (hp : p < W * H) : n ∈ besideN W H p ↔ n < W * H ∧ Adj W p n := by
 have h1 := Nat.div_add_mod p W
 have h2 := Nat.mod_lt p hW
 have h3 : p / W < H := by rw [Nat.div_lt_iff_lt_mul hW, Nat.mul_comm]; exact hp
 have h4 : 0 < p / W ↔ W ≤ p := by rw [Nat.div_pos_iff]; exact ⟨fun h => h.2, fun h => ⟨hW, h⟩⟩
 have h5 : p / W + 1 < H ↔ p + W < W * H := by
  have : (p + W) / W = p / W + 1 := Nat.add_div_right p hW
  rw [← this, Nat.div_lt_iff_lt_mul hW, Nat.mul_comm]
 have h6 := succ_mod hW p
 have h7 : p % W + 1 < W → p + 1 < W * H := by
  intro h
  have : W * (p / W) + W ≤ W * H := by rw [← Nat.mul_succ]; exact Nat.mul_le_mul_left _ h3
  omega
 unfold besideN Adj
 simp only [List.mem_append]
 constructor
 ·rintro (((h | h) | h) | h)
  ·split at h
   ·rename_i g
    simp only [List.mem_singleton] at h
    have := h4.1 g
    exact ⟨by omega, .inl (by omega)⟩
   ·simp at h
  ·split at h
   ·rename_i g
    simp only [List.mem_singleton] at h
    have : 0 < p := Nat.pos_of_ne_zero fun e => by rw [e] at g; simp at g
    exact ⟨by omega, .inr (.inl ⟨by omega, g⟩)⟩
   ·simp at h
  ·split at h
   ·rename_i g
    simp only [List.mem_singleton] at h
    rw [if_neg (by omega)] at h6
    have := h7 g
    exact ⟨by omega, .inr (.inr (.inl ⟨by omega, by rw [h, h6]; omega⟩))⟩
   ·simp at h
  ·split at h
   ·rename_i g
    simp only [List.mem_singleton] at h
    have := h5.1 g
    exact ⟨by omega, .inr (.inr (.inr (by omega)))⟩
   ·simp at h
 ·rintro ⟨hn, h | ⟨h, h'⟩ | ⟨h, h'⟩ | h⟩
  ·refine .inl (.inl (.inl ?_))
   rw [if_pos (h4.2 (by omega))]; simp; omega
  ·refine .inl (.inl (.inr ?_))
   rw [if_pos h']; simp; omega
  ·refine .inl (.inr ?_)
   rw [if_pos]
   ·simp; omega
   ·rw [← h, h6] at h'
    split at h'
    ·omega
    ·omega
  ·refine .inr ?_
   rw [if_pos (h5.2 (by omega))]; simp; omega
def kV (q : Int) : Int := if q = 2 then 3 else 2
theorem kV_b (q : Int) : 2 ≤ kV q ∧ kV q ≤ 3 := by unfold kV; split <;> omega
theorem set_get {l : List Int} {i : Nat} (v : Int) (p : Nat) (hi : i < l.length) : (l.set i v).getD p default = if p = i then v else l.getD p default := by
 by_cases h : p = i
 ·subst h; rw [if_pos rfl, getD_at _ _ (by simpa using hi)]; simp
 ·rw [if_neg h]
  simp only [List.getD_eq_getElem?_getD, List.getElem?_set, if_neg (Ne.symm h)]
structure Flood (W : Nat) (pl : List Int) (s : List Nat) (far : List Int) : Prop where
 len : far.length = pl.length
 low : ∀ p, p < pl.length → -1 ≤ far.getD p default
 src : ∀ p ∈ s, far.getD p default = 0
 why : ∀ p, p < pl.length → 0 ≤ far.getD p default → (p ∈ s ∧ far.getD p default = 0) ∨ ∃ n, n < pl.length ∧ Adj W p n ∧ pl.getD p default ≠ 1 ∧ 0 ≤ far.getD n default ∧ far.getD n default + kV (pl.getD p default) ≤ far.getD p default
 all : ∀ p n, p < pl.length → n < pl.length → Adj W p n → 0 ≤ far.getD p default → pl.getD n default ≠ 1 → 0 ≤ far.getD n default ∧ far.getD n default ≤ far.getD p default + kV (pl.getD n default)
theorem Flood.le {W : Nat} {pl : List Int} {s : List Nat} {f g : List Int} (hf : Flood W pl s f) (hg : Flood W pl s g) : ∀ (N p : Nat), p < pl.length → 0 ≤ f.getD p default → f.getD p default ≤ N → 0 ≤ g.getD p default ∧ g.getD p default ≤ f.getD p default := by
 intro N
 induction N using Nat.strongRecOn with
 | _ N ih =>
  intro p hp h0 hN
  rcases hf.why p hp h0 with ⟨h1, h2⟩ | ⟨n, hn, ha, hr, h3, h4⟩
  ·rw [hg.src p h1]; omega
  ·have hk := kV_b (pl.getD p default)
   obtain ⟨k, hk2⟩ := Int.eq_ofNat_of_zero_le h3
   have := ih k (by omega) n hn h3 (by omega)
   have := hg.all n p hn hp ha.symm this.1 hr
   omega
theorem Flood.uniq {W : Nat} {pl : List Int} {s : List Nat} {f g : List Int} (hf : Flood W pl s f) (hg : Flood W pl s g) : f = g := by
 refine List.ext_getElem (hf.len.trans hg.len.symm) fun p h1 h2 => ?_
 rw [← getD_at f p h1, ← getD_at g p h2]
 have hp : p < pl.length := by rw [← hf.len]; exact h1
 have l1 := hf.low p hp
 have l2 := hg.low p hp
 by_cases h : 0 ≤ f.getD p default
 ·obtain ⟨k, hk⟩ := Int.eq_ofNat_of_zero_le h
  have a := hf.le hg k p hp h (by omega)
  obtain ⟨k', hk'⟩ := Int.eq_ofNat_of_zero_le a.1
  have b := hg.le hf k' p hp a.1 (by omega)
  omega
 ·by_cases h' : 0 ≤ g.getD p default
  ·obtain ⟨k', hk'⟩ := Int.eq_ofNat_of_zero_le h'
   have b := hg.le hf k' p hp h' (by omega)
   omega
  ·omega
def sumL (g : Int → Nat) (l : List Int) : Nat := (l.map g).sum
theorem sumL_set (g : Int → Nat) : ∀ (l : List Int) (i : Nat) (v : Int), i < l.length → sumL g (l.set i v) + g (l.getD i default) = sumL g l + g v
 | [], i, v, h => by simp at h
 | a :: r, 0, v, _ => by simp [sumL]; omega
 | a :: r, i + 1, v, h => by
  have := sumL_set g r i v (by simpa using h)
  simp only [sumL, List.set_cons_succ, List.map_cons, List.sum_cons, List.getD_cons_succ] at this ⊢
  omega
theorem sumL_le (g : Int → Nat) (b : Nat) (hg : ∀ x, g x ≤ b) : ∀ l : List Int, sumL g l ≤ b * l.length
 | [] => by simp [sumL]
 | a :: r => by
  have := sumL_le g b hg r
  have := hg a
  simp only [sumL, List.map_cons, List.sum_cons, List.length_cons, Nat.mul_add] at *
  omega
def one0 (x : Int) : Nat := if 0 ≤ x then 1 else 0
def big0 (x : Int) : Nat := if 0 ≤ x then x.toNat else 5000
theorem one0_le (x : Int) : one0 x ≤ 1 := by unfold one0; split <;> omega
theorem getD_rep (n p : Nat) (h : p < n) : (List.replicate n (-1 : Int)).getD p default = -1 := by rw [getD_at _ _ (by simpa using h)]; simp
structure Itm where
 place : Int
 far : Int
 deriving DecidableEq, Inhabited
structure Dj (W : Nat) (pl : List Int) (s : List Nat) (far : List Int) (q : List Itm) (done : Nat → Nat → Prop) : Prop where
 len : far.length = pl.length
 low : ∀ p, p < pl.length → -1 ≤ far.getD p default
 heap : HeapN Itm.far q q.length
 itm : ∀ x ∈ q, ∃ p : Nat, x.place = (p : Int) ∧ p < pl.length ∧ 0 ≤ x.far ∧ x.far ≤ 3 * sumL one0 far ∧ (∀ m, m < pl.length → far.getD m default ≤ x.far) ∧ ((p ∈ s ∧ x.far = 0) ∨ ∃ n, n < pl.length ∧ Adj W p n ∧ pl.getD p default ≠ 1 ∧ 0 ≤ far.getD n default ∧ x.far = far.getD n default + kV (pl.getD p default))
 src : ∀ p ∈ s, far.getD p default = 0 ∨ (far.getD p default < 0 ∧ ∃ x ∈ q, x.place = (p : Int) ∧ x.far = 0)
 why : ∀ p, p < pl.length → 0 ≤ far.getD p default → (p ∈ s ∧ far.getD p default = 0) ∨ ∃ n, n < pl.length ∧ Adj W p n ∧ pl.getD p default ≠ 1 ∧ 0 ≤ far.getD n default ∧ far.getD n default + kV (pl.getD p default) ≤ far.getD p default
 all : ∀ p n, p < pl.length → n < pl.length → Adj W p n → done p n → 0 ≤ far.getD p default → pl.getD n default ≠ 1 →
  (0 ≤ far.getD n default ∧ far.getD n default ≤ far.getD p default + kV (pl.getD n default)) ∨ (far.getD n default < 0 ∧ ∃ x ∈ q, x.place = (n : Int) ∧ x.far ≤ far.getD p default + kV (pl.getD n default))
section
variable {W : Nat} {pl : List Int} {s : List Nat} {far : List Int} {q : List Itm} {done : Nat → Nat → Prop}
theorem Dj.flood (h : Dj W pl s far [] fun _ _ => True) : Flood W pl s far := by
 refine ⟨h.len, h.low, fun p hp => ?_, h.why, fun p n hp hn ha h0 hr => ?_⟩
 ·rcases h.src p hp with h | ⟨_, x, hx, _⟩
  ·exact h
  ·simp at hx
 ·rcases h.all p n hp hn ha trivial h0 hr with h | ⟨_, x, hx, _⟩
  ·exact h
  ·simp at hx
theorem Dj.skip (h : Dj W pl s far q done) (hq : 0 < q.length) {p : Nat} (hp : (q.getD 0 default).place = (p : Int)) (h0 : 0 ≤ far.getD p default) : Dj W pl s far (hpop Itm.far q) done := by
 have M := hpop_mem Itm.far q hq
 refine ⟨h.len, h.low, hpop_heap _ _ hq h.heap, fun x hx => h.itm x ((M x).2 (.inr hx)), fun p' hp' => ?_, h.why, fun p' n h1 h2 h3 h4 h5 h6 => ?_⟩
 ·rcases h.src p' hp' with h7 | ⟨h7, x, hx, h8, h9⟩
  ·exact .inl h7
  ·refine .inr ⟨h7, x, ?_, h8, h9⟩
   rcases (M x).1 hx with e | e
   ·subst e; rw [hp] at h8; have : p = p' := by omega
    subst this; omega
   ·exact e
 ·rcases h.all p' n h1 h2 h3 h4 h5 h6 with h7 | ⟨h7, x, hx, h8, h9⟩
  ·exact .inl h7
  ·refine .inr ⟨h7, x, ?_, h8, h9⟩
   rcases (M x).1 hx with e | e
   ·subst e; rw [hp] at h8; have : p = n := by omega
    subst this; omega
   ·exact e
theorem Dj.close (hW : 0 < W) (h : Dj W pl s far q fun _ _ => True) (hq : 0 < q.length) {p : Nat} (hp : (q.getD 0 default).place = (p : Int)) (h0 : far.getD p default < 0) :
 p < pl.length ∧ Dj W pl s (far.set p (q.getD 0 default).far) (hpop Itm.far q) (fun a _ => a ≠ p) := by
 have M := hpop_mem Itm.far q hq
 have mem0 : q.getD 0 default ∈ q := (M _).2 (.inl rfl)
 obtain ⟨p', e1, hpl, j0, jb, jm, jw⟩ := h.itm _ mem0
 obtain rfl : p' = p := by omega
 have least : ∀ x ∈ q, (q.getD 0 default).far ≤ x.far := fun x hx => by
  obtain ⟨k, hk, rfl⟩ := mem_getD.1 hx
  exact heap_min _ h.heap k hk
 have hp'l : p' < far.length := by rw [h.len]; exact hpl
 generalize (q.getD 0 default).far = d at *
 have G := fun k => set_get d k hp'l
 have cnt : sumL one0 (far.set p' d) = sumL one0 far + 1 := by
  have := sumL_set one0 far p' d hp'l
  simp only [one0, if_neg (show ¬ 0 ≤ far.getD p' default by omega), if_pos j0] at this; simpa [one0] using this
 refine ⟨hpl, by rw [List.length_set]; exact h.len, fun k hk => ?_, hpop_heap _ _ hq h.heap, fun x hx => ?_, fun k hk => ?_, fun k hk hk0 => ?_, fun a n h1 h2 h3 h4 h5 h6 => ?_⟩
 ·rw [G]; split
  ·omega
  ·exact h.low k hk
 ·have hx' := (M x).2 (.inr hx)
  obtain ⟨k, e2, hk, l0, lb, lm, lw⟩ := h.itm x hx'
  refine ⟨k, e2, hk, l0, by rw [cnt]; omega, fun m hm => ?_, ?_⟩
  ·rw [G]; split
   ·exact least x hx'
   ·exact lm m hm
  ·rcases lw with lw | ⟨n, n1, n2, n3, n4, n5⟩
   ·exact .inl lw
   ·refine .inr ⟨n, n1, n2, n3, ?_⟩
    rw [G, if_neg (by intro e; subst e; omega)]; exact ⟨n4, n5⟩
 ·rw [G]
  rcases h.src k hk with h7 | ⟨h7, x, hx, h8, h9⟩
  ·rw [if_neg (by intro e; subst e; omega)]; exact .inl h7
  ·by_cases e : k = p'
   ·subst e
    rw [if_pos rfl]
    have := least x hx
    exact .inl (by omega)
   ·rw [if_neg e]
    refine .inr ⟨h7, x, ?_, h8, h9⟩
    rcases (M x).1 hx with e3 | e3
    ·subst e3; omega
    ·exact e3
 ·rw [G] at hk0 ⊢
  by_cases e : k = p'
  ·subst e
   rw [if_pos rfl]
   rcases jw with jw | ⟨n, n1, n2, n3, n4, n5⟩
   ·exact .inl jw
   ·refine .inr ⟨n, n1, n2, n3, ?_⟩
    rw [G, if_neg (by intro e; subst e; omega)]; omega
  ·rw [if_neg e] at hk0 ⊢
   rcases h.why k hk hk0 with jw | ⟨n, n1, n2, n3, n4, n5⟩
   ·exact .inl jw
   ·refine .inr ⟨n, n1, n2, n3, ?_⟩
    rw [G, if_neg (by intro e; subst e; omega)]; exact ⟨n4, n5⟩
 ·rw [G, if_neg h4] at h5
  rw [G, G, if_neg h4]
  rcases h.all a n h1 h2 h3 trivial h5 h6 with h7 | ⟨h7, x, hx, h8, h9⟩
  ·rw [if_neg (by intro e; subst e; omega)]; exact .inl h7
  ·by_cases e : n = p'
   ·subst e
    rw [if_pos rfl]
    have := least x hx
    exact .inl ⟨j0, by omega⟩
   ·rw [if_neg e]
    refine .inr ⟨h7, x, ?_, h8, h9⟩
    rcases (M x).1 hx with e3 | e3
    ·subst e3; omega
    ·exact e3
theorem Dj.look {p n : Nat} (h : Dj W pl s far q done) (hn : n < pl.length) (hp : p < pl.length) (ha : Adj W p n) (h0 : 0 ≤ far.getD p default) (top : ∀ m, m < pl.length → far.getD m default ≤ far.getD p default) (hb : far.getD p default + 3 ≤ 3 * sumL one0 far) (done' : Nat → Nat → Prop) (hd : ∀ a b, done' a b → done a b ∨ (a = p ∧ b = n))
 {q' : List Itm} (hq' : ((pl.getD n default = 1 ∨ 0 ≤ far.getD n default) ∧ q' = q) ∨ (pl.getD n default ≠ 1 ∧ far.getD n default < 0 ∧ q' = hpush Itm.far q ⟨(n : Int), far.getD p default + kV (pl.getD n default)⟩)) : Dj W pl s far q' done' := by
 have sub : ∀ x ∈ q, x ∈ q' := fun x hx => by
  rcases hq' with ⟨_, rfl⟩ | ⟨_, _, rfl⟩
  ·exact hx
  ·exact (hpush_mem _ _ _ _).2 (.inl hx)
 refine ⟨h.len, h.low, ?_, fun x hx => ?_, fun k hk => ?_, h.why, fun a b h1 h2 h3 h4 h5 h6 => ?_⟩
 ·rcases hq' with ⟨_, rfl⟩ | ⟨_, _, rfl⟩
  ·exact h.heap
  ·exact hpush_heap _ _ _ h.heap
 ·rcases hq' with ⟨_, rfl⟩ | ⟨g1, g2, rfl⟩
  ·exact h.itm x hx
  ·rcases (hpush_mem _ _ _ _).1 hx with e | e
   ·exact h.itm x e
   ·subst e
    have hk := kV_b (pl.getD n default)
    exact ⟨n, rfl, hn, by simp only; omega, by simp only; omega, fun m hm => by have := top m hm; simp only; omega, .inr ⟨p, hp, ha.symm, g1, h0, rfl⟩⟩
 ·rcases h.src k hk with h7 | ⟨h7, x, hx, h8, h9⟩
  ·exact .inl h7
  ·exact .inr ⟨h7, x, sub x hx, h8, h9⟩
 ·rcases hd a b h4 with h4 | ⟨rfl, rfl⟩
  ·rcases h.all a b h1 h2 h3 h4 h5 h6 with h7 | ⟨h7, x, hx, h8, h9⟩
   ·exact .inl h7
   ·exact .inr ⟨h7, x, sub x hx, h8, h9⟩
  ·rcases hq' with ⟨g | g, rfl⟩ | ⟨g1, g2, rfl⟩
   ·exact absurd g h6
   ·have hk := kV_b (pl.getD b default)
    have := top b hn
    exact .inl ⟨g, by omega⟩
   ·exact .inr ⟨g2, _, (hpush_mem _ _ _ _).2 (.inr rfl), rfl, Int.le_refl _⟩
theorem Dj.start (hs : ∀ p ∈ s, p < pl.length) (hh : HeapN Itm.far q q.length) (h1 : ∀ x ∈ q, ∃ p ∈ s, x.place = (p : Int) ∧ x.far = 0) (h2 : ∀ p ∈ s, ∃ x ∈ q, x.place = (p : Int) ∧ x.far = 0) : Dj W pl s (List.replicate pl.length (-1)) q fun _ _ => True := by
 have G := fun p hp => getD_rep pl.length p hp
 refine ⟨by simp, fun p hp => by rw [G p hp]; omega, hh, fun x hx => ?_, fun p hp => .inr ⟨by rw [G p (hs p hp)]; omega, h2 p hp⟩, fun p hp h0 => ?_, fun p n hp _ _ _ h0 _ => ?_⟩
 ·obtain ⟨p, hp, e1, e2⟩ := h1 x hx
  exact ⟨p, e1, hs p hp, by omega, by omega, fun m hm => by rw [G m hm]; omega, .inl ⟨hp, e2⟩⟩
 ·rw [G p hp] at h0; omega
 ·rw [G p hp] at h0; omega
end
structure Bf (W : Nat) (pl : List Int) (s : List Nat) (far : List Int) : Prop where
 len : far.length = pl.length
 low : ∀ p, p < pl.length → -1 ≤ far.getD p default
 src : ∀ p ∈ s, far.getD p default = 0
 why : ∀ p, p < pl.length → 0 ≤ far.getD p default → (p ∈ s ∧ far.getD p default = 0) ∨ ∃ n, n < pl.length ∧ Adj W p n ∧ pl.getD p default ≠ 1 ∧ 0 ≤ far.getD n default ∧ far.getD n default + kV (pl.getD p default) ≤ far.getD p default
 top : ∀ p, p < pl.length → far.getD p default ≤ 3 * sumL one0 far
def fine (pl far : List Int) (i n : Nat) : Prop := pl.getD i default = 1 ∨ far.getD n default < 0 ∨ (0 ≤ far.getD i default ∧ far.getD i default ≤ far.getD n default + kV (pl.getD i default))
section
variable {W : Nat} {pl : List Int} {s : List Nat} {far : List Int}
theorem Bf.flood (h : Bf W pl s far) (hf : ∀ i n, i < pl.length → n < pl.length → Adj W i n → fine pl far i n) : Flood W pl s far := by
 refine ⟨h.len, h.low, h.src, h.why, fun p n hp hn ha h0 hr => ?_⟩
 rcases hf n p hn hp ha.symm with h1 | h1 | h1
 ·exact absurd h1 hr
 ·omega
 ·exact h1
theorem Bf.better (h : Bf W pl s far) (hl : pl.length ≤ 1600) {i n : Nat} (hi : i < pl.length) (hn : n < pl.length) (ha : Adj W i n) (hne : i ≠ n) (hf : ¬ fine pl far i n) :
 Bf W pl s (far.set i (far.getD n default + kV (pl.getD i default))) ∧ sumL big0 (far.set i (far.getD n default + kV (pl.getD i default))) < sumL big0 far := by
 unfold fine at hf
 rw [not_or, not_or] at hf
 obtain ⟨f1, f2, f3⟩ := hf
 have hk := kV_b (pl.getD i default)
 have hil : i < far.length := by rw [h.len]; exact hi
 have top := h.top n hn
 have c1 := sumL_le one0 1 one0_le far
 rw [h.len] at c1
 obtain ⟨d, hd⟩ : ∃ d, d = far.getD n default + kV (pl.getD i default) := ⟨_, rfl⟩
 rw [← hd]
 have G := fun k => set_get d k hil
 have cnt := sumL_set one0 far i d hil
 have bg := sumL_set big0 far i d hil
 have o1 : one0 d = 1 := by unfold one0; rw [if_pos (by omega)]
 have b1 : big0 d = d.toNat := by unfold big0; rw [if_pos (by omega)]
 rw [o1] at cnt
 rw [b1] at bg
 have o2 := one0_le (far.getD i default)
 refine ⟨⟨by rw [List.length_set]; exact h.len, fun k hk2 => ?_, fun k hk2 => ?_, fun k hk2 hk0 => ?_, fun k hk2 => ?_⟩, ?_⟩
 ·rw [G]; split
  ·omega
  ·exact h.low k hk2
 ·rw [G, if_neg]
  ·exact h.src k hk2
  ·intro e; subst e
   have := h.src _ hk2
   exact f3 ⟨by omega, by omega⟩
 ·rw [G] at hk0 ⊢
  by_cases e : k = i
  ·subst e
   rw [if_pos rfl]
   refine .inr ⟨n, hn, ha, f1, ?_⟩
   rw [G, if_neg (Ne.symm hne)]; omega
  ·rw [if_neg e] at hk0 ⊢
   rcases h.why k hk2 hk0 with jw | ⟨m, n1, n2, n3, n4, n5⟩
   ·exact .inl jw
   ·refine .inr ⟨m, n1, n2, n3, ?_⟩
    rw [G]
    split
    ·rename_i e2; subst e2; omega
    ·exact ⟨n4, n5⟩
 ·rw [G]; split
  ·by_cases hneg : 0 ≤ far.getD i default
   ·have : one0 (far.getD i default) = 1 := by unfold one0; rw [if_pos hneg]
    have := h.top i hi
    omega
   ·have : one0 (far.getD i default) = 0 := by unfold one0; rw [if_neg hneg]
    omega
  ·have := h.top k hk2; omega
 ·by_cases hneg : 0 ≤ far.getD i default
  ·have : big0 (far.getD i default) = (far.getD i default).toNat := by unfold big0; rw [if_pos hneg]
   omega
  ·have : big0 (far.getD i default) = 5000 := by unfold big0; rw [if_neg hneg]
   omega
end
end Go.Proofs.YthiddmncjafklaaGreat
namespace Go.Proofs.YthiddmncjafklaaGreat
set_option linter.all false
open Go.RowKit
structure Nod where
 c : Cel
 far : Int
 all : Int
 deriving DecidableEq, Inhabited
def celW (W p : Nat) : Cel := ⟨((p % W : Nat) : Int), ((p / W : Nat) : Int)⟩
theorem celW_inj {W p n : Nat} (h : celW W p = celW W n) : p = n := by
 unfold celW at h
 simp only [Cel.mk.injEq] at h
 have h1 := Nat.div_add_mod p W
 have h2 := Nat.div_add_mod n W
 have e1 : p % W = n % W := by omega
 have e2 : p / W = n / W := by omega
 rw [← h1, ← h2, e1, e2]
def Cons (W L : Nat) (hh : Nat → Int) : Prop := ∀ p n, p < L → n < L → Adj W p n → hh p ≤ hh n + 2
structure As (W : Nat) (pl : List Int) (a : Nat) (hh : Nat → Int) (far : List Int) (q : List Nod) (done : Nat → Nat → Prop) : Prop where
 len : far.length = pl.length
 low : ∀ p, p < pl.length → -1 ≤ far.getD p default
 heap : HeapN Nod.all q q.length
 itm : ∀ x ∈ q, ∃ p : Nat, x.c = celW W p ∧ p < pl.length ∧ 0 ≤ x.far ∧ x.far ≤ 3 * sumL one0 far ∧ x.all = x.far + hh p ∧ (∀ m, m < pl.length → 0 ≤ far.getD m default → far.getD m default + hh m ≤ x.all) ∧ ((p = a ∧ x.far = 0) ∨ ∃ n, n < pl.length ∧ Adj W p n ∧ pl.getD p default ≠ 1 ∧ 0 ≤ far.getD n default ∧ x.far = far.getD n default + kV (pl.getD p default))
 src : far.getD a default = 0 ∨ (far.getD a default < 0 ∧ ∃ x ∈ q, x.c = celW W a ∧ x.far = 0)
 why : ∀ p, p < pl.length → 0 ≤ far.getD p default → (p = a ∧ far.getD p default = 0) ∨ ∃ n, n < pl.length ∧ Adj W p n ∧ pl.getD p default ≠ 1 ∧ 0 ≤ far.getD n default ∧ far.getD p default = far.getD n default + kV (pl.getD p default)
 top : ∀ p, p < pl.length → far.getD p default ≤ 3 * sumL one0 far
 all : ∀ p n, p < pl.length → n < pl.length → Adj W p n → done p n → 0 ≤ far.getD p default → pl.getD n default ≠ 1 →
  (0 ≤ far.getD n default ∧ far.getD n default ≤ far.getD p default + kV (pl.getD n default)) ∨ (far.getD n default < 0 ∧ ∃ x ∈ q, x.c = celW W n ∧ x.far ≤ far.getD p default + kV (pl.getD n default))
section
variable {W : Nat} {pl : List Int} {a : Nat} {hh : Nat → Int} {far : List Int} {q : List Nod} {done : Nat → Nat → Prop}
theorem As.skip (h : As W pl a hh far q done) (hq : 0 < q.length) {p : Nat} (hp : (q.getD 0 default).c = celW W p) (h0 : 0 ≤ far.getD p default) : As W pl a hh far (hpop Nod.all q) done := by
 have M := hpop_mem Nod.all q hq
 refine ⟨h.len, h.low, hpop_heap _ _ hq h.heap, fun x hx => h.itm x ((M x).2 (.inr hx)), ?_, h.why, h.top, fun p' n h1 h2 h3 h4 h5 h6 => ?_⟩
 ·rcases h.src with h7 | ⟨h7, x, hx, h8, h9⟩
  ·exact .inl h7
  ·refine .inr ⟨h7, x, ?_, h8, h9⟩
   rcases (M x).1 hx with e | e
   ·subst e; rw [hp] at h8; have := celW_inj h8; subst this; omega
   ·exact e
 ·rcases h.all p' n h1 h2 h3 h4 h5 h6 with h7 | ⟨h7, x, hx, h8, h9⟩
  ·exact .inl h7
  ·refine .inr ⟨h7, x, ?_, h8, h9⟩
   rcases (M x).1 hx with e | e
   ·subst e; rw [hp] at h8; have := celW_inj h8; subst this; omega
   ·exact e
theorem As.close (hW : 0 < W) (h : As W pl a hh far q fun _ _ => True) (hq : 0 < q.length) {p : Nat} (hp : (q.getD 0 default).c = celW W p) (h0 : far.getD p default < 0) :
 p < pl.length ∧ As W pl a hh (far.set p (q.getD 0 default).far) (hpop Nod.all q) (fun x _ => x ≠ p) := by
 have M := hpop_mem Nod.all q hq
 have mem0 : q.getD 0 default ∈ q := (M _).2 (.inl rfl)
 obtain ⟨p', e1, hpl, j0, jb, ja, jm, jw⟩ := h.itm _ mem0
 obtain rfl : p = p' := celW_inj (hp.symm.trans e1)
 have least : ∀ x ∈ q, (q.getD 0 default).all ≤ x.all := fun x hx => by
  obtain ⟨k, hk, rfl⟩ := mem_getD.1 hx
  exact heap_min _ h.heap k hk
 have hpL : p < far.length := by rw [h.len]; exact hpl
 generalize q.getD 0 default = x0 at *
 obtain ⟨c0, d, al⟩ := x0
 simp only at *
 have G := fun k => set_get d k hpL
 have cnt : sumL one0 (far.set p d) = sumL one0 far + 1 := by
  have := sumL_set one0 far p d hpL
  simp only [one0, if_neg (show ¬ 0 ≤ far.getD p default by omega), if_pos j0] at this; simpa [one0] using this
 refine ⟨hpl, by rw [List.length_set]; exact h.len, fun k hk => ?_, hpop_heap _ _ hq h.heap, fun x hx => ?_, ?_, fun k hk hk0 => ?_, fun k hk => ?_, fun u n h1 h2 h3 h4 h5 h6 => ?_⟩
 ·rw [G]; split
  ·omega
  ·exact h.low k hk
 ·have hx' := (M x).2 (.inr hx)
  obtain ⟨k, e2, hk, l0, lb, la, lm, lw⟩ := h.itm x hx'
  refine ⟨k, e2, hk, l0, by rw [cnt]; omega, la, fun m hm hm0 => ?_, ?_⟩
  ·rw [G] at hm0 ⊢; split
   ·rename_i e; subst e; have := least x hx'; omega
   ·rename_i e; rw [if_neg e] at hm0; exact lm m hm hm0
  ·rcases lw with lw | ⟨n, n1, n2, n3, n4, n5⟩
   ·exact .inl lw
   ·refine .inr ⟨n, n1, n2, n3, ?_⟩
    rw [G, if_neg (by intro e; subst e; omega)]; exact ⟨n4, n5⟩
 ·rw [G]
  rcases h.src with h7 | ⟨h7, x, hx, h8, h9⟩
  ·rw [if_neg (by intro e; subst e; omega)]; exact .inl h7
  ·by_cases e : a = p
   ·subst e
    rw [if_pos rfl]
    have := least x hx
    obtain ⟨k, e2, _, _, _, la, _, _⟩ := h.itm x hx
    have := celW_inj (e2.symm.trans h8)
    subst this
    exact .inl (by omega)
   ·rw [if_neg e]
    refine .inr ⟨h7, x, ?_, h8, h9⟩
    rcases (M x).1 hx with e3 | e3
    ·subst e3; exact absurd (celW_inj (h8.symm.trans hp)) e
    ·exact e3
 ·rw [G] at hk0 ⊢
  by_cases e : k = p
  ·subst e
   rw [if_pos rfl]
   rcases jw with jw | ⟨n, n1, n2, n3, n4, n5⟩
   ·exact .inl jw
   ·refine .inr ⟨n, n1, n2, n3, ?_⟩
    rw [G, if_neg (by intro e; subst e; omega)]; omega
  ·rw [if_neg e] at hk0 ⊢
   rcases h.why k hk hk0 with jw | ⟨n, n1, n2, n3, n4, n5⟩
   ·exact .inl jw
   ·refine .inr ⟨n, n1, n2, n3, ?_⟩
    rw [G, if_neg (by intro e; subst e; omega)]; exact ⟨n4, n5⟩
 ·rw [G, cnt]; split
  ·omega
  ·have := h.top k hk; omega
 ·rw [G, if_neg h4] at h5
  rw [G, G, if_neg h4]
  rcases h.all u n h1 h2 h3 trivial h5 h6 with h7 | ⟨h7, x, hx, h8, h9⟩
  ·rw [if_neg (by intro e; subst e; omega)]; exact .inl h7
  ·by_cases e : n = p
   ·subst e
    rw [if_pos rfl]
    have := least x hx
    obtain ⟨k, e2, _, _, _, la, _, _⟩ := h.itm x hx
    have := celW_inj (e2.symm.trans h8)
    subst this
    exact .inl ⟨j0, by omega⟩
   ·rw [if_neg e]
    refine .inr ⟨h7, x, ?_, h8, h9⟩
    rcases (M x).1 hx with e3 | e3
    ·subst e3; exact absurd (celW_inj (h8.symm.trans hp)) e
    ·exact e3
theorem As.look (hc : Cons W pl.length hh) {p n : Nat} (h : As W pl a hh far q done) (hn : n < pl.length) (hp : p < pl.length) (ha : Adj W p n) (h0 : 0 ≤ far.getD p default) (top : ∀ m, m < pl.length → 0 ≤ far.getD m default → far.getD m default + hh m ≤ far.getD p default + hh p) (hb : far.getD p default + 3 ≤ 3 * sumL one0 far) (done' : Nat → Nat → Prop) (hd : ∀ x y, done' x y → done x y ∨ (x = p ∧ y = n))
 {q' : List Nod} (hq' : ((pl.getD n default = 1 ∨ 0 ≤ far.getD n default) ∧ q' = q) ∨ (pl.getD n default ≠ 1 ∧ far.getD n default < 0 ∧ q' = hpush Nod.all q ⟨celW W n, far.getD p default + kV (pl.getD n default), far.getD p default + kV (pl.getD n default) + hh n⟩)) : As W pl a hh far q' done' := by
 have hcn := hc p n hp hn ha
 have sub : ∀ x ∈ q, x ∈ q' := fun x hx => by
  rcases hq' with ⟨_, rfl⟩ | ⟨_, _, rfl⟩
  ·exact hx
  ·exact (hpush_mem _ _ _ _).2 (.inl hx)
 refine ⟨h.len, h.low, ?_, fun x hx => ?_, ?_, h.why, h.top, fun u b h1 h2 h3 h4 h5 h6 => ?_⟩
 ·rcases hq' with ⟨_, rfl⟩ | ⟨_, _, rfl⟩
  ·exact h.heap
  ·exact hpush_heap _ _ _ h.heap
 ·rcases hq' with ⟨_, rfl⟩ | ⟨g1, g2, rfl⟩
  ·exact h.itm x hx
  ·rcases (hpush_mem _ _ _ _).1 hx with e | e
   ·exact h.itm x e
   ·subst e
    have hk := kV_b (pl.getD n default)
    exact ⟨n, rfl, hn, by simp only; omega, by simp only; omega, rfl, fun m hm hm0 => by have := top m hm hm0; simp only; omega, .inr ⟨p, hp, ha.symm, g1, h0, rfl⟩⟩
 ·rcases h.src with h7 | ⟨h7, x, hx, h8, h9⟩
  ·exact .inl h7
  ·exact .inr ⟨h7, x, sub x hx, h8, h9⟩
 ·rcases hd u b h4 with h4 | ⟨rfl, rfl⟩
  ·rcases h.all u b h1 h2 h3 h4 h5 h6 with h7 | ⟨h7, x, hx, h8, h9⟩
   ·exact .inl h7
   ·exact .inr ⟨h7, x, sub x hx, h8, h9⟩
  ·rcases hq' with ⟨g | g, rfl⟩ | ⟨g1, g2, rfl⟩
   ·exact absurd g h6
   ·have hk := kV_b (pl.getD b default)
    have := top b hn g
    have := hc u b hp hn ha
    exact .inl ⟨g, by omega⟩
   ·exact .inr ⟨g2, _, (hpush_mem _ _ _ _).2 (.inr rfl), rfl, Int.le_refl _⟩
theorem As.start (ha : a < pl.length) : As W pl a hh (List.replicate pl.length (-1)) (hpush Nod.all [] ⟨celW W a, 0, 0 + hh a⟩) fun _ _ => True := by
 have G := fun p hp => getD_rep pl.length p hp
 refine ⟨by simp, fun p hp => by rw [G p hp]; omega, hpush_heap _ _ _ (fun k h1 h2 => absurd h2 (Nat.not_lt_zero _)), fun x hx => ?_, .inr ⟨by rw [G a ha]; omega, _, (hpush_mem _ _ _ _).2 (.inr rfl), rfl, rfl⟩, fun p hp h0 => ?_, fun p hp => by rw [G p hp]; omega, fun p n hp _ _ _ h0 _ => ?_⟩
 ·rcases (hpush_mem _ _ _ _).1 hx with e | e
  ·simp at e
  ·subst e
   exact ⟨a, rfl, ha, Int.le_refl _, by simp only; omega, rfl, fun m hm h0 => by rw [G m hm] at h0; omega, .inl ⟨rfl, rfl⟩⟩
 ·rw [G p hp] at h0; omega
 ·rw [G p hp] at h0; omega
variable {F : List Int}
theorem As.up (h : As W pl a hh far q done) (hF : Flood W pl [a] F) : ∀ (N p : Nat), p < pl.length → 0 ≤ far.getD p default → far.getD p default ≤ N → 0 ≤ F.getD p default ∧ F.getD p default ≤ far.getD p default := by
 intro N
 induction N using Nat.strongRecOn with
 | _ N ih =>
  intro p hp h0 hN
  rcases h.why p hp h0 with ⟨h1, h2⟩ | ⟨n, hn, ha, hr, h3, h4⟩
  ·subst h1; rw [hF.src p (by simp)]; omega
  ·have hk := kV_b (pl.getD p default)
   obtain ⟨k, hk2⟩ := Int.eq_ofNat_of_zero_le h3
   have := ih k (by omega) n hn h3 (by omega)
   have := hF.all n p hn hp ha.symm this.1 hr
   omega
theorem As.down (hc : Cons W pl.length hh) (h : As W pl a hh far q fun _ _ => True) (ha : a < pl.length) (hF : Flood W pl [a] F) : ∀ (N p : Nat), p < pl.length → 0 ≤ F.getD p default → F.getD p default ≤ N →
 (0 ≤ far.getD p default ∧ far.getD p default ≤ F.getD p default) ∨ ∃ x ∈ q, x.all ≤ F.getD p default + hh p := by
 intro N
 induction N using Nat.strongRecOn with
 | _ N ih =>
  intro p hp h0 hN
  have itm : ∀ x ∈ q, x.c = celW W p → x.all = x.far + hh p := fun x hx e => by
   obtain ⟨k, e2, _, _, _, la, _, _⟩ := h.itm x hx
   have := celW_inj (e2.symm.trans e)
   subst this; exact la
  rcases hF.why p hp h0 with ⟨h1, h2⟩ | ⟨n, hn, hadj, hr, h3, h4⟩
  ·obtain rfl : p = a := by simpa using h1
   rcases h.src with h7 | ⟨_, x, hx, h8, h9⟩
   ·exact .inl (by omega)
   ·exact .inr ⟨x, hx, by rw [itm x hx h8]; omega⟩
  ·have hk := kV_b (pl.getD p default)
   obtain ⟨k, hk2⟩ := Int.eq_ofNat_of_zero_le h3
   rcases ih k (by omega) n hn h3 (by omega) with ⟨g1, g2⟩ | ⟨x, hx, hxa⟩
   ·rcases h.all n p hn hp hadj.symm trivial g1 hr with g3 | ⟨_, x, hx, e, g4⟩
    ·exact .inl (by omega)
    ·exact .inr ⟨x, hx, by rw [itm x hx e]; omega⟩
   ·have := hc n p hn hp hadj.symm
    exact .inr ⟨x, hx, by omega⟩
theorem As.same (hc : Cons W pl.length hh) (h : As W pl a hh far q fun _ _ => True) (ha : a < pl.length) (hF : Flood W pl [a] F) {p : Nat} (hp : p < pl.length) (h0 : 0 ≤ far.getD p default) : far.getD p default = F.getD p default := by
 obtain ⟨N, hN⟩ := Int.eq_ofNat_of_zero_le h0
 have h1 := h.up hF N p hp h0 (by omega)
 obtain ⟨M, hM⟩ := Int.eq_ofNat_of_zero_le h1.1
 rcases h.down hc ha hF M p hp h1.1 (by omega) with h2 | ⟨x, hx, hxa⟩
 ·omega
 ·obtain ⟨k, _, _, _, _, _, lm, _⟩ := h.itm x hx
  have := lm p hp h0
  omega
theorem As.known (hc : Cons W pl.length hh) (h : As W pl a hh far q fun _ _ => True) (ha : a < pl.length) (hF : Flood W pl [a] F) {p : Nat} (hp : p < pl.length) (h0 : 0 ≤ F.getD p default) (hout : ∀ x ∈ q, ¬ x.all ≤ F.getD p default + hh p) : far.getD p default = F.getD p default := by
 obtain ⟨M, hM⟩ := Int.eq_ofNat_of_zero_le h0
 rcases h.down hc ha hF M p hp h0 (by omega) with h2 | ⟨x, hx, hxa⟩
 ·exact h.same hc ha hF hp h2.1
 ·exact absurd hxa (hout x hx)
end
theorem flood_of_bf {W : Nat} {pl : List Int} {s : List Nat} (hW : 0 < W) (hl : pl.length ≤ 1600) : ∀ (N : Nat) (far : List Int), sumL big0 far ≤ N → Bf W pl s far → ∃ F, Flood W pl s F := by
 intro N
 induction N using Nat.strongRecOn with
 | _ N ih =>
  intro far hN hB
  by_cases hf : ∀ i n, i < pl.length → n < pl.length → Adj W i n → fine pl far i n
  ·exact ⟨far, hB.flood hf⟩
  ·simp only [Classical.not_forall] at hf
   obtain ⟨i, n, hi, hn, ha, hnf⟩ := hf
   obtain ⟨b1, b2⟩ := hB.better hl hi hn ha (Adj.ne hW ha) hnf
   exact ih _ (by omega) _ (Nat.le_refl _) b1
theorem flood_ex {W : Nat} {pl : List Int} {s : List Nat} (hW : 0 < W) (hl : pl.length ≤ 1600) (hs : ∀ p ∈ s, p < pl.length) : ∃ F, Flood W pl s F := by
 have G : ∀ p, p < pl.length → ((List.range pl.length).map fun p => if p ∈ s then (0 : Int) else -1).getD p default = if p ∈ s then 0 else -1 := fun p hp => by rw [getD_at _ _ (by simpa using hp)]; simp
 refine flood_of_bf hW hl _ ((List.range pl.length).map fun p => if p ∈ s then (0 : Int) else -1) (Nat.le_refl _) ⟨by simp, fun p hp => ?_, fun p hp => ?_, fun p hp h0 => ?_, fun p hp => ?_⟩
 ·rw [G p hp]; split <;> omega
 ·rw [G p (hs p hp), if_pos hp]
 ·rw [G p hp] at h0 ⊢
  split at h0
  ·rename_i h; rw [if_pos h]; exact .inl ⟨h, rfl⟩
  ·omega
 ·rw [G p hp]; split <;> omega
end Go.Proofs.YthiddmncjafklaaGreat
namespace Go.Proofs.YthiddmncjafklaaGreat
set_option linter.all false
open Go.RowKit
set_option maxRecDepth 100000
set_option maxHeartbeats 400000
def costV (q : Int) : Int × Int := if q = 0 ∨ q = 3 then (2, 0) else if q = 2 then (3, 0) else if q = 1 then (0, 9) else (0, 1)
theorem cost_s (q : Int) : Spec Tryz.prog 164 [I .i64 q] [] (.tup [I .i64 (costV q).1, I .i64 (costV q).2]) [] := by
 refine spec_am Tryz.func164 rfl rfl mix 12 rfl [.tmp 2, .tmp 3] Tryz.results164 (Nat.le_of_ble_eq_true rfl) ?_
 (try (refine xst ?_; try exact xtI))
 refine cond_i (fun h1 => ?_) (fun h1 => ?_)
 ·(try replace h1 := xhh h1)
  (try (refine xst ?_; try exact xtI))
  refine cond_i (fun h2 => ?_) (fun h2 => ?_)
  ·(try replace h2 := xhh h2)
   (try (refine xst ?_; try exact xtI))
   (first | (refine retA rfl (Wk.of ?_); (try simp (etaStruct := .none) only [push_cast, DrawG, Int.cast_ofNat_Int, seval]); first | done | (simp [costV, *]; done) | (simp_all [costV]; done)) | (refine retA rfl ?_; (try simp (etaStruct := .none) only [push_cast, DrawG, Int.cast_ofNat_Int, seval]); (try simp [costV, *]); (try exact wkc)))
  ·(try replace h2 := xhh h2)
   exact absurd h1 h2
 ·(try replace h1 := xhh h1)
  (try (refine xst ?_; try exact xtI))
  refine cond_i (fun h3 => ?_) (fun h3 => ?_)
  ·(try replace h3 := xhh h3)
   (try (refine xst ?_; try exact xtI))
   (first | (refine retA rfl (Wk.of ?_); (try simp (etaStruct := .none) only [push_cast, DrawG, Int.cast_ofNat_Int, seval]); first | done | (simp [costV, *]; done) | (simp_all [costV]; done)) | (refine retA rfl ?_; (try simp (etaStruct := .none) only [push_cast, DrawG, Int.cast_ofNat_Int, seval]); (try simp [costV, *]); (try exact wkc)))
  ·(try replace h3 := xhh h3)
   (try (refine xst ?_; try exact xtI))
   refine cond_i (fun h4 => ?_) (fun h4 => ?_)
   ·(try replace h4 := xhh h4)
    (try (refine xst ?_; try exact xtI))
    (first | (refine retA rfl (Wk.of ?_); (try simp (etaStruct := .none) only [push_cast, DrawG, Int.cast_ofNat_Int, seval]); first | done | (simp [costV, *]; done) | (simp_all [costV]; done)) | (refine retA rfl ?_; (try simp (etaStruct := .none) only [push_cast, DrawG, Int.cast_ofNat_Int, seval]); (try simp [costV, *]); (try exact wkc)))
   ·(try replace h4 := xhh h4)
    (try (refine xst ?_; try exact xtI))
    refine cond_i (fun h5 => ?_) (fun h5 => ?_)
    ·(try replace h5 := xhh h5)
     (try (refine xst ?_; try exact xtI))
     (first | (refine retA rfl (Wk.of ?_); (try simp (etaStruct := .none) only [push_cast, DrawG, Int.cast_ofNat_Int, seval]); first | done | (simp [costV, *]; done) | (simp_all [costV]; done)) | (refine retA rfl ?_; (try simp (etaStruct := .none) only [push_cast, DrawG, Int.cast_ofNat_Int, seval]); (try simp [costV, *]); (try exact wkc)))
    ·(try replace h5 := xhh h5)
     (try (refine xst ?_; try exact xtI))
     (first | (refine retA rfl (Wk.of ?_); (try simp (etaStruct := .none) only [push_cast, DrawG, Int.cast_ofNat_Int, seval]); first | done | (simp [costV, *]; done) | (simp_all [costV]; done)) | (refine retA rfl ?_; (try simp (etaStruct := .none) only [push_cast, DrawG, Int.cast_ofNat_Int, seval]); (try simp [costV, *]); (try exact wkc)))
theorem costOf_s (q : Int) (h : 0 ≤ q ∧ q < 4) : Spec Tryz.prog 105 [I .i64 q] [] (I .i64 (if q = 1 then -1 else kV q)) [] := by
 have hg : ([[pI 2], [pI (-1)], [pI 3], [pI 2]] : List (List PV)).getD q.toNat [] = [pI (if q = 1 then -1 else kV q)] := by
  have : q = 0 ∨ q = 1 ∨ q = 2 ∨ q = 3 := by omega
  rcases this with rfl | rfl | rfl | rfl <;> rfl
 refine spec_am Tryz.func105 rfl rfl mix 7 rfl [.tmp 2] Tryz.results105 (Nat.le_of_ble_eq_true rfl) ?_
 (iterate 2 ((try simp (etaStruct := .none) only [push_cast, DrawG, Int.cast_ofNat_Int, seval, hg]); (try (refine xsu ?_; try exact xtI))))
 exact xrz rfl
end Go.Proofs.YthiddmncjafklaaGreat
namespace Go.Proofs.YthiddmncjafklaaGreat
set_option linter.all false
open Go.RowKit
set_option maxRecDepth 100000
set_option maxHeartbeats 400000
def idxN (f : Fld) (c : Cel) : Nat := (c.y * f.w + c.x).toNat
def srcE (f : Fld) : List Cel → Int
 | [] => 0
 | c :: r => if inF f c then (if placeV f c = 1 then 9 else srcE f r) else 7
def floodE (f : Fld) (l : List Cel) : Int := if fldE f ≠ 0 then fldE f else if 100 < l.length then 2 else srcE f l
def FloodIs (f : Fld) (l : List Cel) (R : List Int) : Prop := (floodE f l = 0 → ∀ far, Flood f.w.toNat f.p (l.map (idxN f)) far → R = far) ∧ (floodE f l ≠ 0 → R = []) ∧ R.length ≤ f.p.length
theorem flood_is (f : Fld) (l : List Cel) : ∃ R, FloodIs f l R := by
 by_cases h : floodE f l = 0 ∧ ∃ far, Flood f.w.toNat f.p (l.map (idxN f)) far
 ·obtain ⟨h1, far, hf⟩ := h
  exact ⟨far, fun _ g hg => hf.uniq hg, fun h => absurd h1 h, by rw [hf.len]; exact Nat.le_refl _⟩
 ·exact ⟨[], fun h0 far hf => absurd ⟨h0, far, hf⟩ h, fun _ => rfl, Nat.zero_le _⟩
theorem srcE_bad {f : Fld} : ∀ {l : List Cel} (k : Nat), k < l.length → (∀ j, j < k → inF f (l.getD j default) = true ∧ placeV f (l.getD j default) ≠ 1) → ¬ (inF f (l.getD k default) = true ∧ placeV f (l.getD k default) ≠ 1) → srcE f l = if inF f (l.getD k default) then 9 else 7
 | [], k, h, _, _ => by simp at h
 | c :: r, 0, h, _, hb => by
  simp only [List.getD_cons_zero] at hb ⊢
  unfold srcE
  by_cases h1 : inF f c = true
  ·rw [if_pos h1, if_pos h1, if_pos]; by_cases h2 : placeV f c = 1
   ·exact h2
   ·exact absurd ⟨h1, h2⟩ hb
  ·rw [if_neg h1, if_neg h1]
 | c :: r, k + 1, h, ha, hb => by
  simp only [List.getD_cons_succ] at hb ⊢
  have h0 := ha 0 (by omega)
  simp only [List.getD_cons_zero] at h0
  unfold srcE
  rw [if_pos h0.1, if_neg h0.2]
  exact srcE_bad k (by simpa using h) (fun j hj => by have := ha (j + 1) (by omega); simpa using this) hb
theorem srcE_ok {f : Fld} : ∀ {l : List Cel}, (∀ j, j < l.length → inF f (l.getD j default) = true ∧ placeV f (l.getD j default) ≠ 1) → srcE f l = 0
 | [], _ => rfl
 | c :: r, ha => by
  have h0 := ha 0 (by simp)
  simp only [List.getD_cons_zero] at h0
  unfold srcE
  rw [if_pos h0.1, if_neg h0.2]
  exact srcE_ok (fun j hj => by have := ha (j + 1) (by simpa using hj); simpa using this)
abbrev fldC (f : Fld) : List AV := [I .i64 f.w, I .i64 f.h, .c (.sl 1 (f.p.map i64P))]
theorem costV_ok {q : Int} (h : 0 ≤ q ∧ q < 4) : (q = 1 ∧ costV q = (0, 9)) ∨ (q ≠ 1 ∧ costV q = (kV q, 0)) := by
 have : q = 0 ∨ q = 1 ∨ q = 2 ∨ q = 3 := by omega
 rcases this with rfl | rfl | rfl | rfl
 ·exact .inr ⟨by decide, rfl⟩
 ·exact .inl ⟨rfl, rfl⟩
 ·exact .inr ⟨by decide, rfl⟩
 ·exact .inr ⟨by decide, rfl⟩
end Go.Proofs.YthiddmncjafklaaGreat
namespace Go.Proofs.YthiddmncjafklaaGreat
set_option linter.all false
open Go.RowKit
set_option maxRecDepth 100000
theorem in_s' (f : Fld) (c : Cel) (h : fldE f = 0) : Spec Tryz.prog 76 [fldA f, celA c] [] (B (inF f c)) [] := by
 have := fldE_ok h
 exact in_s f c (by omega) (by omega)
end Go.Proofs.YthiddmncjafklaaGreat
namespace Go.Proofs.YthiddmncjafklaaGreat
set_option linter.all false
open Go.RowKit
set_option maxRecDepth 100000
set_option maxHeartbeats 400000
def sidesC (c : Cel) : List Cel := [⟨c.x, c.y - 1⟩, ⟨c.x - 1, c.y⟩, ⟨c.x + 1, c.y⟩, ⟨c.x, c.y + 1⟩]
def besideC (f : Fld) (c : Cel) : List Cel := (sidesC c).filter (inF f)
theorem besideC_step (f : Fld) (c : Cel) (k : Nat) (h : k < (sidesC c).length) : ((sidesC c).take (k + 1)).filter (inF f) = ((sidesC c).take k).filter (inF f) ++ (if inF f ((sidesC c).getD k default) then [(sidesC c).getD k default] else []) := by
 rw [take_snoc _ _ h, List.filter_append, List.filter_cons, List.filter_nil]
theorem besides_s (f : Fld) (c : Cel) (h : fldE f = 0) (hx : -1000000 ≤ c.x ∧ c.x ≤ 1000000) (hy : -1000000 ≤ c.y ∧ c.y ≤ 1000000) : Spec Tryz.prog 102 [fldA f, celA c] [] (.c (.sl 2 ((besideC f c).map celP))) [] := by
 have h4 : (sidesC c).length = 4 := rfl
 refine spec_am Tryz.func102 rfl rfl mix 47 rfl [.tmp 4] Tryz.results102 (Nat.le_of_ble_eq_true rfl) ?_
 (try (refine xst ?_; try exact xtI))
 refine loopI (fun k : Nat => ⟨[(34, I .i64 k), (33, I .i64 4), (32, .own 1), (5, .own 2), (2, .ptr 0 0 0)], [(0, .blk 24 (fldC f)), (1, .row 85 2 ((sidesC c).map celP)), (2, .row 85 2 ((((sidesC c).take k).filter (inF f)).map celP))], 3⟩) (fun k : Nat => k ≤ 4) (fun k : Nat => 4 - k) (0) (Nat.zero_le _) ((To.nil 5 85 2 rfl).trans (To.mk [0, 2, 3] rfl rfl (by decide) ?_ ?_)) ?_
 ·simp (etaStruct := .none) only [push_cast, DrawG, Int.cast_ofNat_Int, seval, sidesC, celP, List.filter_nil, List.take_zero]
 ·simp (etaStruct := .none) only [push_cast, DrawG, Int.cast_ofNat_Int, seval]
 rintro k hk
 (try (refine xst ?_; try exact xtI))
 refine cond_i (fun h1 => ?_) (fun h1 => ?_)
 ·(try replace h1 := xhh h1)
  have hlt : k < (sidesC c).length := by omega
  have st := besideC_step f c k hlt
  have hfl : (((sidesC c).take k).filter (inF f)).length ≤ 4 := by have := List.length_filter_le (inF f) ((sidesC c).take k); rw [List.length_take] at this; omega
  (iterate 2 ((try simp (etaStruct := .none) only [push_cast, DrawG, Int.cast_ofNat_Int, seval, getD_in _ _ _ hlt, celP]); (try (refine xsu ?_; try exact xtI))))
  refine caP (in_s' f ((sidesC c).getD k default) h) ?_
  (iterate 2 ((try simp (etaStruct := .none) only [push_cast, DrawG, Int.cast_ofNat_Int, seval, getD_in _ _ _ hlt, celP]); (try (refine xsu ?_; try exact xtI))))
  refine cond_i (fun h2 => ?_) (fun h2 => ?_)
  ·(try replace h2 := xhh h2)
   rw [if_pos h2] at st
   (iterate 2 ((try simp (etaStruct := .none) only [push_cast, DrawG, Int.cast_ofNat_Int, seval, getD_in _ _ _ hlt, celP]); (try (refine xsu ?_; try exact xtI))))
   refine ⟨k + 1, by omega, by omega, To.mk [0, 1, 5] rfl rfl (by decide) ?_ ?_⟩
   ·(iterate 2 ((try simp (etaStruct := .none) only [push_cast, DrawG, Int.cast_ofNat_Int, seval, st, List.map_append, celP]); (try (refine xsu ?_; try exact xtI))))
   ·(iterate 2 ((try simp (etaStruct := .none) only [push_cast, DrawG, Int.cast_ofNat_Int, seval, getD_in _ _ _ hlt, celP]); (try (refine xsu ?_; try exact xtI))))
  ·(try replace h2 := xhh h2)
   rw [if_neg (by rw [h2]; decide), List.append_nil] at st
   (iterate 2 ((try simp (etaStruct := .none) only [push_cast, DrawG, Int.cast_ofNat_Int, seval, getD_in _ _ _ hlt, celP]); (try (refine xsu ?_; try exact xtI))))
   refine ⟨k + 1, by omega, by omega, To.mk [0, 1, 2] rfl rfl (by decide) ?_ ?_⟩
   ·(iterate 2 ((try simp (etaStruct := .none) only [push_cast, DrawG, Int.cast_ofNat_Int, seval, st]); (try (refine xsu ?_; try exact xtI))))
   ·(iterate 2 ((try simp (etaStruct := .none) only [push_cast, DrawG, Int.cast_ofNat_Int, seval, getD_in _ _ _ hlt, celP]); (try (refine xsu ?_; try exact xtI))))
 ·(try replace h1 := xhh h1)
  obtain rfl : k = 4 := by omega
  have ht : (sidesC c).take 4 = sidesC c := rfl
  (iterate 2 ((try simp (etaStruct := .none) only [push_cast, DrawG, Int.cast_ofNat_Int, seval, ht]); (try (refine xsu ?_; try exact xtI))))
  (first | (refine retA rfl (Wk.of ?_); (try simp (etaStruct := .none) only [push_cast, DrawG, Int.cast_ofNat_Int, seval]); first | done | (simp [besideC, *]; done) | (simp_all [besideC]; done)) | (refine retA rfl ?_; (try simp (etaStruct := .none) only [push_cast, DrawG, Int.cast_ofNat_Int, seval]); (try simp [besideC, *]); (try exact wkc)))
theorem besideC_ok (f : Fld) {W H i : Nat} (hw : f.w = (W : Int)) (hh : f.h = (H : Int)) (hW : 0 < W) (hi : i < W * H) : (besideC f ⟨((i % W : Nat) : Int), ((i / W : Nat) : Int)⟩).map (idxN f) = besideN W H i ∧ ∀ n ∈ besideC f ⟨((i % W : Nat) : Int), ((i / W : Nat) : Int)⟩, inF f n = true := by
 refine ⟨?_, fun n hn => (List.mem_filter.1 hn).2⟩
 have h1 := Nat.div_add_mod i W
 have h2 := Nat.mod_lt i hW
 have h3 : i / W < H := by rw [Nat.div_lt_iff_lt_mul hW, Nat.mul_comm]; exact hi
 unfold besideC besideN sidesC
 generalize i % W = x at *
 generalize i / W = y at *
 have a1 : inF f ⟨(x : Int), (y : Int) - 1⟩ = decide (0 < y) := by
  rw [Bool.eq_iff_iff, inF_iff, decide_eq_true_eq, hw, hh]; simp only; omega
 have a2 : inF f ⟨(x : Int) - 1, (y : Int)⟩ = decide (0 < x) := by
  rw [Bool.eq_iff_iff, inF_iff, decide_eq_true_eq, hw, hh]; simp only; omega
 have a3 : inF f ⟨(x : Int) + 1, (y : Int)⟩ = decide (x + 1 < W) := by
  rw [Bool.eq_iff_iff, inF_iff, decide_eq_true_eq, hw, hh]; simp only; omega
 have a4 : inF f ⟨(x : Int), (y : Int) + 1⟩ = decide (y + 1 < H) := by
  rw [Bool.eq_iff_iff, inF_iff, decide_eq_true_eq, hw, hh]; simp only; omega
 have hyW : (y : Int) * (W : Int) = ((W * y : Nat) : Int) := by rw [Nat.mul_comm, Int.natCast_mul]
 have b1 : 0 < y → idxN f ⟨(x : Int), (y : Int) - 1⟩ = i - W := fun h => by
  unfold idxN; simp only; rw [hw, Int.sub_mul, hyW, Int.one_mul]
  have : W * 1 ≤ W * y := Nat.mul_le_mul_left _ h
  omega
 have b2 : 0 < x → idxN f ⟨(x : Int) - 1, (y : Int)⟩ = i - 1 := fun h => by
  unfold idxN; simp only; rw [hw, hyW]; omega
 have b3 : idxN f ⟨(x : Int) + 1, (y : Int)⟩ = i + 1 := by
  unfold idxN; simp only; rw [hw, hyW]; omega
 have b4 : idxN f ⟨(x : Int), (y : Int) + 1⟩ = i + W := by
  unfold idxN; simp only; rw [hw, Int.add_mul, hyW, Int.one_mul]; omega
 simp only [List.filter_cons, List.filter_nil, a1, a2, a3, a4, decide_eq_true_eq]
 by_cases c1 : 0 < y <;> by_cases c2 : 0 < x <;> by_cases c3 : x + 1 < W <;> by_cases c4 : y + 1 < H <;> simp only [c1, c2, c3, c4, if_true, if_false, List.map_cons, List.map_nil, b3, b4, List.nil_append, List.cons_append, List.append_nil] <;> (first | rw [b1 c1, b2 c2] | rw [b1 c1] | rw [b2 c2] | rfl)
theorem floods_s (f : Fld) (l : List Cel) (R : List Int) (hR : FloodIs f l R) (hf : f.p.length ≤ 9223372036854775807) (hl : l.length ≤ 9223372036854775807) : Spec Tryz.prog 100 [fldA f, .c (.sl 2 (l.map celP))] [] (.tup [.c (.sl 1 (R.map i64P)), I .i64 (floodE f l)]) [] := by
 refine spec_am Tryz.func100 rfl rfl mix 134 rfl [.tmp 4, .tmp 5] Tryz.results100 (Nat.le_of_ble_eq_true rfl) ?_
 (try (refine xst ?_; try exact xtI))
 refine caP (fright_s f hf) ?_
 (try (refine xst ?_; try exact xtI))
 refine cond_i (fun h1 => ?_) (fun h1 => ?_)
 ·(try replace h1 := xhh h1)
  have e : floodE f l = fldE f := by unfold floodE; rw [if_pos h1]
  have e2 : R = [] := hR.2.1 (by rw [e]; exact h1)
  (try (refine xst ?_; try exact xtI))
  (first | (refine retA rfl (Wk.of ?_); (try simp (etaStruct := .none) only [push_cast, DrawG, Int.cast_ofNat_Int, seval]); first | done | (simp [e, e2, *]; done) | (simp_all [e, e2]; done)) | (refine retA rfl ?_; (try simp (etaStruct := .none) only [push_cast, DrawG, Int.cast_ofNat_Int, seval]); (try simp [e, e2, *]); (try exact wkc)))
 ·(try replace h1 := xhh h1)
  obtain ⟨⟨w1, w2⟩, ⟨w3, w4⟩, wl, wp⟩ := fldE_ok h1
  obtain ⟨W, hW⟩ : ∃ W : Nat, f.w = (W : Int) := Int.eq_ofNat_of_zero_le (by omega)
  obtain ⟨H, hH⟩ : ∃ H : Nat, f.h = (H : Int) := Int.eq_ofNat_of_zero_le (by omega)
  have hWH : f.p.length = W * H := by rw [hW, hH] at wl; exact_mod_cast wl
  have hm : W * H ≤ 40 * 40 := Nat.mul_le_mul (by omega) (by omega)
  (try (refine xst ?_; try exact xtI))
  refine cond_i (fun h2 => ?_) (fun h2 => ?_)
  ·(try replace h2 := xhh h2)
   have e : floodE f l = 2 := by unfold floodE; rw [if_neg (by simpa using h1), if_pos (by omega)]
   have e2 : R = [] := hR.2.1 (by rw [e]; decide)
   (try (refine xst ?_; try exact xtI))
   (first | (refine retA rfl (Wk.of ?_); (try simp (etaStruct := .none) only [push_cast, DrawG, Int.cast_ofNat_Int, seval]); first | done | (simp [e, e2, *]; done) | (simp_all [e, e2]; done)) | (refine retA rfl ?_; (try simp (etaStruct := .none) only [push_cast, DrawG, Int.cast_ofNat_Int, seval]); (try simp [e, e2, *]); (try exact wkc)))
  ·(try replace h2 := xhh h2)
   have eF : floodE f l = srcE f l := by unfold floodE; rw [if_neg (by simpa using h1), if_neg (by omega)]
   (try (refine xst ?_; try exact xtI))
   refine loopI (fun k : Nat => ⟨[(31, I .i64 k), (30, I .i64 f.p.length), (7, .own 1), (2, .ptr 0 0 0), (1, .c (.sl 2 (l.map celP)))], [(0, .blk 24 (fldC f)), (1, .row 3 1 ((partL (fun _ => (-1 : Int)) k (List.replicate f.p.length 0)).map i64P))], 2⟩) (fun k : Nat => k ≤ f.p.length) (fun k : Nat => f.p.length - k) (0) (Nat.zero_le _) (To.mk [0, 1] rfl rfl (by decide) ?_ ?_) ?_
   ·simp (etaStruct := .none) only [push_cast, DrawG, Int.cast_ofNat_Int, seval, partL_0, List.map_replicate, List.length_replicate, i64P]
   ·simp (etaStruct := .none) only [push_cast, DrawG, Int.cast_ofNat_Int, seval, List.length_replicate]
   rintro k hk
   have hpl := partL_len (fun _ => (-1 : Int)) k (List.replicate f.p.length 0)
   rw [List.length_replicate] at hpl
   (try (refine xst ?_; try exact xtI))
   refine cond_i (fun h3 => ?_) (fun h3 => ?_)
   ·(try replace h3 := xhh h3)
    have hlt : k < f.p.length := by omega
    have hs := partL_succ (fun _ => (-1 : Int)) k (List.replicate f.p.length 0) (by rw [List.length_replicate]; exact hlt)
    (try (refine xst ?_; try exact xtI))
    refine ⟨k + 1, by omega, by omega, To.mk [0, 1] rfl rfl (by decide) ?_ ?_⟩
    ·(iterate 2 ((try simp (etaStruct := .none) only [push_cast, DrawG, Int.cast_ofNat_Int, seval, hs, List.map_set, i64P]); (try (refine xsu ?_; try exact xtI))))
    ·(try (refine xst ?_; try exact xtI))
   ·(try replace h3 := xhh h3)
    obtain rfl : k = f.p.length := by omega
    have hall := partL_all (fun _ => (-1 : Int)) (List.replicate f.p.length 0)
    rw [List.length_replicate, List.map_replicate] at hall
    (try (refine xst ?_; try exact xtI))
    refine loopI (fun x : Nat × List Int => ⟨[(40, I .i64 x.1), (39, I .i64 l.length), (38, .c (.sl 2 (l.map celP))), (7, .own 1), (2, .ptr 0 0 0)], [(0, .blk 24 (fldC f)), (1, .row 3 1 (x.2.map i64P))], 2⟩) (fun x : Nat × List Int => x.1 ≤ l.length ∧ x.2.length = f.p.length ∧ (∀ p, p < f.p.length → (p ∈ (l.take x.1).map (idxN f) ∧ x.2.getD p default = 0) ∨ (p ∉ (l.take x.1).map (idxN f) ∧ x.2.getD p default = -1)) ∧ ∀ j, j < x.1 → inF f (l.getD j default) = true ∧ placeV f (l.getD j default) ≠ 1) (fun x : Nat × List Int => l.length - x.1) ((0, List.replicate f.p.length (-1))) (⟨Nat.zero_le _, by simp, fun p hp => .inr ⟨by simp, getD_rep _ _ hp⟩, fun j h => absurd h (Nat.not_lt_zero _)⟩) (To.mk [0, 1] rfl rfl (by decide) ?_ ?_) ?_
    ·simp (etaStruct := .none) only [push_cast, DrawG, Int.cast_ofNat_Int, seval, hall]
    ·simp (etaStruct := .none) only [push_cast, DrawG, Int.cast_ofNat_Int, seval]
    rintro ⟨k, far⟩ ⟨hk, hfl, hfar, hgood⟩
    simp only at hk hfl hfar hgood
    (try (refine xst ?_; try exact xtI))
    refine cond_i (fun h4 => ?_) (fun h4 => ?_)
    ·(try replace h4 := xhh h4)
     have hlt : k < l.length := by omega
     (iterate 2 ((try simp (etaStruct := .none) only [push_cast, DrawG, Int.cast_ofNat_Int, seval, getD_in _ _ _ hlt, celP]); (try (refine xsu ?_; try exact xtI))))
     refine caP (in_s' f (l.getD k default) h1) ?_
     (iterate 2 ((try simp (etaStruct := .none) only [push_cast, DrawG, Int.cast_ofNat_Int, seval, getD_in _ _ _ hlt, celP]); (try (refine xsu ?_; try exact xtI))))
     refine cond_i (fun h5 => ?_) (fun h5 => ?_)
     ·(try replace h5 := xhh h5)
      have e : floodE f l = 7 := by rw [eF, srcE_bad k hlt hgood (fun h => by rw [h5] at h; exact absurd h.1 (by decide)), if_neg (by rw [h5]; decide)]
      have e2 : R = [] := hR.2.1 (by rw [e]; decide)
      (iterate 2 ((try simp (etaStruct := .none) only [push_cast, DrawG, Int.cast_ofNat_Int, seval, getD_in _ _ _ hlt, celP]); (try (refine xsu ?_; try exact xtI))))
      (first | (refine retA rfl (Wk.of ?_); (try simp (etaStruct := .none) only [push_cast, DrawG, Int.cast_ofNat_Int, seval]); first | done | (simp [e, e2, *]; done) | (simp_all [e, e2]; done)) | (refine retA rfl ?_; (try simp (etaStruct := .none) only [push_cast, DrawG, Int.cast_ofNat_Int, seval]); (try simp [e, e2, *]); (try exact wkc)))
     ·(try replace h5 := xhh h5)
      obtain ⟨i1, i2, i3, i4, i5⟩ := place_ix h1 h5
      (iterate 2 ((try simp (etaStruct := .none) only [push_cast, DrawG, Int.cast_ofNat_Int, seval, getD_in _ _ _ hlt, celP]); (try (refine xsu ?_; try exact xtI))))
      refine caP (place_s f (l.getD k default) h1 h5) ?_
      (iterate 2 ((try simp (etaStruct := .none) only [push_cast, DrawG, Int.cast_ofNat_Int, seval, getD_in _ _ _ hlt, celP]); (try (refine xsu ?_; try exact xtI))))
      refine cond_i (fun h6 => ?_) (fun h6 => ?_)
      ·(try replace h6 := xhh h6)
       have e : floodE f l = 9 := by rw [eF, srcE_bad k hlt hgood (fun h => h.2 h6), if_pos h5]
       have e2 : R = [] := hR.2.1 (by rw [e]; decide)
       (iterate 2 ((try simp (etaStruct := .none) only [push_cast, DrawG, Int.cast_ofNat_Int, seval, getD_in _ _ _ hlt, celP]); (try (refine xsu ?_; try exact xtI))))
       (first | (refine retA rfl (Wk.of ?_); (try simp (etaStruct := .none) only [push_cast, DrawG, Int.cast_ofNat_Int, seval]); first | done | (simp [e, e2, *]; done) | (simp_all [e, e2]; done)) | (refine retA rfl ?_; (try simp (etaStruct := .none) only [push_cast, DrawG, Int.cast_ofNat_Int, seval]); (try simp [e, e2, *]); (try exact wkc)))
      ·(try replace h6 := xhh h6)
       obtain ⟨m, hm2⟩ : ∃ m, m = idxN f (l.getD k default) := ⟨_, rfl⟩
       have hmi : (l.getD k default).y * f.w + (l.getD k default).x = (m : Int) := by rw [hm2]; unfold idxN; omega
       have ew1 : IntKind.i64.wrap (IntKind.i64.wrap ((l.getD k default).y * f.w) + (l.getD k default).x) = (m : Int) := by rw [wrap_in ((l.getD k default).y * f.w) (by omega) (by omega), wrap_in _ (by omega) (by omega)]; exact hmi
       have hml : m < far.length := by omega
       (iterate 2 ((try simp (etaStruct := .none) only [push_cast, DrawG, Int.cast_ofNat_Int, seval, getD_in _ _ _ hlt, celP, ew1, getD_in _ _ _ hml, List.length_map]); (try (refine xsu ?_; try exact xtI))))
       refine ⟨(k + 1, far.set m 0), ⟨by simp only; omega, by simp only [List.length_set]; exact hfl, fun p hp => by
 simp only
 rw [take_snoc _ _ hlt, List.map_append, List.map_cons, List.map_nil, ← hm2, set_get _ _ hml, List.mem_append, List.mem_singleton]
 by_cases e : p = m
 ·rw [if_pos e]; exact .inl ⟨.inr e, rfl⟩
 ·rw [if_neg e]
  rcases hfar p hp with h | h
  ·exact .inl ⟨.inl h.1, h.2⟩
  ·exact .inr ⟨fun h' => by rcases h' with h' | h'; exact h.1 h'; exact e h', h.2⟩, fun j hj => by
 simp only at hj
 rcases Nat.lt_or_ge j k with h | h
 ·exact hgood j h
 ·rw [show j = k by omega]; exact ⟨h5, h6⟩⟩, by simp only; omega, To.mk [0, 1] rfl rfl (by decide) ?_ ?_⟩
       ·(iterate 2 ((try simp (etaStruct := .none) only [push_cast, DrawG, Int.cast_ofNat_Int, seval, List.map_set, i64P]); (try (refine xsu ?_; try exact xtI))))
       ·(iterate 2 ((try simp (etaStruct := .none) only [push_cast, DrawG, Int.cast_ofNat_Int, seval, getD_in _ _ _ hlt, celP, ew1, getD_in _ _ _ hml, List.length_map]); (try (refine xsu ?_; try exact xtI))))
    ·(try replace h4 := xhh h4)
     obtain rfl : k = l.length := by omega
     rw [List.take_length] at hfar
     have e : floodE f l = 0 := by rw [eF]; exact srcE_ok hgood
     have hst : Bf W f.p (l.map (idxN f)) far := by
      refine ⟨hfl, fun p hp => ?_, fun p hp => ?_, fun p hp h0 => ?_, fun p hp => ?_⟩
      ·rcases hfar p hp with h | h <;> rw [h.2] <;> omega
      ·obtain ⟨c, hc, rfl⟩ := List.mem_map.1 hp
       obtain ⟨j, hj, rfl⟩ := mem_getD.1 hc
       have := place_ix h1 (hgood j hj).1
       rcases hfar (idxN f (l.getD j default)) (by unfold idxN; omega) with h | h
       ·exact h.2
       ·exact absurd hp h.1
      ·rcases hfar p hp with h | h
       ·exact .inl h
       ·rw [h.2] at h0; omega
      ·rcases hfar p hp with h | h <;> rw [h.2] <;> omega
     (try (refine xst ?_; try exact xtI))
     refine loopI (fun x : List Int × Bool => ⟨[(11, B x.2), (7, .own 1), (2, .ptr 0 0 0)], [(0, .blk 24 (fldC f)), (1, .row 3 1 (x.1.map i64P))], 2⟩) (fun x : List Int × Bool => Bf W f.p (l.map (idxN f)) x.1 ∧ (x.2 = false → ∀ i n, i < f.p.length → n < f.p.length → Adj W i n → fine f.p x.1 i n)) (fun x : List Int × Bool => 2 * sumL big0 x.1 + (if x.2 then 1 else 0)) ((far, true)) (⟨hst, fun h => by simp at h⟩) (To.mk [0, 1] rfl rfl (by decide) ?_ ?_) ?_
     ·simp (etaStruct := .none) only [push_cast, DrawG, Int.cast_ofNat_Int, seval]
     ·simp (etaStruct := .none) only [push_cast, DrawG, Int.cast_ofNat_Int, seval]
     rintro ⟨far0, b0⟩ ⟨hB, hfine⟩
     simp only at hB hfine
     have hfl0 := hB.len
     (try (refine xst ?_; try exact xtI))
     refine cond_i (fun h7 => ?_) (fun h7 => ?_)
     ·(try replace h7 := xhh h7)
      (try (refine xst ?_; try exact xtI))
      refine loopI (fun x : Nat × List Int × Bool => ⟨[(66, I .i64 x.1), (65, I .i64 f.p.length), (11, B x.2.2), (7, .own 1), (2, .ptr 0 0 0)], [(0, .blk 24 (fldC f)), (1, .row 3 1 (x.2.1.map i64P))], 2⟩) (fun x : Nat × List Int × Bool => x.1 ≤ f.p.length ∧ Bf W f.p (l.map (idxN f)) x.2.1 ∧ ((x.2.2 = false ∧ x.2.1 = far0 ∧ ∀ i n, i < x.1 → n < f.p.length → Adj W i n → fine f.p x.2.1 i n) ∨ (x.2.2 = true ∧ sumL big0 x.2.1 < sumL big0 far0))) (fun x : Nat × List Int × Bool => f.p.length - x.1) ((0, far0, false)) (⟨Nat.zero_le _, hB, .inl ⟨rfl, rfl, fun i n h => absurd h (Nat.not_lt_zero _)⟩⟩) (To.mk [0, 1] rfl rfl (by decide) ?_ ?_) ?_
      ·simp (etaStruct := .none) only [push_cast, DrawG, Int.cast_ofNat_Int, seval]
      ·simp (etaStruct := .none) only [push_cast, DrawG, Int.cast_ofNat_Int, seval, hfl0]
      rintro ⟨i, far1, b1⟩ ⟨hi, hB1, hsw⟩
      simp only at hi hB1 hsw
      (try (refine xst ?_; try exact xtI))
      refine cond_i (fun h8 => ?_) (fun h8 => ?_)
      ·(try replace h8 := xhh h8)
       have hil : i < f.p.length := by omega
       have hpr := wp _ (getD_mem f.p i hil)
       obtain ⟨cst, hcst⟩ : ∃ cst : Int, cst = if f.p.getD i default = 1 then -1 else kV (f.p.getD i default) := ⟨_, rfl⟩
       have hkv := kV_b (f.p.getD i default)
       have hcb : (f.p.getD i default = 1 ∧ cst = -1) ∨ (f.p.getD i default ≠ 1 ∧ cst = kV (f.p.getD i default)) := by
        by_cases h : f.p.getD i default = 1
        ·exact .inl ⟨h, by rw [hcst, if_pos h]⟩
        ·exact .inr ⟨h, by rw [hcst, if_neg h]⟩
       obtain ⟨bm, bi⟩ := besideC_ok f hW hH (by omega) (show i < W * H by omega)
       have bl : (besideC f ⟨((i % W : Nat) : Int), ((i / W : Nat) : Int)⟩).length = (besideN W H i).length := by rw [← bm, List.length_map]
       have hx1 := Nat.mod_lt i (show 0 < W by omega)
       have hy1 : i / W ≤ i := Nat.div_le_self _ _
       have ex : (i : Int).tmod f.w = ((i % W : Nat) : Int) := by rw [hW, Int.tmod_eq_emod_of_nonneg (by omega)]; rfl
       have ey : IntKind.i64.wrap ((i : Int).tdiv f.w) = ((i / W : Nat) : Int) := by rw [hW, Int.tdiv_eq_ediv_of_nonneg (by omega)]; change IntKind.i64.wrap ((i / W : Nat) : Int) = _; exact wrap_in _ (by have := Int.natCast_nonneg (i / W); omega) (by omega)
       obtain ⟨cx, hcx⟩ : ∃ cx : Nat, cx = i % W := ⟨_, rfl⟩
       obtain ⟨cy, hcy⟩ : ∃ cy : Nat, cy = i / W := ⟨_, rfl⟩
       rw [← hcx] at ex hx1
       rw [← hcy] at ey hy1
       rw [← hcx, ← hcy] at bm bi bl
       have hbl := besideN_len W H i
       (iterate 2 ((try simp (etaStruct := .none) only [push_cast, DrawG, Int.cast_ofNat_Int, seval, ← hcst, ex, ey, getD_in _ _ _ hil, i64P]); (try (refine xsu ?_; try exact xtI))))
       refine caP (costOf_s (f.p.getD i default) hpr) ?_
       (iterate 2 ((try simp (etaStruct := .none) only [push_cast, DrawG, Int.cast_ofNat_Int, seval, ← hcst, ex, ey, getD_in _ _ _ hil, i64P]); (try (refine xsu ?_; try exact xtI))))
       refine caP (besides_s f ⟨(cx : Int), (cy : Int)⟩ h1 (by simp only; omega) (by simp only; omega)) ?_
       (iterate 2 ((try simp (etaStruct := .none) only [push_cast, DrawG, Int.cast_ofNat_Int, seval, ← hcst, ex, ey, getD_in _ _ _ hil, i64P]); (try (refine xsu ?_; try exact xtI))))
       (try (refine ⟨by kernel_rfl, ?_⟩))
       (iterate 2 ((try simp (etaStruct := .none) only [push_cast, DrawG, Int.cast_ofNat_Int, seval, ← hcst, ex, ey, getD_in _ _ _ hil, i64P]); (try (refine xsu ?_; try exact xtI))))
       refine loopI (fun x : Nat × List Int × Bool => ⟨[(87, I .i64 x.1), (86, I .i64 (besideC f ⟨(cx : Int), (cy : Int)⟩).length), (85, .c (.sl 2 ((besideC f ⟨(cx : Int), (cy : Int)⟩).map celP))), (66, I .i64 i), (65, I .i64 f.p.length), (13, I .i64 cst), (12, I .i64 i), (11, B x.2.2), (7, .own 1), (2, .ptr 0 0 0)], [(0, .blk 24 (fldC f)), (1, .row 3 1 (x.2.1.map i64P))], 2⟩) (fun x : Nat × List Int × Bool => x.1 ≤ (besideN W H i).length ∧ Bf W f.p (l.map (idxN f)) x.2.1 ∧ ((x.2.2 = false ∧ x.2.1 = far0 ∧ (∀ i' n, i' < i → n < f.p.length → Adj W i' n → fine f.p x.2.1 i' n) ∧ ∀ n ∈ (besideN W H i).take x.1, fine f.p x.2.1 i n) ∨ (x.2.2 = true ∧ sumL big0 x.2.1 < sumL big0 far0))) (fun x : Nat × List Int × Bool => (besideN W H i).length - x.1) ((0, far1, b1)) (⟨Nat.zero_le _, hB1, by
 rcases hsw with h | h
 ·exact .inl ⟨h.1, h.2.1, h.2.2, fun n hn => by simp at hn⟩
 ·exact .inr h⟩) (To.mk [0, 1] rfl rfl (by decide) ?_ ?_) ?_
       ·simp (etaStruct := .none) only [push_cast, DrawG, Int.cast_ofNat_Int, seval]
       ·simp (etaStruct := .none) only [push_cast, DrawG, Int.cast_ofNat_Int, seval]
       rintro ⟨k, far2, b2⟩ ⟨hk2, hB2, hsw2⟩
       simp only at hk2 hB2 hsw2
       have hfl2 := hB2.len
       (iterate 2 ((try simp (etaStruct := .none) only [push_cast, DrawG, Int.cast_ofNat_Int, seval, ← hcst, ex, ey, getD_in _ _ _ hil, i64P]); (try (refine xsu ?_; try exact xtI))))
       refine cond_i (fun h9 => ?_) (fun h9 => ?_)
       ·(try replace h9 := xhh h9)
        have hlt2 : k < (besideN W H i).length := by omega
        have hlt3 : k < (besideC f ⟨(cx : Int), (cy : Int)⟩).length := by omega
        obtain ⟨n, hn⟩ : ∃ n, n = (besideN W H i).getD k default := ⟨_, rfl⟩
        obtain ⟨c, hc⟩ : ∃ c, c = (besideC f ⟨(cx : Int), (cy : Int)⟩).getD k default := ⟨_, rfl⟩
        have hcn : idxN f c = n := by
         rw [hc, hn, ← bm, getD_at _ _ hlt3, getD_at _ _ (by rw [List.length_map]; exact hlt3), List.getElem_map]
        have hcin := bi c (by rw [hc]; exact getD_mem _ _ hlt3)
        obtain ⟨i1, i2, i3, i4, i5⟩ := place_ix h1 hcin
        have hnm := (mem_beside (W := W) (H := H) (p := i) (n := n) (by omega) (by omega)).1 (by rw [hn]; exact getD_mem _ _ hlt2)
        have hnp : n < f.p.length := by omega
        have hnf : n < far2.length := by omega
        have hif : i < far2.length := by omega
        have hmi : c.y * f.w + c.x = (n : Int) := by rw [← hcn]; unfold idxN; omega
        have ew1 : IntKind.i64.wrap (IntKind.i64.wrap (c.y * f.w) + c.x) = (n : Int) := by rw [wrap_in (c.y * f.w) (by omega) (by omega), wrap_in _ (by omega) (by omega)]; exact hmi
        have htop := hB2.top n hnp
        have hlow := hB2.low n hnp
        have hcl := sumL_le one0 1 one0_le far2
        have hne : i ≠ n := Adj.ne (by omega) hnm.2
        rw [hfl2] at hcl
        have ew2 : IntKind.i64.wrap (far2.getD n default + cst) = far2.getD n default + cst := wrap_in _ (by omega) (by omega)
        (iterate 2 ((try simp (etaStruct := .none) only [push_cast, DrawG, Int.cast_ofNat_Int, seval, ← hcst, ex, ey, getD_in _ _ _ hil, i64P, getD_in _ _ _ hlt3, ← hc, celP, ew1, ew2, getD_in _ _ _ hnf, getD_in _ _ _ hif, List.length_map]); (try (refine xsu ?_; try exact xtI))))
        refine cond_i (fun h10 => ?_) (fun h10 => ?_)
        ·(try replace h10 := xhh h10)
         have hnfine : ¬ fine f.p far2 i n := by
          unfold fine
          rintro (h | h | h)
          ·omega
          ·omega
          ·rcases hcb with g | g
           ·omega
           ·omega
         have hbt := hB2.better (by omega) hil hnp hnm.2 hne hnfine
         have hce : cst = kV (f.p.getD i default) := by rcases hcb with g | g; omega; exact g.2
         rw [← hce] at hbt
         (iterate 2 ((try simp (etaStruct := .none) only [push_cast, DrawG, Int.cast_ofNat_Int, seval, ← hcst, ex, ey, getD_in _ _ _ hil, i64P, getD_in _ _ _ hlt3, ← hc, celP, ew1, ew2, getD_in _ _ _ hnf, getD_in _ _ _ hif, List.length_map]); (try (refine xsu ?_; try exact xtI))))
         refine ⟨(k + 1, far2.set i (far2.getD n default + cst), true), ⟨by simp only; omega, hbt.1, .inr ⟨rfl, by
 simp only
 rcases hsw2 with h | h
 ·rw [← h.2.1]; exact hbt.2
 ·exact Nat.lt_trans hbt.2 h.2⟩⟩, by simp only; omega, To.mk [0, 1] rfl rfl (by decide) ?_ ?_⟩
         ·(iterate 2 ((try simp (etaStruct := .none) only [push_cast, DrawG, Int.cast_ofNat_Int, seval, List.map_set, i64P]); (try (refine xsu ?_; try exact xtI))))
         ·(iterate 2 ((try simp (etaStruct := .none) only [push_cast, DrawG, Int.cast_ofNat_Int, seval, ← hcst, ex, ey, getD_in _ _ _ hil, i64P, getD_in _ _ _ hlt3, ← hc, celP, ew1, ew2, getD_in _ _ _ hnf, getD_in _ _ _ hif, List.length_map]); (try (refine xsu ?_; try exact xtI))))
        ·(try replace h10 := xhh h10)
         have hfn : fine f.p far2 i n := by
          unfold fine
          rcases hcb with g | g
          ·exact .inl g.1
          ·by_cases h0 : far2.getD n default < 0
           ·exact .inr (.inl h0)
           ·refine .inr (.inr ?_)
            rcases h10 with h | h
            ·omega
            ·omega
         (iterate 2 ((try simp (etaStruct := .none) only [push_cast, DrawG, Int.cast_ofNat_Int, seval, ← hcst, ex, ey, getD_in _ _ _ hil, i64P, getD_in _ _ _ hlt3, ← hc, celP, ew1, ew2, getD_in _ _ _ hnf, getD_in _ _ _ hif, List.length_map]); (try (refine xsu ?_; try exact xtI))))
         refine ⟨(k + 1, far2, b2), ⟨by simp only; omega, hB2, by
 simp only
 rcases hsw2 with h | h
 ·refine .inl ⟨h.1, h.2.1, h.2.2.1, fun m hm => ?_⟩
  rw [take_snoc _ _ hlt2, ← hn, List.mem_append, List.mem_singleton] at hm
  rcases hm with hm | rfl
  ·exact h.2.2.2 m hm
  ·exact hfn
 ·exact .inr h⟩, by simp only; omega, To.mk [0, 1] rfl rfl (by decide) ?_ ?_⟩
         ·(iterate 2 ((try simp (etaStruct := .none) only [push_cast, DrawG, Int.cast_ofNat_Int, seval, ← hcst, ex, ey, getD_in _ _ _ hil, i64P, getD_in _ _ _ hlt3, ← hc, celP, ew1, ew2, getD_in _ _ _ hnf, getD_in _ _ _ hif, List.length_map]); (try (refine xsu ?_; try exact xtI))))
         ·(iterate 2 ((try simp (etaStruct := .none) only [push_cast, DrawG, Int.cast_ofNat_Int, seval, ← hcst, ex, ey, getD_in _ _ _ hil, i64P, getD_in _ _ _ hlt3, ← hc, celP, ew1, ew2, getD_in _ _ _ hnf, getD_in _ _ _ hif, List.length_map]); (try (refine xsu ?_; try exact xtI))))
       ·(try replace h9 := xhh h9)
        obtain rfl : k = (besideN W H i).length := by omega
        (iterate 2 ((try simp (etaStruct := .none) only [push_cast, DrawG, Int.cast_ofNat_Int, seval, ← hcst, ex, ey, getD_in _ _ _ hil, i64P]); (try (refine xsu ?_; try exact xtI))))
        refine ⟨(i + 1, far2, b2), ⟨by simp only; omega, hB2, by
 simp only
 rcases hsw2 with h | h
 ·refine .inl ⟨h.1, h.2.1, fun i' m h1' h2' h3' => ?_⟩
  rcases Nat.lt_or_ge i' i with g | g
  ·exact h.2.2.1 i' m g h2' h3'
  ·obtain rfl : i' = i := by omega
   refine h.2.2.2 m ?_
   rw [List.take_length]
   exact (mem_beside (by omega) (by omega)).2 ⟨by omega, h3'⟩
 ·exact .inr h⟩, by simp only; omega, To.mk [0, 1] rfl rfl (by decide) ?_ ?_⟩
        ·(iterate 2 ((try simp (etaStruct := .none) only [push_cast, DrawG, Int.cast_ofNat_Int, seval, ← hcst, ex, ey, getD_in _ _ _ hil, i64P]); (try (refine xsu ?_; try exact xtI))))
        ·(iterate 2 ((try simp (etaStruct := .none) only [push_cast, DrawG, Int.cast_ofNat_Int, seval, ← hcst, ex, ey, getD_in _ _ _ hil, i64P]); (try (refine xsu ?_; try exact xtI))))
      ·(try replace h8 := xhh h8)
       obtain rfl : i = f.p.length := by omega
       (try (refine xst ?_; try exact xtI))
       refine ⟨(far1, b1), ⟨hB1, fun hb => by
 rcases hsw with h | h
 ·exact fun i n q1 q2 q3 => h.2.2 i n q1 q2 q3
 ·simp only at hb; rw [h.1] at hb; simp at hb⟩, by
 simp only
 rcases hsw with h | h
 ·rw [h.1, h.2.1, h7]; simp
 ·rw [h.1, h7]; simp; omega, To.mk [0, 1] rfl rfl (by decide) ?_ ?_⟩
       ·(try (refine xst ?_; try exact xtI))
       ·(try (refine xst ?_; try exact xtI))
     ·(try replace h7 := xhh h7)
      have e2 : R = far0 := hR.1 e far0 (by rw [hW, Int.toNat_natCast]; exact hB.flood (hfine h7))
      (try (refine xst ?_; try exact xtI))
      (first | (refine retA rfl (Wk.of ?_); (try simp (etaStruct := .none) only [push_cast, DrawG, Int.cast_ofNat_Int, seval]); first | done | (simp [e, e2, *]; done) | (simp_all [e, e2]; done)) | (refine retA rfl ?_; (try simp (etaStruct := .none) only [push_cast, DrawG, Int.cast_ofNat_Int, seval]); (try simp [e, e2, *]); (try exact wkc)))
end Go.Proofs.YthiddmncjafklaaGreat
namespace Go.Proofs.YthiddmncjafklaaGreat
set_option linter.all false
open Go.RowKit
set_option maxRecDepth 100000
theorem cel_dec (a b : Cel) : (decide (a.x = b.x) && decide (a.y = b.y)) = decide (a = b) := by
 rw [Bool.eq_iff_iff]; cases a; cases b; simp
theorem cel_eq (l m : List Cel) (hl : l.length ≤ 9223372036854775807) (hm : m.length ≤ 9223372036854775807) : Spec Tryz.prog 36 [.c (.sl 2 (l.map celP)), .c (.sl 2 (m.map celP))] [] (B (decide (l = m))) [] := by
 refine spec_am Tryz.func36 rfl rfl mix 26 rfl [.tmp 4] Tryz.results36 (Nat.le_of_ble_eq_true rfl) ?_
 (try (refine xst ?_; try exact xtI))
 refine cond_i (fun h1 => ?_) (fun h1 => ?_)
 ·(try replace h1 := xhh h1)
  have e : l ≠ m := by intro e; subst e; simp at h1
  (try (refine xst ?_; try exact xtI))
  exact ret0 rfl trivial (Wk.of (by rw [decide_eq_false e]; rfl))
 ·(try replace h1 := xhh h1)
  (try (refine xst ?_; try exact xtI))
  refine loopI (fun k : Nat => ⟨[(13, I .i64 k), (12, I .i64 l.length), (1, .c (.sl 2 (m.map celP))), (0, .c (.sl 2 (l.map celP)))], [], 0⟩) (fun k : Nat => k ≤ l.length ∧ ∀ j, j < k → l.getD j default = m.getD j default) (fun k : Nat => l.length - k) (0) (⟨Nat.zero_le _, fun j h => by omega⟩) (To.mk [] rfl rfl List.nodup_nil trivial ?_) ?_
  ·simp (etaStruct := .none) only [push_cast, DrawG, Int.cast_ofNat_Int, seval]
  rintro k ⟨hk, hn⟩
  (try (refine xst ?_; try exact xtI))
  refine cond_i (fun h2 => ?_) (fun h2 => ?_)
  ·(try replace h2 := xhh h2)
   have hlt : k < l.length := by omega
   have hlt2 : k < m.length := by omega
   (iterate 2 ((try simp (etaStruct := .none) only [push_cast, DrawG, Int.cast_ofNat_Int, seval, getD_in _ _ _ hlt, getD_in _ _ _ hlt2, celP, cel_dec]); (try (refine xsu ?_; try exact xtI))))
   (try (refine ⟨by kernel_rfl, ?_⟩))
   (iterate 2 ((try simp (etaStruct := .none) only [push_cast, DrawG, Int.cast_ofNat_Int, seval, getD_in _ _ _ hlt, getD_in _ _ _ hlt2, celP, cel_dec]); (try (refine xsu ?_; try exact xtI))))
   refine cond_i (fun h3 => ?_) (fun h3 => ?_)
   ·(try replace h3 := xhh h3)
    have e : l ≠ m := by intro e; subst e; simp at h3
    (iterate 2 ((try simp (etaStruct := .none) only [push_cast, DrawG, Int.cast_ofNat_Int, seval, getD_in _ _ _ hlt, getD_in _ _ _ hlt2, celP, cel_dec]); (try (refine xsu ?_; try exact xtI))))
    exact ret0 rfl trivial (Wk.of (by rw [decide_eq_false e]; rfl))
   ·(try replace h3 := xhh h3)
    (iterate 2 ((try simp (etaStruct := .none) only [push_cast, DrawG, Int.cast_ofNat_Int, seval, getD_in _ _ _ hlt, getD_in _ _ _ hlt2, celP, cel_dec]); (try (refine xsu ?_; try exact xtI))))
    refine ⟨k + 1, ⟨by omega, fun j hj => by rcases Nat.lt_or_ge j k with h | h; exact hn j h; rw [show j = k by omega]; simpa using h3⟩, by omega, To.mk [] rfl rfl List.nodup_nil trivial ?_⟩
    ·(iterate 2 ((try simp (etaStruct := .none) only [push_cast, DrawG, Int.cast_ofNat_Int, seval, getD_in _ _ _ hlt, getD_in _ _ _ hlt2, celP, cel_dec]); (try (refine xsu ?_; try exact xtI))))
  ·(try replace h2 := xhh h2)
   have e : l = m := by
    refine List.ext_getElem (by omega) fun i i1 i2 => ?_
    have := hn i (by omega)
    rwa [getD_at _ _ i1, getD_at _ _ i2] at this
   (try (refine xst ?_; try exact xtI))
   exact ret0 rfl trivial (Wk.of (by rw [decide_eq_true e]; rfl))
theorem int_eq (l m : List Int) (hl : l.length ≤ 9223372036854775807) (hm : m.length ≤ 9223372036854775807) : Spec Tryz.prog 37 [.c (.sl 1 (l.map i64P)), .c (.sl 1 (m.map i64P))] [] (B (decide (l = m))) [] := by
 refine spec_am Tryz.func37 rfl rfl mix 26 rfl [.tmp 4] Tryz.results37 (Nat.le_of_ble_eq_true rfl) ?_
 (try (refine xst ?_; try exact xtI))
 refine cond_i (fun h1 => ?_) (fun h1 => ?_)
 ·(try replace h1 := xhh h1)
  have e : l ≠ m := by intro e; subst e; simp at h1
  (try (refine xst ?_; try exact xtI))
  exact ret0 rfl trivial (Wk.of (by rw [decide_eq_false e]; rfl))
 ·(try replace h1 := xhh h1)
  (try (refine xst ?_; try exact xtI))
  refine loopI (fun k : Nat => ⟨[(13, I .i64 k), (12, I .i64 l.length), (1, .c (.sl 1 (m.map i64P))), (0, .c (.sl 1 (l.map i64P)))], [], 0⟩) (fun k : Nat => k ≤ l.length ∧ ∀ j, j < k → l.getD j default = m.getD j default) (fun k : Nat => l.length - k) (0) (⟨Nat.zero_le _, fun j h => by omega⟩) (To.mk [] rfl rfl List.nodup_nil trivial ?_) ?_
  ·simp (etaStruct := .none) only [push_cast, DrawG, Int.cast_ofNat_Int, seval]
  rintro k ⟨hk, hn⟩
  (try (refine xst ?_; try exact xtI))
  refine cond_i (fun h2 => ?_) (fun h2 => ?_)
  ·(try replace h2 := xhh h2)
   have hlt : k < l.length := by omega
   have hlt2 : k < m.length := by omega
   (iterate 2 ((try simp (etaStruct := .none) only [push_cast, DrawG, Int.cast_ofNat_Int, seval, getD_in _ _ _ hlt, getD_in _ _ _ hlt2, i64P, decide_not]); (try (refine xsu ?_; try exact xtI))))
   (try (refine ⟨by kernel_rfl, ?_⟩))
   (iterate 2 ((try simp (etaStruct := .none) only [push_cast, DrawG, Int.cast_ofNat_Int, seval, getD_in _ _ _ hlt, getD_in _ _ _ hlt2, i64P, decide_not]); (try (refine xsu ?_; try exact xtI))))
   refine cond_i (fun h3 => ?_) (fun h3 => ?_)
   ·(try replace h3 := xhh h3)
    have e : l ≠ m := by intro e; subst e; simp at h3
    (iterate 2 ((try simp (etaStruct := .none) only [push_cast, DrawG, Int.cast_ofNat_Int, seval, getD_in _ _ _ hlt, getD_in _ _ _ hlt2, i64P, decide_not]); (try (refine xsu ?_; try exact xtI))))
    exact ret0 rfl trivial (Wk.of (by rw [decide_eq_false e]; rfl))
   ·(try replace h3 := xhh h3)
    (iterate 2 ((try simp (etaStruct := .none) only [push_cast, DrawG, Int.cast_ofNat_Int, seval, getD_in _ _ _ hlt, getD_in _ _ _ hlt2, i64P, decide_not]); (try (refine xsu ?_; try exact xtI))))
    refine ⟨k + 1, ⟨by omega, fun j hj => by rcases Nat.lt_or_ge j k with h | h; exact hn j h; rw [show j = k by omega]; simpa using h3⟩, by omega, To.mk [] rfl rfl List.nodup_nil trivial ?_⟩
    ·(iterate 2 ((try simp (etaStruct := .none) only [push_cast, DrawG, Int.cast_ofNat_Int, seval, getD_in _ _ _ hlt, getD_in _ _ _ hlt2, i64P, decide_not]); (try (refine xsu ?_; try exact xtI))))
  ·(try replace h2 := xhh h2)
   have e : l = m := by
    refine List.ext_getElem (by omega) fun i i1 i2 => ?_
    have := hn i (by omega)
    rwa [getD_at _ _ i1, getD_at _ _ i2] at this
   (try (refine xst ?_; try exact xtI))
   exact ret0 rfl trivial (Wk.of (by rw [decide_eq_true e]; rfl))
end Go.Proofs.YthiddmncjafklaaGreat
namespace Go.Proofs.YthiddmncjafklaaGreat
set_option linter.all false
open Go.RowKit
set_option maxRecDepth 100000
set_option maxHeartbeats 1000000
def groundV (f : Fld) (c : Cel) : Bool := inF f c && !decide (placeV f c = 1)
theorem ground_s (f : Fld) (c : Cel) (h : fldE f = 0) : Spec Tryz.prog 49 [fldA f, celA c] [] (B (groundV f c)) [] := by
 have hk := fldE_ok h
 refine spec_am Tryz.func49 rfl rfl mix 14 rfl [.tmp 4] Tryz.results49 (Nat.le_of_ble_eq_true rfl) ?_
 (try (refine xst ?_; try exact xtI))
 refine caP (in_s f c (by omega) (by omega)) ?_
 (try (refine xst ?_; try exact xtI))
 refine gcP (fun hcc => place_s f c h hcc) ?_
 (try (refine xst ?_; try exact xtI))
 (first | (refine retA rfl (Wk.of ?_); (try simp (etaStruct := .none) only [push_cast, DrawG, Int.cast_ofNat_Int, seval]); first | done | (simp [groundV, *]; done) | (simp_all [groundV]; done)) | (refine retA rfl ?_; (try simp (etaStruct := .none) only [push_cast, DrawG, Int.cast_ofNat_Int, seval]); (try simp [groundV, *]); (try exact wkc)))
structure Knd where
 life : Int
 blow : Int
 load : Int
 price : Int
 deriving DecidableEq, Inhabited
def kindV (k : Int) : Knd := if k = 1 then ⟨10, 1, 1, 5⟩ else if k = 2 then ⟨20, 2, 4, 12⟩ else ⟨0, 0, 0, 0⟩
abbrev kndA (k : Knd) : AV := .agg [I .i64 k.life, I .i64 k.blow, I .i64 k.load, I .i64 k.price]
theorem kindOf_s (k : Int) (h : k = 1 ∨ k = 2) : Spec Tryz.prog 50 [I .i64 k] [] (kndA (kindV k)) [] := by
 rcases h with rfl | rfl
 ·have e : kindV 1 = ⟨10, 1, 1, 5⟩ := rfl
  rw [e]
  refine spec_am Tryz.func50 rfl rfl mix 10 rfl [.cell 2 105] Tryz.results50 (Nat.le_of_ble_eq_true rfl) ?_
  (try (refine xst ?_; try exact xtI))
  exact xrz rfl
 ·have e : kindV 2 = ⟨20, 2, 4, 12⟩ := rfl
  rw [e]
  refine spec_am Tryz.func50 rfl rfl mix 10 rfl [.cell 2 105] Tryz.results50 (Nat.le_of_ble_eq_true rfl) ?_
  (try (refine xst ?_; try exact xtI))
  exact xrz rfl
def allN (p : Nat → Bool) : Nat → Bool
 | 0 => true
 | k + 1 => allN p k && p k
theorem allN_iff (p : Nat → Bool) : ∀ n, allN p n = true ↔ ∀ i, i < n → p i = true
 | 0 => by simp [allN]
 | n + 1 => by
  rw [allN, Bool.and_eq_true, allN_iff p n]
  constructor
  ·rintro ⟨a, b⟩ i hi
   rcases Nat.lt_or_ge i n with h | h
   ·exact a i h
   ·obtain rfl : i = n := by omega
    exact b
  ·intro h
   exact ⟨fun i hi => h i (by omega), h n (by omega)⟩
def baseB (w : Wld) (i : Nat) : Bool := groundV w.f (w.bases.getD i default) && within (w.stocks.getD i default) 0 1000000 && allN (fun j => !decide (w.bases.getD j default = w.bases.getD i default)) i
def mineB (w : Wld) (i : Nat) : Bool := within (w.mines.getD i default) 0 1000000 && (decide (w.mines.getD i default = 0) || decide (w.f.p.getD i default = 3))
def trp1 (w : Wld) (t : Trp) : Bool := within t.id 1 (w.next - 1) && within t.owner 0 ((w.bases.length : Int) - 1) && groundV w.f t.c && within t.life 1 (kindV t.kind).life && within t.load 0 (5 * (2 - t.kind))
def trp2 (w : Wld) (i : Nat) : Bool := allN (fun j => decide ((w.troops.getD j default).id < (w.troops.getD i default).id) && !decide ((w.troops.getD j default).c = (w.troops.getD i default).c)) i
def troopB (w : Wld) (i : Nat) : Bool := within (w.troops.getD i default).kind 1 2 && (trp1 w (w.troops.getD i default) && trp2 w i)
def worldB (w : Wld) : Bool := allN (baseB w) w.bases.length && allN (mineB w) w.mines.length && allN (troopB w) w.troops.length
def worldF (w : Wld) : Bool := decide (w.stocks.length = w.bases.length) && decide (w.mines.length = w.f.p.length) && within w.next 1 1000000 && within w.now 0 1000000
def worldE (w : Wld) : Int := if fldE w.f ≠ 0 then fldE w.f else if 8 < w.bases.length ∨ 100 < w.troops.length then 2 else if worldF w && worldB w then 0 else 4
end Go.Proofs.YthiddmncjafklaaGreat
namespace Go.Proofs.YthiddmncjafklaaGreat
set_option linter.all false
open Go.RowKit
set_option maxRecDepth 100000
set_option maxHeartbeats 2000000
structure Sea where
 waits : List Ord
 late : Int
 gone : Bool
 deriving DecidableEq, Inhabited
end Go.Proofs.YthiddmncjafklaaGreat
namespace Go.Proofs.YthiddmncjafklaaGreat
set_option linter.all false
open Go.RowKit
def lateS (s : Sea) : Sea := ⟨s.waits, if 0 < s.waits.length then 0 else if s.gone then s.late else min (s.late + 1) 1000000, s.gone⟩
end Go.Proofs.YthiddmncjafklaaGreat
namespace Go.Proofs.YthiddmncjafklaaGreat
set_option linter.all false
open Go.RowKit
set_option maxRecDepth 100000
set_option maxHeartbeats 1000000
def wldL (w : Wld) : Prop := w.f.p.length ≤ 9223372036854775807 ∧ w.bases.length ≤ 9223372036854775807 ∧ w.stocks.length ≤ 9223372036854775807 ∧ w.mines.length ≤ 9223372036854775807 ∧ w.troops.length ≤ 9223372036854775807
abbrev wldC (w : Wld) : List AV := [I .i64 w.f.w, I .i64 w.f.h, .c (.sl 1 (w.f.p.map i64P)), .c (.sl 2 (w.bases.map celP)), .c (.sl 1 (w.stocks.map i64P)), .c (.sl 1 (w.mines.map i64P)), .c (.sl 7 (w.troops.map trpP)), I .i64 w.next, I .i64 w.now]
abbrev trpA (t : Trp) : AV := .agg [I .i64 t.id, I .i64 t.owner, I .i64 t.kind, I .i64 t.c.x, I .i64 t.c.y, I .i64 t.life, I .i64 t.load]
abbrev trpC (t : Trp) : List AV := [I .i64 t.id, I .i64 t.owner, I .i64 t.kind, I .i64 t.c.x, I .i64 t.c.y, I .i64 t.life, I .i64 t.load]
theorem worldE_form {w : Wld} (hf : fldE w.f = 0) (hb : ¬ (8 < w.bases.length ∨ 100 < w.troops.length)) (h : worldF w = false) : worldE w = 4 := by
 unfold worldE; rw [if_neg (by simp [hf]), if_neg hb, h]; rfl
theorem worldE_bad {w : Wld} (hf : fldE w.f = 0) (hb : ¬ (8 < w.bases.length ∨ 100 < w.troops.length)) (h : worldB w = false) : worldE w = 4 := by
 unfold worldE; rw [if_neg (by simp [hf]), if_neg hb, h]; simp
theorem worldE_fine {w : Wld} (hf : fldE w.f = 0) (hb : ¬ (8 < w.bases.length ∨ 100 < w.troops.length)) (h1 : worldF w = true) (h : worldB w = true) : worldE w = 0 := by
 unfold worldE; rw [if_neg (by simp [hf]), if_neg hb, h1, h]; rfl
theorem worldB_kind {w : Wld} {k : Nat} (hk : k < w.troops.length) (h : within (w.troops.getD k default).kind 1 2 = false) : worldB w = false := by
 have : allN (troopB w) w.troops.length = false := by
  rw [← Bool.not_eq_true, allN_iff]; intro hh
  have := hh k hk
  unfold troopB at this; rw [h] at this; simp at this
 unfold worldB; rw [this]; simp
theorem cel_neq (a b : Cel) : (!(decide (a.x = b.x) && decide (a.y = b.y))) = !decide (a = b) := by rw [cel_dec]
theorem wright_s (w : Wld) (hl : wldL w) : Spec Tryz.prog 22 [wldA w] [] (I .i64 (worldE w)) [] := by
 obtain ⟨l1, l2, l3, l4, l5⟩ := hl
 refine spec_am Tryz.func22 rfl rfl mix 213 rfl [.tmp 2] Tryz.results22 (Nat.le_of_ble_eq_true rfl) ?_
 (try (refine xst ?_; try exact xtI))
 refine caP (fright_s w.f l1) ?_
 (try (refine xst ?_; try exact xtI))
 refine cond_i (fun h1 => ?_) (fun h1 => ?_)
 ·(try replace h1 := xhh h1)
  have e : worldE w = fldE w.f := by unfold worldE; rw [if_pos (by simpa using h1)]
  (try (refine xst ?_; try exact xtI))
  (first | (refine retA rfl (Wk.of ?_); (try simp (etaStruct := .none) only [push_cast, DrawG, Int.cast_ofNat_Int, seval]); first | done | (simp [e, *]; done) | (simp_all [e]; done)) | (refine retA rfl ?_; (try simp (etaStruct := .none) only [push_cast, DrawG, Int.cast_ofNat_Int, seval]); (try simp [e, *]); (try exact wkc)))
 ·(try replace h1 := xhh h1)
  have hf : fldE w.f = 0 := by simpa using h1
  have hfo := fldE_ok hf
  (try (refine xst ?_; try exact xtI))
  refine cond_i (fun h2 => ?_) (fun h2 => ?_)
  ·(try replace h2 := xhh h2)
   have e : worldE w = 2 := by unfold worldE; rw [if_neg (by simp [hf]), if_pos (by omega)]
   (try (refine xst ?_; try exact xtI))
   (first | (refine retA rfl (Wk.of ?_); (try simp (etaStruct := .none) only [push_cast, DrawG, Int.cast_ofNat_Int, seval]); first | done | (simp [e, *]; done) | (simp_all [e]; done)) | (refine retA rfl ?_; (try simp (etaStruct := .none) only [push_cast, DrawG, Int.cast_ofNat_Int, seval]); (try simp [e, *]); (try exact wkc)))
  ·(try replace h2 := xhh h2)
   have hb : ¬ (8 < w.bases.length ∨ 100 < w.troops.length) := by omega
   (try (refine xst ?_; try exact xtI))
   refine gcP (fun hcc => between_s _ _ _) ?_
   (try (refine xst ?_; try exact xtI))
   refine gcP (fun hcc => between_s _ _ _) ?_
   (try (refine xst ?_; try exact xtI))
   refine cond_i (fun h3 => ?_) (fun h3 => ?_)
   ·(try replace h3 := xhh h3)
    have e : worldE w = 4 := by
     refine worldE_form hf hb ?_
     unfold worldF
     simp only [Bool.and_eq_false_iff, decide_eq_false_iff_not]
     rcases h3 with ((h | h) | h) | h
     ·exact .inl (.inl (.inl (by omega)))
     ·exact .inl (.inl (.inr (by omega)))
     ·exact .inl (.inr h)
     ·exact .inr h
    (try (refine xst ?_; try exact xtI))
    (first | (refine retA rfl (Wk.of ?_); (try simp (etaStruct := .none) only [push_cast, DrawG, Int.cast_ofNat_Int, seval]); first | done | (simp [e, *]; done) | (simp_all [e]; done)) | (refine retA rfl ?_; (try simp (etaStruct := .none) only [push_cast, DrawG, Int.cast_ofNat_Int, seval]); (try simp [e, *]); (try exact wkc)))
   ·(try replace h3 := xhh h3)
    have hwf : worldF w = true := by
     unfold worldF
     simp only [Bool.and_eq_true, decide_eq_true_eq]
     exact ⟨⟨⟨by omega, by omega⟩, h3.1.2⟩, h3.2⟩
    have hnx := within_iff.1 h3.1.2
    have hls : w.stocks.length = w.bases.length := by omega
    have hlm : w.mines.length = w.f.p.length := by omega
    (try (refine xst ?_; try exact xtI))
    refine loopI (fun k : Nat => ⟨[(61, I .i64 k), (60, I .i64 w.bases.length), (4, B (allN (baseB w) k)), (1, .ptr 0 0 0)], [(0, .blk 28 (wldC w))], 1⟩) (fun k : Nat => k ≤ w.bases.length) (fun k : Nat => w.bases.length - k) (0) (Nat.zero_le _) (To.mk [0] rfl rfl (by decide) ?_ ?_) ?_
    ·simp (etaStruct := .none) only [push_cast, DrawG, Int.cast_ofNat_Int, seval]
    ·simp (etaStruct := .none) only [push_cast, DrawG, Int.cast_ofNat_Int, seval, allN]
    rintro k hk
    (try (refine xst ?_; try exact xtI))
    refine cond_i (fun h4 => ?_) (fun h4 => ?_)
    ·(try replace h4 := xhh h4)
     have hlt : k < w.bases.length := by omega
     have hlt2 : k < w.stocks.length := by omega
     (iterate 2 ((try simp (etaStruct := .none) only [push_cast, DrawG, Int.cast_ofNat_Int, seval, getD_in _ _ _ hlt, celP, getD_in _ _ _ hlt2, i64P]); (try (refine xsu ?_; try exact xtI))))
     refine gcP (fun hcc => ground_s w.f (w.bases.getD k default) hf) ?_
     (iterate 2 ((try simp (etaStruct := .none) only [push_cast, DrawG, Int.cast_ofNat_Int, seval, getD_in _ _ _ hlt, celP, getD_in _ _ _ hlt2, i64P]); (try (refine xsu ?_; try exact xtI))))
     refine gcP (fun hcc => between_s (w.stocks.getD k default) 0 1000000) ?_
     (iterate 2 ((try simp (etaStruct := .none) only [push_cast, DrawG, Int.cast_ofNat_Int, seval, getD_in _ _ _ hlt, celP, getD_in _ _ _ hlt2, i64P]); (try (refine xsu ?_; try exact xtI))))
     (try (refine ⟨by kernel_rfl, ?_⟩))
     (iterate 2 ((try simp (etaStruct := .none) only [push_cast, DrawG, Int.cast_ofNat_Int, seval, getD_in _ _ _ hlt, celP, getD_in _ _ _ hlt2, i64P]); (try (refine xsu ?_; try exact xtI))))
     refine loopI (fun j : Nat => ⟨[(84, I .i64 j), (83, I .i64 k), (61, I .i64 k), (60, I .i64 w.bases.length), (5, I .i64 k), (4, B (((allN (baseB w) k && groundV w.f (w.bases.getD k default)) && within (w.stocks.getD k default) 0 1000000) && allN (fun j => !decide (w.bases.getD j default = w.bases.getD k default)) j)), (1, .ptr 0 0 0)], [(0, .blk 28 (wldC w))], 1⟩) (fun j : Nat => j ≤ k) (fun j : Nat => k - j) (0) (Nat.zero_le _) (To.mk [0] rfl rfl (by decide) ?_ ?_) ?_
     ·simp (etaStruct := .none) only [push_cast, DrawG, Int.cast_ofNat_Int, seval]
     ·simp (etaStruct := .none) only [push_cast, DrawG, Int.cast_ofNat_Int, seval, allN, Bool.and_true]
     rintro j hj
     (iterate 2 ((try simp (etaStruct := .none) only [push_cast, DrawG, Int.cast_ofNat_Int, seval, getD_in _ _ _ hlt, celP, getD_in _ _ _ hlt2, i64P]); (try (refine xsu ?_; try exact xtI))))
     refine cond_i (fun h5 => ?_) (fun h5 => ?_)
     ·(try replace h5 := xhh h5)
      have hltj : j < w.bases.length := by omega
      (iterate 2 ((try simp (etaStruct := .none) only [push_cast, DrawG, Int.cast_ofNat_Int, seval, getD_in _ _ _ hlt, celP, getD_in _ _ _ hlt2, i64P, getD_in _ _ _ hltj, cel_neq, cel_dec]); (try (refine xsu ?_; try exact xtI))))
      (try (refine ⟨by kernel_rfl, ?_⟩))
      (iterate 2 ((try simp (etaStruct := .none) only [push_cast, DrawG, Int.cast_ofNat_Int, seval, getD_in _ _ _ hlt, celP, getD_in _ _ _ hlt2, i64P, getD_in _ _ _ hltj, cel_neq, cel_dec]); (try (refine xsu ?_; try exact xtI))))
      refine ⟨j + 1, by omega, by omega, To.mk [0] rfl rfl (by decide) ?_ ?_⟩
      ·(iterate 2 ((try simp (etaStruct := .none) only [push_cast, DrawG, Int.cast_ofNat_Int, seval, getD_in _ _ _ hlt, celP, getD_in _ _ _ hlt2, i64P, getD_in _ _ _ hltj, cel_neq, cel_dec]); (try (refine xsu ?_; try exact xtI))))
      ·(iterate 2 ((try simp (etaStruct := .none) only [push_cast, DrawG, Int.cast_ofNat_Int, seval, allN, ← Bool.and_assoc]); (try (refine xsu ?_; try exact xtI))))
     ·(try replace h5 := xhh h5)
      obtain rfl : k = j := by omega
      (iterate 2 ((try simp (etaStruct := .none) only [push_cast, DrawG, Int.cast_ofNat_Int, seval, getD_in _ _ _ hlt, celP, getD_in _ _ _ hlt2, i64P]); (try (refine xsu ?_; try exact xtI))))
      refine ⟨k + 1, by omega, by omega, To.mk [0] rfl rfl (by decide) ?_ ?_⟩
      ·(iterate 2 ((try simp (etaStruct := .none) only [push_cast, DrawG, Int.cast_ofNat_Int, seval, getD_in _ _ _ hlt, celP, getD_in _ _ _ hlt2, i64P]); (try (refine xsu ?_; try exact xtI))))
      ·(iterate 2 ((try simp (etaStruct := .none) only [push_cast, DrawG, Int.cast_ofNat_Int, seval, allN, baseB, ← Bool.and_assoc]); (try (refine xsu ?_; try exact xtI))))
    ·(try replace h4 := xhh h4)
     obtain rfl : k = w.bases.length := by omega
     (try (refine xst ?_; try exact xtI))
     refine loopI (fun k : Nat => ⟨[(106, I .i64 k), (105, I .i64 w.mines.length), (104, .c (.sl 1 (w.mines.map i64P))), (4, B (allN (baseB w) w.bases.length && allN (mineB w) k)), (1, .ptr 0 0 0)], [(0, .blk 28 (wldC w))], 1⟩) (fun k : Nat => k ≤ w.mines.length) (fun k : Nat => w.mines.length - k) (0) (Nat.zero_le _) (To.mk [0] rfl rfl (by decide) ?_ ?_) ?_
     ·simp (etaStruct := .none) only [push_cast, DrawG, Int.cast_ofNat_Int, seval]
     ·simp (etaStruct := .none) only [push_cast, DrawG, Int.cast_ofNat_Int, seval, allN, Bool.and_true]
     rintro k hk
     (try (refine xst ?_; try exact xtI))
     refine cond_i (fun h6 => ?_) (fun h6 => ?_)
     ·(try replace h6 := xhh h6)
      have hlt : k < w.mines.length := by omega
      have hlt2 : k < w.f.p.length := by omega
      (iterate 2 ((try simp (etaStruct := .none) only [push_cast, DrawG, Int.cast_ofNat_Int, seval, getD_in _ _ _ hlt, getD_in _ _ _ hlt2, i64P]); (try (refine xsu ?_; try exact xtI))))
      refine gcP (fun hcc => between_s (w.mines.getD k default) 0 1000000) ?_
      (iterate 2 ((try simp (etaStruct := .none) only [push_cast, DrawG, Int.cast_ofNat_Int, seval, getD_in _ _ _ hlt, getD_in _ _ _ hlt2, i64P]); (try (refine xsu ?_; try exact xtI))))
      refine ⟨k + 1, by omega, by omega, To.mk [0] rfl rfl (by decide) ?_ ?_⟩
      ·(iterate 2 ((try simp (etaStruct := .none) only [push_cast, DrawG, Int.cast_ofNat_Int, seval, getD_in _ _ _ hlt, getD_in _ _ _ hlt2, i64P]); (try (refine xsu ?_; try exact xtI))))
      ·(iterate 2 ((try simp (etaStruct := .none) only [push_cast, DrawG, Int.cast_ofNat_Int, seval, allN, mineB, ← Bool.and_assoc]); (try (refine xsu ?_; try exact xtI))))
     ·(try replace h6 := xhh h6)
      obtain rfl : k = w.mines.length := by omega
      (try (refine xst ?_; try exact xtI))
      refine loopI (fun k : Nat => ⟨[(133, I .i64 k), (132, I .i64 w.troops.length), (131, .c (.sl 7 (w.troops.map trpP))), (4, B ((allN (baseB w) w.bases.length && allN (mineB w) w.mines.length) && allN (troopB w) k)), (1, .ptr 0 0 0)], [(0, .blk 28 (wldC w))], 1⟩) (fun k : Nat => k ≤ w.troops.length) (fun k : Nat => w.troops.length - k) (0) (Nat.zero_le _) (To.mk [0] rfl rfl (by decide) ?_ ?_) ?_
      ·simp (etaStruct := .none) only [push_cast, DrawG, Int.cast_ofNat_Int, seval]
      ·simp (etaStruct := .none) only [push_cast, DrawG, Int.cast_ofNat_Int, seval, allN, Bool.and_true]
      rintro k hk
      (try (refine xst ?_; try exact xtI))
      refine cond_i (fun h7 => ?_) (fun h7 => ?_)
      ·(try replace h7 := xhh h7)
       have hlt : k < w.troops.length := by omega
       (iterate 2 ((try simp (etaStruct := .none) only [push_cast, DrawG, Int.cast_ofNat_Int, seval, getD_in _ _ _ hlt, trpP]); (try (refine xsu ?_; try exact xtI))))
       refine caP (between_s (w.troops.getD k default).kind 1 2) ?_
       (iterate 2 ((try simp (etaStruct := .none) only [push_cast, DrawG, Int.cast_ofNat_Int, seval, getD_in _ _ _ hlt, trpP]); (try (refine xsu ?_; try exact xtI))))
       refine cond_i (fun h8 => ?_) (fun h8 => ?_)
       ·(try replace h8 := xhh h8)
        have e : worldE w = 4 := worldE_bad hf hb (worldB_kind hlt (by simpa using h8))
        (iterate 2 ((try simp (etaStruct := .none) only [push_cast, DrawG, Int.cast_ofNat_Int, seval, getD_in _ _ _ hlt, trpP]); (try (refine xsu ?_; try exact xtI))))
        (first | (refine retA rfl (Wk.of ?_); (try simp (etaStruct := .none) only [push_cast, DrawG, Int.cast_ofNat_Int, seval]); first | done | (simp [e, *]; done) | (simp_all [e]; done)) | (refine retA rfl ?_; (try simp (etaStruct := .none) only [push_cast, DrawG, Int.cast_ofNat_Int, seval]); (try simp [e, *]); (try exact wkc)))
       ·(try replace h8 := xhh h8)
        have hkd0 : within (w.troops.getD k default).kind 1 2 = true := by simpa using h8
        have hkd := within_iff.1 hkd0
        have lk : (List.take k (List.map trpP w.troops)).length = k := by rw [List.length_take, List.length_map]; omega
        have hkd2 : (w.troops.getD k default).kind = 1 ∨ (w.troops.getD k default).kind = 2 := by omega
        (iterate 2 ((try simp (etaStruct := .none) only [push_cast, DrawG, Int.cast_ofNat_Int, seval, getD_in _ _ _ hlt, trpP]); (try (refine xsu ?_; try exact xtI))))
        refine gcP (fun hcc => between_s (w.troops.getD k default).id 1 (w.next - 1)) ?_
        (iterate 2 ((try simp (etaStruct := .none) only [push_cast, DrawG, Int.cast_ofNat_Int, seval, getD_in _ _ _ hlt, trpP]); (try (refine xsu ?_; try exact xtI))))
        refine gcP (fun hcc => between_s (w.troops.getD k default).owner 0 ((w.bases.length : Int) - 1)) ?_
        (iterate 2 ((try simp (etaStruct := .none) only [push_cast, DrawG, Int.cast_ofNat_Int, seval, getD_in _ _ _ hlt, trpP]); (try (refine xsu ?_; try exact xtI))))
        refine gcP (fun hcc => ground_s w.f (w.troops.getD k default).c hf) ?_
        (iterate 2 ((try simp (etaStruct := .none) only [push_cast, DrawG, Int.cast_ofNat_Int, seval, getD_in _ _ _ hlt, trpP]); (try (refine xsu ?_; try exact xtI))))
        refine gcP (fun hcc => kindOf_s (w.troops.getD k default).kind hkd2) ?_
        (iterate 2 ((try simp (etaStruct := .none) only [push_cast, DrawG, Int.cast_ofNat_Int, seval, getD_in _ _ _ hlt, trpP]); (try (refine xsu ?_; try exact xtI))))
        refine gcP (fun hcc => between_s (w.troops.getD k default).life 1 (kindV (w.troops.getD k default).kind).life) ?_
        (iterate 2 ((try simp (etaStruct := .none) only [push_cast, DrawG, Int.cast_ofNat_Int, seval, getD_in _ _ _ hlt, trpP]); (try (refine xsu ?_; try exact xtI))))
        refine gcP (fun hcc => between_s (w.troops.getD k default).load 0 (5 * (2 - (w.troops.getD k default).kind))) ?_
        (iterate 2 ((try simp (etaStruct := .none) only [push_cast, DrawG, Int.cast_ofNat_Int, seval, getD_in _ _ _ hlt, trpP]); (try (refine xsu ?_; try exact xtI))))
        (try (refine ⟨by kernel_rfl, ?_⟩))
        (iterate 2 ((try simp (etaStruct := .none) only [push_cast, DrawG, Int.cast_ofNat_Int, seval, getD_in _ _ _ hlt, trpP]); (try (refine xsu ?_; try exact xtI))))
        refine loopI (fun j : Nat => ⟨[(190, I .i64 j), (189, I .i64 k), (188, .c (.sl 7 ((w.troops.map trpP).take k))), (133, I .i64 k), (132, I .i64 w.troops.length), (131, .c (.sl 7 (w.troops.map trpP))), (10, .ptr 1 0 0), (4, B (((allN (baseB w) w.bases.length && allN (mineB w) w.mines.length) && (allN (troopB w) k && trp1 w (w.troops.getD k default))) && allN (fun j => decide ((w.troops.getD j default).id < (w.troops.getD k default).id) && !decide ((w.troops.getD j default).c = (w.troops.getD k default).c)) j)), (1, .ptr 0 0 0)], [(0, .blk 28 (wldC w)), (1, .blk 89 (trpC (w.troops.getD k default)))], 2⟩) (fun j : Nat => j ≤ k) (fun j : Nat => k - j) (0) (Nat.zero_le _) (To.mk [0, 1] rfl rfl (by decide) ?_ ?_) ?_
        ·simp (etaStruct := .none) only [push_cast, DrawG, Int.cast_ofNat_Int, seval]
        ·simp (etaStruct := .none) only [push_cast, DrawG, Int.cast_ofNat_Int, seval, allN, lk, trp1, Bool.and_true, ← Bool.and_assoc]
        rintro j hj
        (iterate 2 ((try simp (etaStruct := .none) only [push_cast, DrawG, Int.cast_ofNat_Int, seval, getD_in _ _ _ hlt, trpP]); (try (refine xsu ?_; try exact xtI))))
        refine cond_i (fun h9 => ?_) (fun h9 => ?_)
        ·(try replace h9 := xhh h9)
         have hltj : j < w.troops.length := by omega
         have hltk : j < (w.troops.take k).length := by rw [List.length_take]; omega
         have et : (w.troops.map trpP).take k = (w.troops.take k).map trpP := by rw [List.map_take]
         have eg : (w.troops.take k).getD j default = w.troops.getD j default := by simp [List.getD_eq_getElem?_getD, List.getElem?_take, show j < k by omega]
         (iterate 2 ((try simp (etaStruct := .none) only [push_cast, DrawG, Int.cast_ofNat_Int, seval, getD_in _ _ _ hlt, trpP, et, getD_in _ _ _ hltk, eg, trpP, cel_neq, cel_dec]); (try (refine xsu ?_; try exact xtI))))
         refine ⟨j + 1, by omega, by omega, To.mk [0, 1] rfl rfl (by decide) ?_ ?_⟩
         ·(iterate 2 ((try simp (etaStruct := .none) only [push_cast, DrawG, Int.cast_ofNat_Int, seval, getD_in _ _ _ hlt, trpP, et, getD_in _ _ _ hltk, eg, trpP, cel_neq, cel_dec]); (try (refine xsu ?_; try exact xtI))))
         ·(iterate 2 ((try simp (etaStruct := .none) only [push_cast, DrawG, Int.cast_ofNat_Int, seval, allN, ← Bool.and_assoc]); (try (refine xsu ?_; try exact xtI))))
        ·(try replace h9 := xhh h9)
         obtain rfl : k = j := by omega
         (iterate 2 ((try simp (etaStruct := .none) only [push_cast, DrawG, Int.cast_ofNat_Int, seval, getD_in _ _ _ hlt, trpP]); (try (refine xsu ?_; try exact xtI))))
         refine ⟨k + 1, by omega, by omega, To.mk [0] rfl rfl (by decide) ?_ ?_⟩
         ·(iterate 2 ((try simp (etaStruct := .none) only [push_cast, DrawG, Int.cast_ofNat_Int, seval, getD_in _ _ _ hlt, trpP]); (try (refine xsu ?_; try exact xtI))))
         ·(iterate 2 ((try simp (etaStruct := .none) only [push_cast, DrawG, Int.cast_ofNat_Int, seval, allN, troopB, trp2, hkd0, Bool.true_and, ← Bool.and_assoc]); (try (refine xsu ?_; try exact xtI))))
      ·(try replace h7 := xhh h7)
       obtain rfl : k = w.troops.length := by omega
       (try (refine xst ?_; try exact xtI))
       refine cond_i (fun h10 => ?_) (fun h10 => ?_)
       ·(try replace h10 := xhh h10)
        have e : worldE w = 4 := worldE_bad hf hb (by unfold worldB; simpa only [Bool.and_eq_false_iff] using h10)
        (try (refine xst ?_; try exact xtI))
        (first | (refine retA rfl (Wk.of ?_); (try simp (etaStruct := .none) only [push_cast, DrawG, Int.cast_ofNat_Int, seval]); first | done | (simp [e, *]; done) | (simp_all [e]; done)) | (refine retA rfl ?_; (try simp (etaStruct := .none) only [push_cast, DrawG, Int.cast_ofNat_Int, seval]); (try simp [e, *]); (try exact wkc)))
       ·(try replace h10 := xhh h10)
        have e : worldE w = 0 := worldE_fine hf hb hwf (by unfold worldB; simpa using h10)
        (try (refine xst ?_; try exact xtI))
        (first | (refine retA rfl (Wk.of ?_); (try simp (etaStruct := .none) only [push_cast, DrawG, Int.cast_ofNat_Int, seval]); first | done | (simp [e, *]; done) | (simp_all [e]; done)) | (refine retA rfl ?_; (try simp (etaStruct := .none) only [push_cast, DrawG, Int.cast_ofNat_Int, seval]); (try simp [e, *]); (try exact wkc)))
end Go.Proofs.YthiddmncjafklaaGreat
namespace Go.Proofs.YthiddmncjafklaaGreat
set_option linter.all false
open Go.RowKit
set_option maxRecDepth 100000
set_option maxHeartbeats 1000000
theorem cel_index (l : List Cel) (v : Cel) (hl : l.length ≤ 9223372036854775807) : Spec Tryz.prog 157 [.c (.sl 2 (l.map celP)), celA v] [] (I .i64 (ixOf (fun x => decide (v = x)) l)) [] := by
 refine spec_am Tryz.func157 rfl rfl mix 19 rfl [.tmp 4] Tryz.results157 (Nat.le_of_ble_eq_true rfl) ?_
 (try (refine xst ?_; try exact xtI))
 refine loopI (fun k : Nat => ⟨[(8, I .i64 k), (7, I .i64 l.length), (3, .ptr 0 0 0), (0, .c (.sl 2 (l.map celP)))], [(0, .blk 85 [I .i64 v.x, I .i64 v.y])], 1⟩) (fun k : Nat => k ≤ l.length ∧ ∀ j (hj : j < l.length), j < k → decide (v = l[j]) = false) (fun k : Nat => l.length - k) (0) (⟨Nat.zero_le _, fun j _ h => by omega⟩) (To.mk [0] rfl rfl (by decide) ?_ ?_) ?_
 ·simp (etaStruct := .none) only [push_cast, DrawG, Int.cast_ofNat_Int, seval]
 ·simp (etaStruct := .none) only [push_cast, DrawG, Int.cast_ofNat_Int, seval]
 rintro k ⟨hk, hn⟩
 (try (refine xst ?_; try exact xtI))
 refine cond_i (fun h1 => ?_) (fun h1 => ?_)
 ·(try replace h1 := xhh h1)
  have hlt : k < l.length := by omega
  (iterate 2 ((try simp (etaStruct := .none) only [push_cast, DrawG, Int.cast_ofNat_Int, seval, getD_in _ _ _ hlt, celP, cel_dec]); (try (refine xsu ?_; try exact xtI))))
  (try (refine ⟨by kernel_rfl, ?_⟩))
  (iterate 2 ((try simp (etaStruct := .none) only [push_cast, DrawG, Int.cast_ofNat_Int, seval, getD_in _ _ _ hlt, celP, cel_dec]); (try (refine xsu ?_; try exact xtI))))
  refine cond_i (fun h2 => ?_) (fun h2 => ?_)
  ·(try replace h2 := xhh h2)
   (iterate 2 ((try simp (etaStruct := .none) only [push_cast, DrawG, Int.cast_ofNat_Int, seval, getD_in _ _ _ hlt, celP, cel_dec]); (try (refine xsu ?_; try exact xtI))))
   exact ret0 rfl trivial (Wk.of (by rw [ixOf_hit (fun x => decide (v = x)) l k hlt (by rw [← getD_at _ _ hlt]; simpa using h2) hn]; rfl))
  ·(try replace h2 := xhh h2)
   (iterate 2 ((try simp (etaStruct := .none) only [push_cast, DrawG, Int.cast_ofNat_Int, seval, getD_in _ _ _ hlt, celP, cel_dec]); (try (refine xsu ?_; try exact xtI))))
   refine ⟨k + 1, ⟨by omega, fun j hj hjk => by
 rcases Nat.lt_or_ge j k with h | h
 ·simpa using hn j hj h
 ·obtain rfl : j = k := by omega
  rw [← getD_at _ _ hj]; simpa using h2⟩, by omega, To.mk [0] rfl rfl (by decide) ?_ ?_⟩
   ·(iterate 2 ((try simp (etaStruct := .none) only [push_cast, DrawG, Int.cast_ofNat_Int, seval, getD_in _ _ _ hlt, celP, cel_dec]); (try (refine xsu ?_; try exact xtI))))
   ·(iterate 2 ((try simp (etaStruct := .none) only [push_cast, DrawG, Int.cast_ofNat_Int, seval, getD_in _ _ _ hlt, celP, cel_dec]); (try (refine xsu ?_; try exact xtI))))
 ·(try replace h1 := xhh h1)
  (try (refine xst ?_; try exact xtI))
  exact ret0 rfl trivial (Wk.of (by rw [ixOf_miss (fun x => decide (v = x)) l (fun j hj => hn j hj (by omega))]; rfl))
theorem cel_contains (l : List Cel) (v : Cel) (hl : l.length ≤ 9223372036854775807) : Spec Tryz.prog 130 [.c (.sl 2 (l.map celP)), celA v] [] (B (l.any (fun x => decide (v = x)))) [] := by
 refine spec_am Tryz.func130 rfl rfl mix 9 rfl [.tmp 4] Tryz.results130 (Nat.le_of_ble_eq_true rfl) ?_
 (iterate 2 ((try simp (etaStruct := .none) only [push_cast, DrawG, Int.cast_ofNat_Int, seval, ixOf_any]); (try (refine xsu ?_; try exact xtI))))
 refine caP (cel_index l v hl) ?_
 (iterate 2 ((try simp (etaStruct := .none) only [push_cast, DrawG, Int.cast_ofNat_Int, seval, ixOf_any]); (try (refine xsu ?_; try exact xtI))))
 exact xrz rfl
theorem tground_s (f : Fld) (c : Cel) (h : fldE f = 0) (hl : f.p.length ≤ 9223372036854775807) : Spec Tryz.prog 129 [fldA f, celA c] [] (B (groundV f c)) [] := by
 refine spec_am Tryz.func129 rfl rfl mix 19 rfl [.tmp 4] Tryz.results129 (Nat.le_of_ble_eq_true rfl) ?_
 (try (refine xst ?_; try exact xtI))
 refine caP (at_s f c hl) ?_
 (try (refine xst ?_; try exact xtI))
 exact ret0 rfl trivial (Wk.of (congrArg B (by unfold atV groundV; rw [if_neg (by simp [h])]; cases inF f c <;> simp)))
theorem twithin_s (n a b : Int) : Spec Tryz.prog 131 [I .i64 n, I .i64 a, I .i64 b] [] (B (within n a b)) [] := by
 refine spec_am Tryz.func131 rfl rfl mix 15 rfl [.tmp 6] Tryz.results131 (Nat.le_of_ble_eq_true rfl) ?_
 (try (refine xst ?_; try exact xtI))
 exact ret0 rfl trivial (Wk.of (congrArg B (by unfold within; first | rfl | simp)))
def kindE (k : Int) : Int := if k = 1 ∨ k = 2 then 0 else 1
theorem tkind_s (k : Int) : Spec Tryz.prog 86 [I .i64 k] [] (.tup [kndA (kindV k), I .i64 (kindE k)]) [] := by
 refine spec_am Tryz.func86 rfl rfl mix 12 rfl [.cell 2 105, .tmp 3] Tryz.results86 (Nat.le_of_ble_eq_true rfl) ?_
 (try (refine xst ?_; try exact xtI))
 refine cond_i (fun h1 => ?_) (fun h1 => ?_)
 ·(try replace h1 := xhh h1)
  (try (refine xst ?_; try exact xtI))
  (first | (refine retA rfl (Wk.of ?_); (try simp (etaStruct := .none) only [push_cast, DrawG, Int.cast_ofNat_Int, seval]); first | done | (simp [kindV, kindE, *]; done) | (simp_all [kindV, kindE]; done)) | (refine retA rfl ?_; (try simp (etaStruct := .none) only [push_cast, DrawG, Int.cast_ofNat_Int, seval]); (try simp [kindV, kindE, *]); (try exact wkc)))
 ·(try replace h1 := xhh h1)
  (try (refine xst ?_; try exact xtI))
  refine cond_i (fun h2 => ?_) (fun h2 => ?_)
  ·(try replace h2 := xhh h2)
   (try (refine xst ?_; try exact xtI))
   (first | (refine retA rfl (Wk.of ?_); (try simp (etaStruct := .none) only [push_cast, DrawG, Int.cast_ofNat_Int, seval]); first | done | (simp [kindV, kindE, *]; done) | (simp_all [kindV, kindE]; done)) | (refine retA rfl ?_; (try simp (etaStruct := .none) only [push_cast, DrawG, Int.cast_ofNat_Int, seval]); (try simp [kindV, kindE, *]); (try exact wkc)))
  ·(try replace h2 := xhh h2)
   (try (refine xst ?_; try exact xtI))
   (first | (refine retA rfl (Wk.of ?_); (try simp (etaStruct := .none) only [push_cast, DrawG, Int.cast_ofNat_Int, seval]); first | done | (simp [kindV, kindE, *]; done) | (simp_all [kindV, kindE]; done)) | (refine retA rfl ?_; (try simp (etaStruct := .none) only [push_cast, DrawG, Int.cast_ofNat_Int, seval]); (try simp [kindV, kindE, *]); (try exact wkc)))
theorem base_any (w : Wld) (i : Nat) (hi : i < w.bases.length) : ((w.bases.take i).any fun x => decide (w.bases.getD i default = x)) = !allN (fun j => !decide (w.bases.getD j default = w.bases.getD i default)) i := by
 rw [Bool.eq_iff_iff, Bool.not_eq_true', ← Bool.not_eq_true, allN_iff, List.any_eq_true]
 constructor
 ·rintro ⟨x, hx, h⟩ hh
  obtain ⟨j, hj, rfl⟩ := List.getElem_of_mem hx
  rw [List.length_take] at hj
  have := hh j (by omega)
  rw [List.getElem_take] at h
  rw [getD_at _ _ (by omega)] at this
  simp only [decide_eq_true_eq] at h
  simp only [Bool.not_eq_true', decide_eq_false_iff_not] at this
  exact this h.symm
 ·intro hh
  apply Classical.byContradiction
  intro hn
  apply hh
  intro j hj
  simp only [Bool.not_eq_true', decide_eq_false_iff_not]
  intro he
  apply hn
  refine ⟨w.bases.getD j default, ?_, decide_eq_true he.symm⟩
  rw [getD_at _ _ (by omega)]
  exact List.mem_take_iff_getElem.2 ⟨j, by omega, rfl⟩
def playersV (w : Wld) : Bool := decide (w.stocks.length = w.bases.length) && allN (baseB w) w.bases.length
def minesV (w : Wld) : Bool := decide (w.mines.length = w.f.p.length) && allN (mineB w) w.mines.length
def troopsV (w : Wld) : Bool := within w.next 1 1000000 && within w.now 0 1000000 && allN (troopB w) w.troops.length
theorem ptm (w : Wld) : (playersV w && minesV w && troopsV w) = (worldF w && worldB w) := by
 unfold playersV minesV troopsV worldF worldB
 cases decide (w.stocks.length = w.bases.length) <;> cases decide (w.mines.length = w.f.p.length) <;> cases within w.next 1 1000000 <;> cases within w.now 0 1000000 <;> simp
theorem allN_not {p : Nat → Bool} {n k : Nat} (h : k < n) (hp : p k = false) : allN p n = false := by
 rw [← Bool.not_eq_true, allN_iff]; intro hh
 have := hh k h
 rw [hp] at this; simp at this
theorem tplayers_s (w : Wld) (hl : wldL w) (hf : fldE w.f = 0) : Spec Tryz.prog 82 [wldA w] [] (B (playersV w)) [] := by
 obtain ⟨l1, l2, l3, l4, l5⟩ := hl
 refine spec_am Tryz.func82 rfl rfl mix 43 rfl [.tmp 2] Tryz.results82 (Nat.le_of_ble_eq_true rfl) ?_
 (try (refine xst ?_; try exact xtI))
 refine cond_i (fun h1 => ?_) (fun h1 => ?_)
 ·(try replace h1 := xhh h1)
  have e : playersV w = false := by unfold playersV; rw [decide_eq_false (by omega)]; rfl
  (try (refine xst ?_; try exact xtI))
  (first | (refine retA rfl (Wk.of ?_); (try simp (etaStruct := .none) only [push_cast, DrawG, Int.cast_ofNat_Int, seval]); first | done | (simp [e, *]; done) | (simp_all [e]; done)) | (refine retA rfl ?_; (try simp (etaStruct := .none) only [push_cast, DrawG, Int.cast_ofNat_Int, seval]); (try simp [e, *]); (try exact wkc)))
 ·(try replace h1 := xhh h1)
  have hls : w.stocks.length = w.bases.length := by omega
  (try (refine xst ?_; try exact xtI))
  refine loopI (fun k : Nat => ⟨[(15, I .i64 k), (14, I .i64 w.bases.length), (13, .c (.sl 2 (w.bases.map celP))), (1, .ptr 0 0 0)], [(0, .blk 28 (wldC w))], 1⟩) (fun k : Nat => k ≤ w.bases.length ∧ allN (baseB w) k = true) (fun k : Nat => w.bases.length - k) (0) (⟨Nat.zero_le _, rfl⟩) (To.mk [0] rfl rfl (by decide) ?_ ?_) ?_
  ·simp (etaStruct := .none) only [push_cast, DrawG, Int.cast_ofNat_Int, seval]
  ·simp (etaStruct := .none) only [push_cast, DrawG, Int.cast_ofNat_Int, seval]
  rintro k ⟨hk, hn⟩
  (try (refine xst ?_; try exact xtI))
  refine cond_i (fun h2 => ?_) (fun h2 => ?_)
  ·(try replace h2 := xhh h2)
   have hlt : k < w.bases.length := by omega
   have hlt2 : k < w.stocks.length := by omega
   have et : (w.bases.map celP).take k = (w.bases.take k).map celP := by rw [List.map_take]
   have ba := base_any w k hlt
   (iterate 2 ((try simp (etaStruct := .none) only [push_cast, DrawG, Int.cast_ofNat_Int, seval, getD_in _ _ _ hlt, celP, getD_in _ _ _ hlt2, i64P, et]); (try (refine xsu ?_; try exact xtI))))
   refine caP (tground_s w.f (w.bases.getD k default) hf l1) ?_
   (iterate 2 ((try simp (etaStruct := .none) only [push_cast, DrawG, Int.cast_ofNat_Int, seval, getD_in _ _ _ hlt, celP, getD_in _ _ _ hlt2, i64P, et]); (try (refine xsu ?_; try exact xtI))))
   refine gcP (fun hcc => cel_contains (w.bases.take k) (w.bases.getD k default) (by rw [List.length_take]; omega)) ?_
   (iterate 2 ((try simp (etaStruct := .none) only [push_cast, DrawG, Int.cast_ofNat_Int, seval, getD_in _ _ _ hlt, celP, getD_in _ _ _ hlt2, i64P, et]); (try (refine xsu ?_; try exact xtI))))
   refine gcP (fun hcc => twithin_s (w.stocks.getD k default) 0 1000000) ?_
   (iterate 2 ((try simp (etaStruct := .none) only [push_cast, DrawG, Int.cast_ofNat_Int, seval, getD_in _ _ _ hlt, celP, getD_in _ _ _ hlt2, i64P, et]); (try (refine xsu ?_; try exact xtI))))
   (try (refine ⟨by kernel_rfl, ?_⟩))
   (iterate 2 ((try simp (etaStruct := .none) only [push_cast, DrawG, Int.cast_ofNat_Int, seval, getD_in _ _ _ hlt, celP, getD_in _ _ _ hlt2, i64P, et]); (try (refine xsu ?_; try exact xtI))))
   refine cond_i (fun h3 => ?_) (fun h3 => ?_)
   ·(try replace h3 := xhh h3)
    have e0 : baseB w k = false := by
     unfold baseB
     rw [ba] at h3
     rcases h3 with (h | h) | h
     ·rw [h]; rfl
     ·have h' : allN (fun j => !decide (w.bases.getD j default = w.bases.getD k default)) k = false := by simpa using h
      rw [h']; simp
     ·rw [h]; simp
    have e : playersV w = false := by unfold playersV; rw [allN_not hlt e0]; simp
    (iterate 2 ((try simp (etaStruct := .none) only [push_cast, DrawG, Int.cast_ofNat_Int, seval, getD_in _ _ _ hlt, celP, getD_in _ _ _ hlt2, i64P, et]); (try (refine xsu ?_; try exact xtI))))
    (first | (refine retA rfl (Wk.of ?_); (try simp (etaStruct := .none) only [push_cast, DrawG, Int.cast_ofNat_Int, seval]); first | done | (simp [e, *]; done) | (simp_all [e]; done)) | (refine retA rfl ?_; (try simp (etaStruct := .none) only [push_cast, DrawG, Int.cast_ofNat_Int, seval]); (try simp [e, *]); (try exact wkc)))
   ·(try replace h3 := xhh h3)
    have e0 : baseB w k = true := by
     unfold baseB
     rw [ba] at h3
     rw [h3.1.1, h3.2]
     simpa using h3.1.2
    (iterate 2 ((try simp (etaStruct := .none) only [push_cast, DrawG, Int.cast_ofNat_Int, seval, getD_in _ _ _ hlt, celP, getD_in _ _ _ hlt2, i64P, et]); (try (refine xsu ?_; try exact xtI))))
    refine ⟨k + 1, ⟨by omega, by rw [allN, hn, e0]; rfl⟩, by omega, To.mk [0] rfl rfl (by decide) ?_ ?_⟩
    ·(iterate 2 ((try simp (etaStruct := .none) only [push_cast, DrawG, Int.cast_ofNat_Int, seval, getD_in _ _ _ hlt, celP, getD_in _ _ _ hlt2, i64P, et]); (try (refine xsu ?_; try exact xtI))))
    ·(iterate 2 ((try simp (etaStruct := .none) only [push_cast, DrawG, Int.cast_ofNat_Int, seval, getD_in _ _ _ hlt, celP, getD_in _ _ _ hlt2, i64P, et]); (try (refine xsu ?_; try exact xtI))))
  ·(try replace h2 := xhh h2)
   obtain rfl : k = w.bases.length := by omega
   have e : playersV w = true := by unfold playersV; rw [decide_eq_true hls, hn]; rfl
   (try (refine xst ?_; try exact xtI))
   (first | (refine retA rfl (Wk.of ?_); (try simp (etaStruct := .none) only [push_cast, DrawG, Int.cast_ofNat_Int, seval]); first | done | (simp [e, *]; done) | (simp_all [e]; done)) | (refine retA rfl ?_; (try simp (etaStruct := .none) only [push_cast, DrawG, Int.cast_ofNat_Int, seval]); (try simp [e, *]); (try exact wkc)))
theorem tmines_s (w : Wld) (hl : wldL w) : Spec Tryz.prog 83 [wldA w] [] (B (minesV w)) [] := by
 obtain ⟨l1, l2, l3, l4, l5⟩ := hl
 refine spec_am Tryz.func83 rfl rfl mix 38 rfl [.tmp 2] Tryz.results83 (Nat.le_of_ble_eq_true rfl) ?_
 (try (refine xst ?_; try exact xtI))
 refine cond_i (fun h1 => ?_) (fun h1 => ?_)
 ·(try replace h1 := xhh h1)
  have e : minesV w = false := by unfold minesV; rw [decide_eq_false (by omega)]; rfl
  (try (refine xst ?_; try exact xtI))
  (first | (refine retA rfl (Wk.of ?_); (try simp (etaStruct := .none) only [push_cast, DrawG, Int.cast_ofNat_Int, seval]); first | done | (simp [e, *]; done) | (simp_all [e]; done)) | (refine retA rfl ?_; (try simp (etaStruct := .none) only [push_cast, DrawG, Int.cast_ofNat_Int, seval]); (try simp [e, *]); (try exact wkc)))
 ·(try replace h1 := xhh h1)
  have hls : w.mines.length = w.f.p.length := by omega
  (try (refine xst ?_; try exact xtI))
  refine loopI (fun k : Nat => ⟨[(16, I .i64 k), (15, I .i64 w.mines.length), (14, .c (.sl 1 (w.mines.map i64P))), (1, .ptr 0 0 0)], [(0, .blk 28 (wldC w))], 1⟩) (fun k : Nat => k ≤ w.mines.length ∧ allN (mineB w) k = true) (fun k : Nat => w.mines.length - k) (0) (⟨Nat.zero_le _, rfl⟩) (To.mk [0] rfl rfl (by decide) ?_ ?_) ?_
  ·simp (etaStruct := .none) only [push_cast, DrawG, Int.cast_ofNat_Int, seval]
  ·simp (etaStruct := .none) only [push_cast, DrawG, Int.cast_ofNat_Int, seval]
  rintro k ⟨hk, hn⟩
  (try (refine xst ?_; try exact xtI))
  refine cond_i (fun h2 => ?_) (fun h2 => ?_)
  ·(try replace h2 := xhh h2)
   have hlt : k < w.mines.length := by omega
   have hlt2 : k < w.f.p.length := by omega
   (iterate 2 ((try simp (etaStruct := .none) only [push_cast, DrawG, Int.cast_ofNat_Int, seval, getD_in _ _ _ hlt, getD_in _ _ _ hlt2, i64P]); (try (refine xsu ?_; try exact xtI))))
   refine caP (twithin_s (w.mines.getD k default) 0 1000000) ?_
   (iterate 2 ((try simp (etaStruct := .none) only [push_cast, DrawG, Int.cast_ofNat_Int, seval, getD_in _ _ _ hlt, getD_in _ _ _ hlt2, i64P]); (try (refine xsu ?_; try exact xtI))))
   refine cond_i (fun h3 => ?_) (fun h3 => ?_)
   ·(try replace h3 := xhh h3)
    have e0 : mineB w k = false := by
     unfold mineB
     rcases h3 with h | ⟨h, h'⟩
     ·rw [h]; rfl
     ·rw [decide_eq_false (by omega), decide_eq_false (by omega)]; simp
    have e : minesV w = false := by unfold minesV; rw [allN_not hlt e0]; simp
    (iterate 2 ((try simp (etaStruct := .none) only [push_cast, DrawG, Int.cast_ofNat_Int, seval, getD_in _ _ _ hlt, getD_in _ _ _ hlt2, i64P]); (try (refine xsu ?_; try exact xtI))))
    (first | (refine retA rfl (Wk.of ?_); (try simp (etaStruct := .none) only [push_cast, DrawG, Int.cast_ofNat_Int, seval]); first | done | (simp [e, *]; done) | (simp_all [e]; done)) | (refine retA rfl ?_; (try simp (etaStruct := .none) only [push_cast, DrawG, Int.cast_ofNat_Int, seval]); (try simp [e, *]); (try exact wkc)))
   ·(try replace h3 := xhh h3)
    have e0 : mineB w k = true := by
     unfold mineB
     rw [h3.1]
     have := within_iff.1 h3.1
     simp only [Bool.true_and, Bool.or_eq_true, decide_eq_true_eq]
     omega
    (iterate 2 ((try simp (etaStruct := .none) only [push_cast, DrawG, Int.cast_ofNat_Int, seval, getD_in _ _ _ hlt, getD_in _ _ _ hlt2, i64P]); (try (refine xsu ?_; try exact xtI))))
    refine ⟨k + 1, ⟨by omega, by rw [allN, hn, e0]; rfl⟩, by omega, To.mk [0] rfl rfl (by decide) ?_ ?_⟩
    ·(iterate 2 ((try simp (etaStruct := .none) only [push_cast, DrawG, Int.cast_ofNat_Int, seval, getD_in _ _ _ hlt, getD_in _ _ _ hlt2, i64P]); (try (refine xsu ?_; try exact xtI))))
    ·(iterate 2 ((try simp (etaStruct := .none) only [push_cast, DrawG, Int.cast_ofNat_Int, seval, getD_in _ _ _ hlt, getD_in _ _ _ hlt2, i64P]); (try (refine xsu ?_; try exact xtI))))
  ·(try replace h2 := xhh h2)
   obtain rfl : k = w.mines.length := by omega
   have e : minesV w = true := by unfold minesV; rw [decide_eq_true hls, hn]; rfl
   (try (refine xst ?_; try exact xtI))
   (first | (refine retA rfl (Wk.of ?_); (try simp (etaStruct := .none) only [push_cast, DrawG, Int.cast_ofNat_Int, seval]); first | done | (simp [e, *]; done) | (simp_all [e]; done)) | (refine retA rfl ?_; (try simp (etaStruct := .none) only [push_cast, DrawG, Int.cast_ofNat_Int, seval]); (try simp [e, *]); (try exact wkc)))
end Go.Proofs.YthiddmncjafklaaGreat
