/- Lemmas for the proof of linkPlays.proved. -/
import Derived.Test.YtdkmndimmpilaaaPlaysM3
namespace Go.Proofs.Ytdkmndimmpilaaa
set_option linter.all false
open Go.RowKit
set_option maxRecDepth 100000
set_option maxHeartbeats 1000000
def lnkB (l : Lnk) : Bool :=
 decide (l.got.length ≤ l.sent.length) && decide (l.got = l.sent.take l.got.length) && within l.base 0 l.got.length && decide (l.held.length ≤ l.sent.length) &&
 within l.next ((l.got.length : Int) + l.held.length) (min (l.base + l.window) l.sent.length) &&
 l.way.all (fun n => within n 0 (l.next - 1)) && l.acks.all (fun n => within n 0 l.got.length) && l.held.all (fun n => within n ((l.got.length : Int) + 1) (l.next - 1))
theorem lnkFine_eq (l : Lnk) : lnkFine l = (lnkB l && decide (l.held.Pairwise (· < ·))) := rfl
def upT (h : List Int) (k : Nat) : Bool := (List.range k).all fun j => decide (j = 0) || decide (h.getD (j - 1) default < h.getD j default)
theorem upT_1 (h : List Int) : upT h 1 = true := by simp [upT]
theorem upT_s (h : List Int) (k : Nat) (hk : 1 ≤ k) : upT h (k + 1) = (upT h k && decide (h.getD (k - 1) default < h.getD k default)) := by
 unfold upT
 rw [List.range_succ, List.all_append]
 simp [show k ≠ 0 by omega]
theorem upT_all (h : List Int) : (upT h h.length = true) ↔ h.Pairwise (· < ·) := by
 rw [List.pairwise_iff_getElem]
 unfold upT
 rw [List.all_eq_true]
 constructor
 ·intro H
  have step : ∀ j, j + 1 < h.length → h.getD j default < h.getD (j + 1) default := by
   intro j hj
   have := H (j + 1) (List.mem_range.2 hj)
   simpa using this
  have : ∀ d i, i + d + 1 < h.length → h.getD i default < h.getD (i + d + 1) default := by
   intro d
   induction d with
   | zero => intro i hi; exact step i hi
   | succ d ih =>
    intro i hi
    have h1 := ih i (by omega)
    have h2 := step (i + d + 1) (by omega)
    rw [show i + (d + 1) + 1 = i + d + 1 + 1 by omega]
    omega
  intro i j hi hj hij
  have := this (j - i - 1) i (by omega)
  rw [show i + (j - i - 1) + 1 = j by omega, getD_at _ _ hi, getD_at _ _ hj] at this
  exact this
 ·intro H j hj
  have hj := List.mem_range.1 hj
  by_cases h0 : j = 0
  ·simp [h0]
  ·have := H (j - 1) j (by omega) hj (by omega)
   rw [getD_at _ _ (by omega), getD_at _ _ hj]
   simpa using .inr this
theorem upT_le (h : List Int) {a b : Nat} (hab : a ≤ b) (hb : upT h b = true) : upT h a = true := by
 unfold upT at *
 rw [List.all_eq_true] at *
 intro j hj
 exact hb j (List.mem_range.2 (by have := List.mem_range.1 hj; omega))
theorem strtake_s (l : Lnk) (hl : l.got.length ≤ 8796093022207) (hcc : decide ((l.got.length : Int) ≤ l.sent.length) = true) : Spec Try.prog 62 [.c (.sl 1 (l.got.map strP)), .c (.sl 1 (List.take (if (l.sent.length : Int) < l.got.length then (l.sent.length : Int) else l.got.length).toNat (l.sent.map strP)))] [] (B (decide (l.got = l.sent.take l.got.length))) [] := by
 have h := of_decide_eq_true hcc
 rw [if_neg (by omega), Int.toNat_natCast, ← List.map_take]
 exact str_eq l.got (l.sent.take l.got.length) (by omega) (by simp; omega)
structure HidL (p : Prop) : Prop where
 x : p
theorem hidE {α : Type} (p : α → Prop) (b : α) (h : p b) : ∃ e, p e ∧ HidL (e = b) := ⟨b, h, ⟨rfl⟩⟩
def nextM (l : Lnk) : Int := if (l.sent.length : Int) < IntKind.i64.wrap (l.base + l.window) then (l.sent.length : Int) else IntKind.i64.wrap (l.base + l.window)
theorem lnkB_eq (l : Lnk) (hl : LnkL l) (hw : 1 ≤ l.window ∧ l.window ≤ 16) : (decide ((l.got.length : Int) ≤ l.sent.length) && decide (l.got = l.sent.take l.got.length) && within l.base 0 l.got.length && decide ((l.held.length : Int) ≤ l.sent.length) && within l.next ((l.got.length : Int) + l.held.length) (nextM l) &&
  l.way.all (fun n => within n 0 (IntKind.i64.wrap (l.next - 1))) && l.acks.all (fun n => within n 0 l.got.length) && l.held.all (fun n => within n ((l.got.length : Int) + 1) (IntKind.i64.wrap (l.next - 1)))) = lnkB l := by
 obtain ⟨h1, h2, h3, h4, h5⟩ := hl
 unfold lnkB
 simp only [Int.ofNat_le]
 by_cases hb : within l.base 0 l.got.length = true
 ·have hb' := within_iff.1 hb
  have e1 : nextM l = min (l.base + l.window) l.sent.length := by
   unfold nextM
   rw [wrap_in _ (by omega) (by omega)]
   split <;> omega
  rw [e1]
  by_cases hn : within l.next ((l.got.length : Int) + l.held.length) (min (l.base + l.window) l.sent.length) = true
  ·have hn' := within_iff.1 hn
   rw [wrap_in (l.next - 1) (by omega) (by omega)]
  ·rw [Bool.not_eq_true] at hn
   rw [hn]
   simp only [Bool.and_false, Bool.false_and]
 ·rw [Bool.not_eq_true] at hb
  rw [hb]
  simp only [Bool.and_false, Bool.false_and]
theorem lnkE_f (l : Lnk) (hw : 1 ≤ l.window ∧ l.window ≤ 16) (h2 : ¬ (200 < l.sent.length ∨ 1000 < l.way.length ∨ 1000 < l.acks.length)) (b : Bool) (hb : b = lnkB l) (k : Nat) (hf : (b && upT l.held k) = false) (hk : k ≤ l.held.length ∨ k = 1) : lnkE l = 4 := by
 unfold lnkE
 rw [if_neg (by omega), if_neg h2, if_neg]
 rw [lnkFine_eq, ← hb]
 intro hh
 rw [Bool.and_eq_true, decide_eq_true_eq] at hh
 rw [hh.1, Bool.true_and] at hf
 have hu := (upT_all l.held).2 hh.2
 by_cases hkl : k ≤ l.held.length
 ·rw [upT_le _ hkl hu] at hf; simp at hf
 ·obtain rfl : k = 1 := by omega
  rw [upT_1] at hf; simp at hf
theorem lnkE_t (l : Lnk) (hw : 1 ≤ l.window ∧ l.window ≤ 16) (h2 : ¬ (200 < l.sent.length ∨ 1000 < l.way.length ∨ 1000 < l.acks.length)) (b : Bool) (hb : b = lnkB l) (k : Nat) (hf : (b && upT l.held k) = true) (hk : l.held.length ≤ k) : lnkE l = 0 := by
 unfold lnkE
 rw [if_neg (by omega), if_neg h2, if_pos]
 rw [Bool.and_eq_true] at hf
 rw [lnkFine_eq, ← hb, hf.1, Bool.true_and, decide_eq_true_eq]
 exact (upT_all l.held).1 (upT_le _ hk hf.2)
theorem lcheck_s (l : Lnk) (hl : LnkL l) : Spec Try.prog 31 [lnkA l] [] (I .i64 (lnkE l)) [] := by
 obtain ⟨h1, h2, h3, h4, h5⟩ := hl
 obtain ⟨d1, hd1, H1⟩ := hidE (fun d => d = decide ((l.got.length : Int) ≤ l.sent.length)) _ rfl
 obtain ⟨d2, hd2, H2⟩ := hidE (fun d => d = decide ((l.held.length : Int) ≤ l.sent.length)) _ rfl
 obtain ⟨e0, S0, E0⟩ := hidE (fun e => ∀ hcc : d1 = true, Spec Try.prog 62 [.c (.sl 1 (l.got.map strP)), .c (.sl 1 (List.take (if (l.sent.length : Int) < l.got.length then (l.sent.length : Int) else l.got.length).toNat (l.sent.map strP)))] [] (B e) []) _ (fun hcc => strtake_s l h4 (hd1 ▸ hcc))
 obtain ⟨e1, S1, E1⟩ := hidE (fun e => Spec Try.prog 69 [I .i64 l.base, I .i64 0, I .i64 l.got.length] [] (B e) []) _ (lwithin_s l.base 0 l.got.length)
 obtain ⟨e2, S2, E2⟩ := hidE (fun e => Spec Try.prog 69 [I .i64 l.next, I .i64 ((l.got.length : Int) + l.held.length), I .i64 (nextM l)] [] (B e) []) _ (lwithin_s l.next ((l.got.length : Int) + l.held.length) (nextM l))
 obtain ⟨e3, S3, E3⟩ := hidE (fun e => Spec Try.prog 70 [.c (.sl 1 (l.way.map i64P)), I .i64 0, I .i64 (IntKind.i64.wrap (l.next - 1))] [] (B e) []) _ (lall_s l.way 0 (IntKind.i64.wrap (l.next - 1)) (by omega))
 obtain ⟨e4, S4, E4⟩ := hidE (fun e => Spec Try.prog 70 [.c (.sl 1 (l.acks.map i64P)), I .i64 0, I .i64 l.got.length] [] (B e) []) _ (lall_s l.acks 0 l.got.length (by omega))
 obtain ⟨e5, S5, E5⟩ := hidE (fun e => Spec Try.prog 70 [.c (.sl 1 (l.held.map i64P)), I .i64 ((l.got.length : Int) + 1), I .i64 (IntKind.i64.wrap (l.next - 1))] [] (B e) []) _ (lall_s l.held ((l.got.length : Int) + 1) (IntKind.i64.wrap (l.next - 1)) (by omega))
 refine spec_am Try.func31 rfl rfl mix 129 rfl [.tmp 2] Try.results31 (Nat.le_of_ble_eq_true rfl) ?_
 (iterate 2 ((try simp (etaStruct := .none) only [push_cast, DrawG, Int.cast_ofNat_Int, seval, lnkA, ← hd1, ← hd2, upT_1, Bool.and_true]); (try (refine xsu ?_; try exact xtI))))
 refine caP (lwithin_s l.window 1 16) ?_
 (iterate 2 ((try simp (etaStruct := .none) only [push_cast, DrawG, Int.cast_ofNat_Int, seval, lnkA, ← hd1, ← hd2, upT_1, Bool.and_true]); (try (refine xsu ?_; try exact xtI))))
 refine cond_i (fun h1 => ?_) (fun h1 => ?_)
 ·(try replace h1 := xhh h1)
  have e : lnkE l = 1 := by unfold lnkE; rw [if_pos]; rw [within_f] at h1; omega
  (iterate 2 ((try simp (etaStruct := .none) only [push_cast, DrawG, Int.cast_ofNat_Int, seval, lnkA, ← hd1, ← hd2, upT_1, Bool.and_true]); (try (refine xsu ?_; try exact xtI))))
  exact ret0 rfl trivial (Wk.of (by rw [e]; rfl))
 ·(try replace h1 := xhh h1)
  (iterate 2 ((try simp (etaStruct := .none) only [push_cast, DrawG, Int.cast_ofNat_Int, seval, lnkA, ← hd1, ← hd2, upT_1, Bool.and_true]); (try (refine xsu ?_; try exact xtI))))
  refine cond_i (fun h2 => ?_) (fun h2 => ?_)
  ·(try replace h2 := xhh h2)
   have e : lnkE l = 2 := by unfold lnkE; rw [if_neg (by rw [within_iff] at h1; omega), if_pos (by omega)]
   (iterate 2 ((try simp (etaStruct := .none) only [push_cast, DrawG, Int.cast_ofNat_Int, seval, lnkA, ← hd1, ← hd2, upT_1, Bool.and_true]); (try (refine xsu ?_; try exact xtI))))
   exact ret0 rfl trivial (Wk.of (by rw [e]; rfl))
  ·(try replace h2 := xhh h2)
   (iterate 2 ((try simp (etaStruct := .none) only [push_cast, DrawG, Int.cast_ofNat_Int, seval, lnkA, ← hd1, ← hd2, upT_1, Bool.and_true]); (try (refine xsu ?_; try exact xtI))))
   (try (refine ⟨by kernel_rfl, ?_⟩))
   (iterate 2 ((try simp (etaStruct := .none) only [push_cast, DrawG, Int.cast_ofNat_Int, seval, lnkA, ← hd1, ← hd2, upT_1, Bool.and_true]); (try (refine xsu ?_; try exact xtI))))
   refine gcP (fun hcc => S0 hcc) ?_
   (iterate 2 ((try simp (etaStruct := .none) only [push_cast, DrawG, Int.cast_ofNat_Int, seval, lnkA, ← hd1, ← hd2, upT_1, Bool.and_true]); (try (refine xsu ?_; try exact xtI))))
   refine gcP (fun hcc => S1) ?_
   (iterate 2 ((try simp (etaStruct := .none) only [push_cast, DrawG, Int.cast_ofNat_Int, seval, lnkA, ← hd1, ← hd2, upT_1, Bool.and_true]); (try (refine xsu ?_; try exact xtI))))
   (try (refine ⟨by kernel_rfl, ?_⟩))
   (iterate 2 ((try simp (etaStruct := .none) only [push_cast, DrawG, Int.cast_ofNat_Int, seval, lnkA, ← hd1, ← hd2, upT_1, Bool.and_true]); (try (refine xsu ?_; try exact xtI))))
   refine gcP (fun hcc => S2) ?_
   (iterate 2 ((try simp (etaStruct := .none) only [push_cast, DrawG, Int.cast_ofNat_Int, seval, lnkA, ← hd1, ← hd2, upT_1, Bool.and_true]); (try (refine xsu ?_; try exact xtI))))
   refine gcP (fun hcc => S3) ?_
   (iterate 2 ((try simp (etaStruct := .none) only [push_cast, DrawG, Int.cast_ofNat_Int, seval, lnkA, ← hd1, ← hd2, upT_1, Bool.and_true]); (try (refine xsu ?_; try exact xtI))))
   refine gcP (fun hcc => S4) ?_
   (iterate 2 ((try simp (etaStruct := .none) only [push_cast, DrawG, Int.cast_ofNat_Int, seval, lnkA, ← hd1, ← hd2, upT_1, Bool.and_true]); (try (refine xsu ?_; try exact xtI))))
   refine gcP (fun hcc => S5) ?_
   (iterate 2 ((try simp (etaStruct := .none) only [push_cast, DrawG, Int.cast_ofNat_Int, seval, lnkA, ← hd1, ← hd2, upT_1, Bool.and_true]); (try (refine xsu ?_; try exact xtI))))
   refine loopI (fun k : Nat => ⟨[(6, I .i64 k), (5, B (d1 && e0 && e1 && d2 && e2 && e3 && e4 && e5 && upT l.held k)), (4, I .i64 l.held.length), (1, .ptr 0 0 0)], [(0, .blk 57 [I .i64 l.window, .c (.sl 1 (l.sent.map strP)), I .i64 l.base, I .i64 l.next, .c (.sl 1 (l.way.map i64P)), .c (.sl 1 (l.acks.map i64P)), .c (.sl 1 (l.got.map strP)), .c (.sl 1 (l.held.map i64P))])], 1⟩) (fun k : Nat => 1 ≤ k ∧ (k ≤ l.held.length ∨ k = 1)) (fun k : Nat => l.held.length + 1 - k) (1) (⟨by omega, by omega⟩) (To.mk [0] rfl rfl (by decide) ?_ ?_) ?_
   ·simp (etaStruct := .none) only [push_cast, DrawG, Int.cast_ofNat_Int, seval]
   ·simp (etaStruct := .none) only [push_cast, DrawG, Int.cast_ofNat_Int, seval, upT_1, Bool.and_true]
   rintro k hk
   (iterate 2 ((try simp (etaStruct := .none) only [push_cast, DrawG, Int.cast_ofNat_Int, seval, lnkA, ← hd1, ← hd2, upT_1, Bool.and_true]); (try (refine xsu ?_; try exact xtI))))
   refine cond_i (fun h3 => ?_) (fun h3 => ?_)
   ·(try replace h3 := xhh h3)
    have hlt : k < l.held.length := by omega
    have hlt2 : k - 1 < l.held.length := by omega
    have hk1 : ((k : Int) - 1).toNat = k - 1 := by omega
    have hF : (d1 && e0 && e1 && d2 && e2 && e3 && e4 && e5 && upT l.held k) = true := by simp only [Bool.and_eq_true]; exact h3.1
    have hN : (d1 && e0 && e1 && d2 && e2 && e3 && e4 && e5 && upT l.held (k + 1)) = decide (l.held.getD (k - 1) default < l.held.getD k default) := by rw [upT_s _ _ hk.1, ← Bool.and_assoc, hF, Bool.true_and]
    (iterate 2 ((try simp (etaStruct := .none) only [push_cast, DrawG, Int.cast_ofNat_Int, seval, lnkA, ← hd1, ← hd2, upT_1, Bool.and_true, getD_in _ _ _ hlt, getD_in _ _ _ hlt2, i64P, hk1]); (try (refine xsu ?_; try exact xtI))))
    (try (refine ⟨by kernel_rfl, ?_⟩))
    (iterate 2 ((try simp (etaStruct := .none) only [push_cast, DrawG, Int.cast_ofNat_Int, seval, lnkA, ← hd1, ← hd2, upT_1, Bool.and_true, getD_in _ _ _ hlt, getD_in _ _ _ hlt2, i64P, hk1]); (try (refine xsu ?_; try exact xtI))))
    refine ⟨k + 1, ⟨by omega, by omega⟩, by omega, To.mk [0] rfl rfl (by decide) ?_ ?_⟩
    ·(iterate 2 ((try simp (etaStruct := .none) only [push_cast, DrawG, Int.cast_ofNat_Int, seval, lnkA, ← hd1, ← hd2, upT_1, Bool.and_true, getD_in _ _ _ hlt, getD_in _ _ _ hlt2, i64P, hk1]); (try (refine xsu ?_; try exact xtI))))
    ·simp (etaStruct := .none) only [push_cast, DrawG, Int.cast_ofNat_Int, seval, hN]
   ·(try replace h3 := xhh h3)
    have hB : (d1 && e0 && e1 && d2 && e2 && e3 && e4 && e5) = lnkB l := by rw [H1.x, E0.x, E1.x, H2.x, E2.x, E3.x, E4.x, E5.x]; exact lnkB_eq l ⟨by assumption, by assumption, by assumption, h4, h5⟩ (within_iff.1 h1)
    (iterate 2 ((try simp (etaStruct := .none) only [push_cast, DrawG, Int.cast_ofNat_Int, seval, lnkA, ← hd1, ← hd2, upT_1, Bool.and_true]); (try (refine xsu ?_; try exact xtI))))
    refine cond_i (fun h4 => ?_) (fun h4 => ?_)
    ·(try replace h4 := xhh h4)
     have e : lnkE l = 4 := lnkE_f l (within_iff.1 h1) (by omega) _ hB k (by simp only [Bool.and_eq_false_iff]; exact h4) hk.2
     (iterate 2 ((try simp (etaStruct := .none) only [push_cast, DrawG, Int.cast_ofNat_Int, seval, lnkA, ← hd1, ← hd2, upT_1, Bool.and_true]); (try (refine xsu ?_; try exact xtI))))
     exact ret0 rfl trivial (Wk.of (by rw [e]; rfl))
    ·(try replace h4 := xhh h4)
     have hT : (d1 && e0 && e1 && d2 && e2 && e3 && e4 && e5 && upT l.held k) = true := by simp only [Bool.and_eq_true]; exact h4
     have e : lnkE l = 0 := lnkE_t l (within_iff.1 h1) (by omega) _ hB k hT (by
      rcases h3 with h3 | h3
      ·have hT2 : (d1 && e0 && e1 && d2 && e2 && e3 && e4 && e5 && upT l.held k) = false := by simp only [Bool.and_eq_false_iff]; exact h3
       rw [hT] at hT2; cases hT2
      ·omega)
     (iterate 2 ((try simp (etaStruct := .none) only [push_cast, DrawG, Int.cast_ofNat_Int, seval, lnkA, ← hd1, ← hd2, upT_1, Bool.and_true]); (try (refine xsu ?_; try exact xtI))))
     exact ret0 rfl trivial (Wk.of (by rw [e]; rfl))
end Go.Proofs.Ytdkmndimmpilaaa
namespace Go.Proofs.Ytdkmndimmpilaaa
set_option linter.all false
open Go.RowKit
set_option maxRecDepth 100000
set_option maxHeartbeats 1000000
theorem mem_all {l : List Int} {p : Int → Prop} (h : ∀ n ∈ l, p n) {j : Nat} (hj : j < l.length) : p (l.getD j default) := by
 rw [getD_at _ _ hj]; exact h _ (List.getElem_mem hj)
end Go.Proofs.Ytdkmndimmpilaaa
namespace Go.Proofs.Ytdkmndimmpilaaa
set_option linter.all false
open Go.RowKit
set_option maxRecDepth 100000
set_option maxHeartbeats 1000000
theorem str_same (l : List ByteArray) (hl : l.length ≤ 9223372036854775807) : Spec Try.prog 62 [.c (.sl 1 (l.map strP)), .c (.sl 1 (l.map strP))] [] (B true) [] := by
 have h := str_eq l l hl hl
 rwa [decide_eq_true rfl] at h
theorem int_same (l : List Int) (hl : l.length ≤ 9223372036854775807) : Spec Try.prog 68 [.c (.sl 1 (l.map i64P)), .c (.sl 1 (l.map i64P))] [] (B true) [] := by
 have h := int_eq l l hl hl
 rwa [decide_eq_true rfl] at h
theorem same_lnk (l : Lnk) (hl : LnkL l) : Spec Try.prog 30 [lnkA l, lnkA l] [] (B true) [] := by
 obtain ⟨h1, h2, h3, h4, h5⟩ := hl
 refine spec_am Try.func30 rfl rfl mix 59 rfl [.tmp 4] Try.results30 (Nat.le_of_ble_eq_true rfl) ?_
 (iterate 2 ((try simp (etaStruct := .none) only [push_cast, DrawG, Int.cast_ofNat_Int, seval, lnkA]); (try (refine xsu ?_; try exact xtI))))
 refine gcP (fun hcc => str_same l.sent (by omega)) ?_
 (iterate 2 ((try simp (etaStruct := .none) only [push_cast, DrawG, Int.cast_ofNat_Int, seval, lnkA]); (try (refine xsu ?_; try exact xtI))))
 refine gcP (fun hcc => int_same l.way (by omega)) ?_
 (iterate 2 ((try simp (etaStruct := .none) only [push_cast, DrawG, Int.cast_ofNat_Int, seval, lnkA]); (try (refine xsu ?_; try exact xtI))))
 refine gcP (fun hcc => int_same l.acks (by omega)) ?_
 (iterate 2 ((try simp (etaStruct := .none) only [push_cast, DrawG, Int.cast_ofNat_Int, seval, lnkA]); (try (refine xsu ?_; try exact xtI))))
 refine gcP (fun hcc => str_same l.got (by omega)) ?_
 (iterate 2 ((try simp (etaStruct := .none) only [push_cast, DrawG, Int.cast_ofNat_Int, seval, lnkA]); (try (refine xsu ?_; try exact xtI))))
 refine gcP (fun hcc => int_same l.held (by omega)) ?_
 (iterate 2 ((try simp (etaStruct := .none) only [push_cast, DrawG, Int.cast_ofNat_Int, seval, lnkA]); (try (refine xsu ?_; try exact xtI))))
 exact xrz rfl
end Go.Proofs.Ytdkmndimmpilaaa
namespace Go.Proofs.Ytdkmndimmpilaaa
set_option linter.all false
open Go.RowKit
set_option maxRecDepth 100000
set_option maxHeartbeats 1000000
def rowI (l : List Int) : Chunk := .row 3 1 (l.map i64P)
def rowS (l : List ByteArray) : Chunk := .row 9 1 (l.map strP)
def frI (l : List Int) : AV := .c (.sl 1 (l.map i64P))
def frS (l : List ByteArray) : AV := .c (.sl 1 (l.map strP))
def cellL (l : Lnk) (s y a g h : AV) : List AV := [I .i64 l.window, s, I .i64 l.base, I .i64 l.next, y, a, g, h]
def aggL (l : Lnk) (s y a g h : AV) : AV := .agg (cellL l s y a g h)
def blkL (l : Lnk) (s y a g h : AV) : Chunk := .blk 57 (cellL l s y a g h)
theorem own_s (l : Lnk) (hl : LnkL l) : Spec Try.prog 60 [lnkA l] [] (aggL l (.own 0) (frI l.way) (frI l.acks) (frS l.got) (frI l.held)) [rowS l.sent] := by
 obtain ⟨h1, h2, h3, h4, h5⟩ := hl
 refine spec_am Try.func60 rfl rfl mix 24 rfl [.cell 2 57] Try.results60 (Nat.le_of_ble_eq_true rfl) ?_
 (iterate 2 ((try simp (etaStruct := .none) only [push_cast, DrawG, Int.cast_ofNat_Int, seval, lnkA]); (try (refine xsu ?_; try exact xtI))))
 refine caM [] (str_clone l.sent h1) ?_
 (iterate 2 ((try simp (etaStruct := .none) only [push_cast, DrawG, Int.cast_ofNat_Int, seval, lnkA]); (try (refine xsu ?_; try exact xtI))))
 refine caP (str_copy l.got h4) ?_
 (iterate 2 ((try simp (etaStruct := .none) only [push_cast, DrawG, Int.cast_ofNat_Int, seval, lnkA]); (try (refine xsu ?_; try exact xtI))))
 (try (refine ⟨by kernel_rfl, ?_⟩))
 (iterate 2 ((try simp (etaStruct := .none) only [push_cast, DrawG, Int.cast_ofNat_Int, seval, lnkA]); (try (refine xsu ?_; try exact xtI))))
 refine caP (int_copy l.way h2) ?_
 (iterate 2 ((try simp (etaStruct := .none) only [push_cast, DrawG, Int.cast_ofNat_Int, seval, lnkA]); (try (refine xsu ?_; try exact xtI))))
 refine caP (int_copy l.acks h3) ?_
 (iterate 2 ((try simp (etaStruct := .none) only [push_cast, DrawG, Int.cast_ofNat_Int, seval, lnkA]); (try (refine xsu ?_; try exact xtI))))
 refine caP (int_copy l.held h5) ?_
 (iterate 2 ((try simp (etaStruct := .none) only [push_cast, DrawG, Int.cast_ofNat_Int, seval, lnkA]); (try (refine xsu ?_; try exact xtI))))
 (try (refine ⟨by kernel_rfl, ?_⟩))
 (iterate 2 ((try simp (etaStruct := .none) only [push_cast, DrawG, Int.cast_ofNat_Int, seval, lnkA]); (try (refine xsu ?_; try exact xtI))))
 refine retM [10] rfl rfl (by decide) ⟨⟨rfl, rfl, rfl⟩, trivial⟩ (by repeat' (first | exact trivial | exact rfl | refine ⟨?_, ?_⟩)) (Wk.refl _)
theorem own_y (l : Lnk) (hl : LnkL l) : Spec Try.prog 60 [lnkA l] [] (aggL l (frS l.sent) (.own 0) (frI l.acks) (frS l.got) (frI l.held)) [rowI l.way] := by
 obtain ⟨h1, h2, h3, h4, h5⟩ := hl
 refine spec_am Try.func60 rfl rfl mix 24 rfl [.cell 2 57] Try.results60 (Nat.le_of_ble_eq_true rfl) ?_
 (iterate 2 ((try simp (etaStruct := .none) only [push_cast, DrawG, Int.cast_ofNat_Int, seval, lnkA]); (try (refine xsu ?_; try exact xtI))))
 refine caP (str_copy l.sent h1) ?_
 (iterate 2 ((try simp (etaStruct := .none) only [push_cast, DrawG, Int.cast_ofNat_Int, seval, lnkA]); (try (refine xsu ?_; try exact xtI))))
 refine caP (str_copy l.got h4) ?_
 (iterate 2 ((try simp (etaStruct := .none) only [push_cast, DrawG, Int.cast_ofNat_Int, seval, lnkA]); (try (refine xsu ?_; try exact xtI))))
 (try (refine ⟨by kernel_rfl, ?_⟩))
 (iterate 2 ((try simp (etaStruct := .none) only [push_cast, DrawG, Int.cast_ofNat_Int, seval, lnkA]); (try (refine xsu ?_; try exact xtI))))
 refine caM [] (int_clone l.way h2) ?_
 (iterate 2 ((try simp (etaStruct := .none) only [push_cast, DrawG, Int.cast_ofNat_Int, seval, lnkA]); (try (refine xsu ?_; try exact xtI))))
 refine caP (int_copy l.acks h3) ?_
 (iterate 2 ((try simp (etaStruct := .none) only [push_cast, DrawG, Int.cast_ofNat_Int, seval, lnkA]); (try (refine xsu ?_; try exact xtI))))
 refine caP (int_copy l.held h5) ?_
 (iterate 2 ((try simp (etaStruct := .none) only [push_cast, DrawG, Int.cast_ofNat_Int, seval, lnkA]); (try (refine xsu ?_; try exact xtI))))
 (try (refine ⟨by kernel_rfl, ?_⟩))
 (iterate 2 ((try simp (etaStruct := .none) only [push_cast, DrawG, Int.cast_ofNat_Int, seval, lnkA]); (try (refine xsu ?_; try exact xtI))))
 refine retM [50] rfl rfl (by decide) ⟨⟨rfl, rfl, rfl⟩, trivial⟩ (by repeat' (first | exact trivial | exact rfl | refine ⟨?_, ?_⟩)) (Wk.refl _)
theorem own_a (l : Lnk) (hl : LnkL l) : Spec Try.prog 60 [lnkA l] [] (aggL l (frS l.sent) (frI l.way) (.own 0) (frS l.got) (frI l.held)) [rowI l.acks] := by
 obtain ⟨h1, h2, h3, h4, h5⟩ := hl
 refine spec_am Try.func60 rfl rfl mix 24 rfl [.cell 2 57] Try.results60 (Nat.le_of_ble_eq_true rfl) ?_
 (iterate 2 ((try simp (etaStruct := .none) only [push_cast, DrawG, Int.cast_ofNat_Int, seval, lnkA]); (try (refine xsu ?_; try exact xtI))))
 refine caP (str_copy l.sent h1) ?_
 (iterate 2 ((try simp (etaStruct := .none) only [push_cast, DrawG, Int.cast_ofNat_Int, seval, lnkA]); (try (refine xsu ?_; try exact xtI))))
 refine caP (str_copy l.got h4) ?_
 (iterate 2 ((try simp (etaStruct := .none) only [push_cast, DrawG, Int.cast_ofNat_Int, seval, lnkA]); (try (refine xsu ?_; try exact xtI))))
 (try (refine ⟨by kernel_rfl, ?_⟩))
 (iterate 2 ((try simp (etaStruct := .none) only [push_cast, DrawG, Int.cast_ofNat_Int, seval, lnkA]); (try (refine xsu ?_; try exact xtI))))
 refine caP (int_copy l.way h2) ?_
 (iterate 2 ((try simp (etaStruct := .none) only [push_cast, DrawG, Int.cast_ofNat_Int, seval, lnkA]); (try (refine xsu ?_; try exact xtI))))
 refine caM [] (int_clone l.acks h3) ?_
 (iterate 2 ((try simp (etaStruct := .none) only [push_cast, DrawG, Int.cast_ofNat_Int, seval, lnkA]); (try (refine xsu ?_; try exact xtI))))
 refine caP (int_copy l.held h5) ?_
 (iterate 2 ((try simp (etaStruct := .none) only [push_cast, DrawG, Int.cast_ofNat_Int, seval, lnkA]); (try (refine xsu ?_; try exact xtI))))
 (try (refine ⟨by kernel_rfl, ?_⟩))
 (iterate 2 ((try simp (etaStruct := .none) only [push_cast, DrawG, Int.cast_ofNat_Int, seval, lnkA]); (try (refine xsu ?_; try exact xtI))))
 refine retM [62] rfl rfl (by decide) ⟨⟨rfl, rfl, rfl⟩, trivial⟩ (by repeat' (first | exact trivial | exact rfl | refine ⟨?_, ?_⟩)) (Wk.refl _)
theorem own_ya (l : Lnk) (hl : LnkL l) : Spec Try.prog 60 [lnkA l] [] (aggL l (frS l.sent) (.own 0) (.own 1) (frS l.got) (frI l.held)) [rowI l.way, rowI l.acks] := by
 obtain ⟨h1, h2, h3, h4, h5⟩ := hl
 refine spec_am Try.func60 rfl rfl mix 24 rfl [.cell 2 57] Try.results60 (Nat.le_of_ble_eq_true rfl) ?_
 (iterate 2 ((try simp (etaStruct := .none) only [push_cast, DrawG, Int.cast_ofNat_Int, seval, lnkA]); (try (refine xsu ?_; try exact xtI))))
 refine caP (str_copy l.sent h1) ?_
 (iterate 2 ((try simp (etaStruct := .none) only [push_cast, DrawG, Int.cast_ofNat_Int, seval, lnkA]); (try (refine xsu ?_; try exact xtI))))
 refine caP (str_copy l.got h4) ?_
 (iterate 2 ((try simp (etaStruct := .none) only [push_cast, DrawG, Int.cast_ofNat_Int, seval, lnkA]); (try (refine xsu ?_; try exact xtI))))
 (try (refine ⟨by kernel_rfl, ?_⟩))
 (iterate 2 ((try simp (etaStruct := .none) only [push_cast, DrawG, Int.cast_ofNat_Int, seval, lnkA]); (try (refine xsu ?_; try exact xtI))))
 refine caM [] (int_clone l.way h2) ?_
 (iterate 2 ((try simp (etaStruct := .none) only [push_cast, DrawG, Int.cast_ofNat_Int, seval, lnkA]); (try (refine xsu ?_; try exact xtI))))
 refine caM [] (int_clone l.acks h3) ?_
 (iterate 2 ((try simp (etaStruct := .none) only [push_cast, DrawG, Int.cast_ofNat_Int, seval, lnkA]); (try (refine xsu ?_; try exact xtI))))
 refine caP (int_copy l.held h5) ?_
 (iterate 2 ((try simp (etaStruct := .none) only [push_cast, DrawG, Int.cast_ofNat_Int, seval, lnkA]); (try (refine xsu ?_; try exact xtI))))
 (try (refine ⟨by kernel_rfl, ?_⟩))
 (iterate 2 ((try simp (etaStruct := .none) only [push_cast, DrawG, Int.cast_ofNat_Int, seval, lnkA]); (try (refine xsu ?_; try exact xtI))))
 refine retM [50, 62] rfl rfl (by decide) ⟨⟨rfl, rfl, rfl⟩, ⟨rfl, rfl, rfl⟩, trivial⟩ (by repeat' (first | exact trivial | exact rfl | refine ⟨?_, ?_⟩)) (Wk.refl _)
theorem own_yag (l : Lnk) (hl : LnkL l) : Spec Try.prog 60 [lnkA l] [] (aggL l (frS l.sent) (.own 0) (.own 1) (.own 2) (frI l.held)) [rowI l.way, rowI l.acks, rowS l.got] := by
 obtain ⟨h1, h2, h3, h4, h5⟩ := hl
 refine spec_am Try.func60 rfl rfl mix 24 rfl [.cell 2 57] Try.results60 (Nat.le_of_ble_eq_true rfl) ?_
 (iterate 2 ((try simp (etaStruct := .none) only [push_cast, DrawG, Int.cast_ofNat_Int, seval, lnkA]); (try (refine xsu ?_; try exact xtI))))
 refine caP (str_copy l.sent h1) ?_
 (iterate 2 ((try simp (etaStruct := .none) only [push_cast, DrawG, Int.cast_ofNat_Int, seval, lnkA]); (try (refine xsu ?_; try exact xtI))))
 refine caM [] (str_clone l.got h4) ?_
 (iterate 2 ((try simp (etaStruct := .none) only [push_cast, DrawG, Int.cast_ofNat_Int, seval, lnkA]); (try (refine xsu ?_; try exact xtI))))
 (try (refine ⟨by kernel_rfl, ?_⟩))
 (iterate 2 ((try simp (etaStruct := .none) only [push_cast, DrawG, Int.cast_ofNat_Int, seval, lnkA]); (try (refine xsu ?_; try exact xtI))))
 refine caM [] (int_clone l.way h2) ?_
 (iterate 2 ((try simp (etaStruct := .none) only [push_cast, DrawG, Int.cast_ofNat_Int, seval, lnkA]); (try (refine xsu ?_; try exact xtI))))
 refine caM [] (int_clone l.acks h3) ?_
 (iterate 2 ((try simp (etaStruct := .none) only [push_cast, DrawG, Int.cast_ofNat_Int, seval, lnkA]); (try (refine xsu ?_; try exact xtI))))
 refine caP (int_copy l.held h5) ?_
 (iterate 2 ((try simp (etaStruct := .none) only [push_cast, DrawG, Int.cast_ofNat_Int, seval, lnkA]); (try (refine xsu ?_; try exact xtI))))
 (try (refine ⟨by kernel_rfl, ?_⟩))
 (iterate 2 ((try simp (etaStruct := .none) only [push_cast, DrawG, Int.cast_ofNat_Int, seval, lnkA]); (try (refine xsu ?_; try exact xtI))))
 refine retM [50, 62, 22] rfl rfl (by decide) ⟨⟨rfl, rfl, rfl⟩, ⟨rfl, rfl, rfl⟩, ⟨rfl, rfl, rfl⟩, trivial⟩ (by repeat' (first | exact trivial | exact rfl | refine ⟨?_, ?_⟩)) (Wk.refl _)
theorem own_yah (l : Lnk) (hl : LnkL l) : Spec Try.prog 60 [lnkA l] [] (aggL l (frS l.sent) (.own 0) (.own 1) (frS l.got) (.own 2)) [rowI l.way, rowI l.acks, rowI l.held] := by
 obtain ⟨h1, h2, h3, h4, h5⟩ := hl
 refine spec_am Try.func60 rfl rfl mix 24 rfl [.cell 2 57] Try.results60 (Nat.le_of_ble_eq_true rfl) ?_
 (iterate 2 ((try simp (etaStruct := .none) only [push_cast, DrawG, Int.cast_ofNat_Int, seval, lnkA]); (try (refine xsu ?_; try exact xtI))))
 refine caP (str_copy l.sent h1) ?_
 (iterate 2 ((try simp (etaStruct := .none) only [push_cast, DrawG, Int.cast_ofNat_Int, seval, lnkA]); (try (refine xsu ?_; try exact xtI))))
 refine caP (str_copy l.got h4) ?_
 (iterate 2 ((try simp (etaStruct := .none) only [push_cast, DrawG, Int.cast_ofNat_Int, seval, lnkA]); (try (refine xsu ?_; try exact xtI))))
 (try (refine ⟨by kernel_rfl, ?_⟩))
 (iterate 2 ((try simp (etaStruct := .none) only [push_cast, DrawG, Int.cast_ofNat_Int, seval, lnkA]); (try (refine xsu ?_; try exact xtI))))
 refine caM [] (int_clone l.way h2) ?_
 (iterate 2 ((try simp (etaStruct := .none) only [push_cast, DrawG, Int.cast_ofNat_Int, seval, lnkA]); (try (refine xsu ?_; try exact xtI))))
 refine caM [] (int_clone l.acks h3) ?_
 (iterate 2 ((try simp (etaStruct := .none) only [push_cast, DrawG, Int.cast_ofNat_Int, seval, lnkA]); (try (refine xsu ?_; try exact xtI))))
 refine caM [] (int_clone l.held h5) ?_
 (iterate 2 ((try simp (etaStruct := .none) only [push_cast, DrawG, Int.cast_ofNat_Int, seval, lnkA]); (try (refine xsu ?_; try exact xtI))))
 (try (refine ⟨by kernel_rfl, ?_⟩))
 (iterate 2 ((try simp (etaStruct := .none) only [push_cast, DrawG, Int.cast_ofNat_Int, seval, lnkA]); (try (refine xsu ?_; try exact xtI))))
 refine retM [50, 62, 74] rfl rfl (by decide) ⟨⟨rfl, rfl, rfl⟩, ⟨rfl, rfl, rfl⟩, ⟨rfl, rfl, rfl⟩, trivial⟩ (by repeat' (first | exact trivial | exact rfl | refine ⟨?_, ?_⟩)) (Wk.refl _)
end Go.Proofs.Ytdkmndimmpilaaa
namespace Go.Proofs.Ytdkmndimmpilaaa
set_option linter.all false
open Go.RowKit Go.Shelf
set_option maxRecDepth 100000
set_option maxHeartbeats 1000000
def layIns_ren : Go.Shelf.Ren := ⟨fun | 21 => 105 | 27 => 113 | 28 => 114 | 35 => 118 | 39 => 119 | n => n, fun | 0 => 0 | 3 => 3 | 4 => 4 | 22 => 55 | n => n, fun | n => n⟩
theorem layIns : Lays2.n21 Try.prog layIns_ren := {
 mixed := by kernel_rfl
 f21 := Try.func105.trans (congrArg some (by kernel_rfl))
 f27 := Try.func113.trans (congrArg some (by kernel_rfl))
 f28 := Try.func114.trans (congrArg some (by kernel_rfl))
 f35 := Try.func118.trans (congrArg some (by kernel_rfl))
 f39 := Try.func119.trans (congrArg some (by kernel_rfl))
 t0 := Try.underlying0
 a0 := Try.isAgg0
 z0 := Try.sizeOf0
 v0 := Try.zeroValue0
 t3 := Try.underlying3
 a3 := Try.isAgg3
 z3 := Try.sizeOf3
 v3 := Try.zeroValue3
 t4 := Try.underlying4
 a4 := Try.isAgg4
 z4 := Try.sizeOf4
 v4 := Try.zeroValue4
 t22 := Try.underlying55
 a22 := Try.isAgg55
 z22 := Try.sizeOf55
 v22 := Try.zeroValue55
 i3 := by kernel_rfl }
def layDel_ren : Go.Shelf.Ren := ⟨fun | 23 => 103 | n => n, fun | 0 => 0 | 3 => 3 | 4 => 4 | 22 => 55 | n => n, fun | n => n⟩
theorem layDel : Lays2.n23 Try.prog layDel_ren := {
 mixed := by kernel_rfl
 f23 := Try.func103.trans (congrArg some (by kernel_rfl))
 t0 := Try.underlying0
 a0 := Try.isAgg0
 z0 := Try.sizeOf0
 v0 := Try.zeroValue0
 t3 := Try.underlying3
 a3 := Try.isAgg3
 z3 := Try.sizeOf3
 v3 := Try.zeroValue3
 t4 := Try.underlying4
 a4 := Try.isAgg4
 z4 := Try.sizeOf4
 v4 := Try.zeroValue4
 t22 := Try.underlying55
 a22 := Try.isAgg55
 z22 := Try.sizeOf55
 v22 := Try.zeroValue55
 i3 := by kernel_rfl }
def layBs_ren : Go.Shelf.Ren := ⟨fun | 25 => 104 | 31 => 111 | 32 => 112 | 37 => 117 | n => n, fun | 0 => 0 | 3 => 3 | 4 => 4 | 22 => 55 | 40 => 121 | n => n, fun | n => n⟩
theorem layBs : Lays2.n25 Try.prog layBs_ren := {
 mixed := by kernel_rfl
 f25 := Try.func104.trans (congrArg some (by kernel_rfl))
 f31 := Try.func111.trans (congrArg some (by kernel_rfl))
 f32 := Try.func112.trans (congrArg some (by kernel_rfl))
 f37 := Try.func117.trans (congrArg some (by kernel_rfl))
 t0 := Try.underlying0
 a0 := Try.isAgg0
 z0 := Try.sizeOf0
 v0 := Try.zeroValue0
 t3 := Try.underlying3
 a3 := Try.isAgg3
 z3 := Try.sizeOf3
 v3 := Try.zeroValue3
 t4 := Try.underlying4
 a4 := Try.isAgg4
 z4 := Try.sizeOf4
 v4 := Try.zeroValue4
 t22 := Try.underlying55
 a22 := Try.isAgg55
 z22 := Try.sizeOf55
 v22 := Try.zeroValue55
 t40 := Try.underlying121
 a40 := Try.isAgg121
 z40 := Try.sizeOf121
 v40 := Try.zeroValue121 }
theorem ins_s (xs : List Int) (i : Nat) (hi : i ≤ xs.length) (hsm : xs.length ≤ 1000000) (x : Int) : Spec Try.prog 105 [.own 0, I .i64 i, .own 1] [.row 3 1 (xs.map i64P), .row 3 1 [i64P x]] (.own 2) [.dead, .dead, .row 3 1 ((xs.take i ++ x :: xs.drop i).map i64P)] :=
 insert_s layIns (enters Try.func105 (by kernel_rfl) rfl) xs i hi hsm x
theorem del_s (xs : List Int) (i j : Nat) (hij : i ≤ j) (hj : j ≤ xs.length) (h0 : 0 < xs.length) : Spec Try.prog 103 [.own 0, I .i64 i, I .i64 j] [.row 3 1 (xs.map i64P)] (.own 1) [.dead, .row 3 1 ((xs.take i ++ xs.drop j).map i64P)] :=
 delete_s layDel (enters Try.func103 (by kernel_rfl) rfl) 3 xs i j hij hj h0
theorem bs_s (xs : List Int) (x : Int) (hl : xs.length < 4611686018427387904) (hs : xs.Pairwise (· ≤ ·)) : Spec Try.prog 104 [.c (.sl 1 (xs.map i64P)), I .i64 x] [] (.tup [I .i64 (xs.countP (· < x) : Nat), B (xs.contains x)]) [] :=
 bsearch_s layBs (enters Try.func104 (by kernel_rfl) rfl) xs x hl hs
end Go.Proofs.Ytdkmndimmpilaaa
namespace Go.Proofs.Ytdkmndimmpilaaa
set_option linter.all false
open Go.RowKit
set_option maxRecDepth 100000
set_option maxHeartbeats 1000000
theorem tk_y_bad (l : Lnk) (at_ : Int) (keep : Bool) (hl : LnkL l) (h : at_ < 0 ∨ (l.way.length : Int) ≤ at_) : Spec Try.prog 90 [.ptr 0 0 4, I .i64 at_, B keep] [blkL l (frS l.sent) (frI l.way) (frI l.acks) (frS l.got) (frI l.held)] (.tup [I .i64 0, B false]) [blkL l (frS l.sent) (frI l.way) (frI l.acks) (frS l.got) (frI l.held)] := by
 obtain ⟨h1, h2, h3, h4, h5⟩ := hl
 refine spec_am Try.func90 rfl rfl mix 37 rfl [.tmp 6, .tmp 7] Try.results90 (Nat.le_of_ble_eq_true rfl) ?_
 (iterate 2 ((try simp (etaStruct := .none) only [push_cast, DrawG, Int.cast_ofNat_Int, seval, blkL, cellL, frS, frI]); (try (refine xsu ?_; try exact xtI))))
 refine cond_i (fun h1 => ?_) (fun h1 => ?_)
 ·(try replace h1 := xhh h1)
  (iterate 2 ((try simp (etaStruct := .none) only [push_cast, DrawG, Int.cast_ofNat_Int, seval, blkL, cellL, frS, frI]); (try (refine xsu ?_; try exact xtI))))
  exact retM [0] rfl rfl (by decide) ⟨⟨rfl, WkL.refl _⟩, trivial⟩ (by repeat' (first | exact trivial | exact rfl | omega | refine ⟨?_, ?_⟩)) (Wk.refl _)
 ·(try replace h1 := xhh h1)
  omega
theorem tk_a_bad (l : Lnk) (at_ : Int) (keep : Bool) (hl : LnkL l) (h : at_ < 0 ∨ (l.acks.length : Int) ≤ at_) : Spec Try.prog 90 [.ptr 0 0 5, I .i64 at_, B keep] [blkL l (frS l.sent) (frI l.way) (frI l.acks) (frS l.got) (frI l.held)] (.tup [I .i64 0, B false]) [blkL l (frS l.sent) (frI l.way) (frI l.acks) (frS l.got) (frI l.held)] := by
 obtain ⟨h1, h2, h3, h4, h5⟩ := hl
 refine spec_am Try.func90 rfl rfl mix 37 rfl [.tmp 6, .tmp 7] Try.results90 (Nat.le_of_ble_eq_true rfl) ?_
 (iterate 2 ((try simp (etaStruct := .none) only [push_cast, DrawG, Int.cast_ofNat_Int, seval, blkL, cellL, frS, frI]); (try (refine xsu ?_; try exact xtI))))
 refine cond_i (fun h1 => ?_) (fun h1 => ?_)
 ·(try replace h1 := xhh h1)
  (iterate 2 ((try simp (etaStruct := .none) only [push_cast, DrawG, Int.cast_ofNat_Int, seval, blkL, cellL, frS, frI]); (try (refine xsu ?_; try exact xtI))))
  exact retM [0] rfl rfl (by decide) ⟨⟨rfl, WkL.refl _⟩, trivial⟩ (by repeat' (first | exact trivial | exact rfl | omega | refine ⟨?_, ?_⟩)) (Wk.refl _)
 ·(try replace h1 := xhh h1)
  omega
theorem tk_y_0_k (l : Lnk) (at_ : Int) (hl : LnkL l) (h : 0 ≤ at_ ∧ at_ < (l.way.length : Int)) : Spec Try.prog 90 [.ptr 0 0 4, I .i64 at_, B true] [blkL l (frS l.sent) (frI l.way) (frI l.acks) (frS l.got) (frI l.held)] (.tup [I .i64 (l.way.getD at_.toNat default), B true]) [blkL l (frS l.sent) (frI l.way) (frI l.acks) (frS l.got) (frI l.held)] := by
 obtain ⟨h1, h2, h3, h4, h5⟩ := hl
 have hlt : at_.toNat < l.way.length := by omega
 obtain ⟨i, rfl⟩ : ∃ i : Nat, at_ = i := ⟨at_.toNat, by omega⟩
 rw [Int.toNat_natCast] at hlt ⊢
 refine spec_am Try.func90 rfl rfl mix 37 rfl [.tmp 6, .tmp 7] Try.results90 (Nat.le_of_ble_eq_true rfl) ?_
 (iterate 2 ((try simp (etaStruct := .none) only [push_cast, DrawG, Int.cast_ofNat_Int, seval, blkL, cellL, frS, frI, rowI, rowS, getD_in _ _ _ hlt, i64P]); (try (refine xsu ?_; try exact xtI))))
 refine cond_i (fun h1 => ?_) (fun h1 => ?_)
 ·(try replace h1 := xhh h1)
  omega
 ·(try replace h1 := xhh h1)
  (iterate 2 ((try simp (etaStruct := .none) only [push_cast, DrawG, Int.cast_ofNat_Int, seval, blkL, cellL, frS, frI, rowI, rowS, getD_in _ _ _ hlt, i64P]); (try (refine xsu ?_; try exact xtI))))
  refine cond_i (fun h2 => ?_) (fun h2 => ?_)
  ·(try replace h2 := xhh h2)
   simp at h2
  ·(try replace h2 := xhh h2)
   (iterate 2 ((try simp (etaStruct := .none) only [push_cast, DrawG, Int.cast_ofNat_Int, seval, blkL, cellL, frS, frI, rowI, rowS, getD_in _ _ _ hlt, i64P]); (try (refine xsu ?_; try exact xtI))))
   exact retM [0] rfl rfl (by decide) ⟨⟨rfl, WkL.refl _⟩, trivial⟩ (by repeat' (first | exact trivial | exact rfl | omega | refine ⟨?_, ?_⟩)) (Wk.refl _)
theorem tk_y_y_n (l : Lnk) (at_ : Int) (hl : LnkL l) (h : 0 ≤ at_ ∧ at_ < (l.way.length : Int)) : Spec Try.prog 90 [.ptr 0 0 4, I .i64 at_, B false] [blkL l (frS l.sent) (.own 1) (frI l.acks) (frS l.got) (frI l.held), rowI l.way] (.tup [I .i64 (l.way.getD at_.toNat default), B true]) [blkL l (frS l.sent) (.own 2) (frI l.acks) (frS l.got) (frI l.held), .dead, rowI (cutV l.way at_.toNat)] := by
 obtain ⟨h1, h2, h3, h4, h5⟩ := hl
 have hlt : at_.toNat < l.way.length := by omega
 obtain ⟨i, rfl⟩ : ∃ i : Nat, at_ = i := ⟨at_.toNat, by omega⟩
 rw [Int.toNat_natCast] at hlt ⊢
 refine spec_am Try.func90 rfl rfl mix 37 rfl [.tmp 6, .tmp 7] Try.results90 (Nat.le_of_ble_eq_true rfl) ?_
 (iterate 2 ((try simp (etaStruct := .none) only [push_cast, DrawG, Int.cast_ofNat_Int, seval, blkL, cellL, frS, frI, rowI, rowS, getD_in _ _ _ hlt, i64P]); (try (refine xsu ?_; try exact xtI))))
 refine cond_i (fun h1 => ?_) (fun h1 => ?_)
 ·(try replace h1 := xhh h1)
  omega
 ·(try replace h1 := xhh h1)
  (iterate 2 ((try simp (etaStruct := .none) only [push_cast, DrawG, Int.cast_ofNat_Int, seval, blkL, cellL, frS, frI, rowI, rowS, getD_in _ _ _ hlt, i64P]); (try (refine xsu ?_; try exact xtI))))
  refine cond_i (fun h2 => ?_) (fun h2 => ?_)
  ·(try replace h2 := xhh h2)
   (iterate 2 ((try simp (etaStruct := .none) only [push_cast, DrawG, Int.cast_ofNat_Int, seval, blkL, cellL, frS, frI, rowI, rowS, getD_in _ _ _ hlt, i64P]); (try (refine xsu ?_; try exact xtI))))
   refine caM [1] (del_s l.way i (i + 1) (by omega) (by omega) (by omega)) ?_
   (iterate 2 ((try simp (etaStruct := .none) only [push_cast, DrawG, Int.cast_ofNat_Int, seval, blkL, cellL, frS, frI, rowI, rowS, getD_in _ _ _ hlt, i64P]); (try (refine xsu ?_; try exact xtI))))
   exact retM [0, 1, 2] rfl rfl (by decide) ⟨⟨rfl, WkL.refl _⟩, trivial, ⟨rfl, rfl, rfl⟩, trivial⟩ (by repeat' (first | exact trivial | exact rfl | omega | refine ⟨?_, ?_⟩)) (Wk.refl _)
  ·(try replace h2 := xhh h2)
   simp at h2
theorem tk_y_ya_k (l : Lnk) (at_ : Int) (hl : LnkL l) (h : 0 ≤ at_ ∧ at_ < (l.way.length : Int)) : Spec Try.prog 90 [.ptr 0 0 4, I .i64 at_, B true] [blkL l (frS l.sent) (.own 1) (.own 2) (frS l.got) (frI l.held), rowI l.way, rowI l.acks] (.tup [I .i64 (l.way.getD at_.toNat default), B true]) [blkL l (frS l.sent) (.own 1) (.own 2) (frS l.got) (frI l.held), rowI l.way, rowI l.acks] := by
 obtain ⟨h1, h2, h3, h4, h5⟩ := hl
 have hlt : at_.toNat < l.way.length := by omega
 obtain ⟨i, rfl⟩ : ∃ i : Nat, at_ = i := ⟨at_.toNat, by omega⟩
 rw [Int.toNat_natCast] at hlt ⊢
 refine spec_am Try.func90 rfl rfl mix 37 rfl [.tmp 6, .tmp 7] Try.results90 (Nat.le_of_ble_eq_true rfl) ?_
 (iterate 2 ((try simp (etaStruct := .none) only [push_cast, DrawG, Int.cast_ofNat_Int, seval, blkL, cellL, frS, frI, rowI, rowS, getD_in _ _ _ hlt, i64P]); (try (refine xsu ?_; try exact xtI))))
 refine cond_i (fun h1 => ?_) (fun h1 => ?_)
 ·(try replace h1 := xhh h1)
  omega
 ·(try replace h1 := xhh h1)
  (iterate 2 ((try simp (etaStruct := .none) only [push_cast, DrawG, Int.cast_ofNat_Int, seval, blkL, cellL, frS, frI, rowI, rowS, getD_in _ _ _ hlt, i64P]); (try (refine xsu ?_; try exact xtI))))
  refine cond_i (fun h2 => ?_) (fun h2 => ?_)
  ·(try replace h2 := xhh h2)
   simp at h2
  ·(try replace h2 := xhh h2)
   (iterate 2 ((try simp (etaStruct := .none) only [push_cast, DrawG, Int.cast_ofNat_Int, seval, blkL, cellL, frS, frI, rowI, rowS, getD_in _ _ _ hlt, i64P]); (try (refine xsu ?_; try exact xtI))))
   exact retM [0, 1, 2] rfl rfl (by decide) ⟨⟨rfl, WkL.refl _⟩, ⟨rfl, rfl, rfl⟩, ⟨rfl, rfl, rfl⟩, trivial⟩ (by repeat' (first | exact trivial | exact rfl | omega | refine ⟨?_, ?_⟩)) (Wk.refl _)
theorem tk_y_ya_n (l : Lnk) (at_ : Int) (hl : LnkL l) (h : 0 ≤ at_ ∧ at_ < (l.way.length : Int)) : Spec Try.prog 90 [.ptr 0 0 4, I .i64 at_, B false] [blkL l (frS l.sent) (.own 1) (.own 2) (frS l.got) (frI l.held), rowI l.way, rowI l.acks] (.tup [I .i64 (l.way.getD at_.toNat default), B true]) [blkL l (frS l.sent) (.own 3) (.own 2) (frS l.got) (frI l.held), .dead, rowI l.acks, rowI (cutV l.way at_.toNat)] := by
 obtain ⟨h1, h2, h3, h4, h5⟩ := hl
 have hlt : at_.toNat < l.way.length := by omega
 obtain ⟨i, rfl⟩ : ∃ i : Nat, at_ = i := ⟨at_.toNat, by omega⟩
 rw [Int.toNat_natCast] at hlt ⊢
 refine spec_am Try.func90 rfl rfl mix 37 rfl [.tmp 6, .tmp 7] Try.results90 (Nat.le_of_ble_eq_true rfl) ?_
 (iterate 2 ((try simp (etaStruct := .none) only [push_cast, DrawG, Int.cast_ofNat_Int, seval, blkL, cellL, frS, frI, rowI, rowS, getD_in _ _ _ hlt, i64P]); (try (refine xsu ?_; try exact xtI))))
 refine cond_i (fun h1 => ?_) (fun h1 => ?_)
 ·(try replace h1 := xhh h1)
  omega
 ·(try replace h1 := xhh h1)
  (iterate 2 ((try simp (etaStruct := .none) only [push_cast, DrawG, Int.cast_ofNat_Int, seval, blkL, cellL, frS, frI, rowI, rowS, getD_in _ _ _ hlt, i64P]); (try (refine xsu ?_; try exact xtI))))
  refine cond_i (fun h2 => ?_) (fun h2 => ?_)
  ·(try replace h2 := xhh h2)
   (iterate 2 ((try simp (etaStruct := .none) only [push_cast, DrawG, Int.cast_ofNat_Int, seval, blkL, cellL, frS, frI, rowI, rowS, getD_in _ _ _ hlt, i64P]); (try (refine xsu ?_; try exact xtI))))
   refine caM [1] (del_s l.way i (i + 1) (by omega) (by omega) (by omega)) ?_
   (iterate 2 ((try simp (etaStruct := .none) only [push_cast, DrawG, Int.cast_ofNat_Int, seval, blkL, cellL, frS, frI, rowI, rowS, getD_in _ _ _ hlt, i64P]); (try (refine xsu ?_; try exact xtI))))
   exact retM [0, 1, 2, 3] rfl rfl (by decide) ⟨⟨rfl, WkL.refl _⟩, trivial, ⟨rfl, rfl, rfl⟩, ⟨rfl, rfl, rfl⟩, trivial⟩ (by repeat' (first | exact trivial | exact rfl | omega | refine ⟨?_, ?_⟩)) (Wk.refl _)
  ·(try replace h2 := xhh h2)
   simp at h2
theorem tk_y_yag_k (l : Lnk) (at_ : Int) (hl : LnkL l) (h : 0 ≤ at_ ∧ at_ < (l.way.length : Int)) : Spec Try.prog 90 [.ptr 0 0 4, I .i64 at_, B true] [blkL l (frS l.sent) (.own 1) (.own 2) (.own 3) (frI l.held), rowI l.way, rowI l.acks, rowS l.got] (.tup [I .i64 (l.way.getD at_.toNat default), B true]) [blkL l (frS l.sent) (.own 1) (.own 2) (.own 3) (frI l.held), rowI l.way, rowI l.acks, rowS l.got] := by
 obtain ⟨h1, h2, h3, h4, h5⟩ := hl
 have hlt : at_.toNat < l.way.length := by omega
 obtain ⟨i, rfl⟩ : ∃ i : Nat, at_ = i := ⟨at_.toNat, by omega⟩
 rw [Int.toNat_natCast] at hlt ⊢
 refine spec_am Try.func90 rfl rfl mix 37 rfl [.tmp 6, .tmp 7] Try.results90 (Nat.le_of_ble_eq_true rfl) ?_
 (iterate 2 ((try simp (etaStruct := .none) only [push_cast, DrawG, Int.cast_ofNat_Int, seval, blkL, cellL, frS, frI, rowI, rowS, getD_in _ _ _ hlt, i64P]); (try (refine xsu ?_; try exact xtI))))
 refine cond_i (fun h1 => ?_) (fun h1 => ?_)
 ·(try replace h1 := xhh h1)
  omega
 ·(try replace h1 := xhh h1)
  (iterate 2 ((try simp (etaStruct := .none) only [push_cast, DrawG, Int.cast_ofNat_Int, seval, blkL, cellL, frS, frI, rowI, rowS, getD_in _ _ _ hlt, i64P]); (try (refine xsu ?_; try exact xtI))))
  refine cond_i (fun h2 => ?_) (fun h2 => ?_)
  ·(try replace h2 := xhh h2)
   simp at h2
  ·(try replace h2 := xhh h2)
   (iterate 2 ((try simp (etaStruct := .none) only [push_cast, DrawG, Int.cast_ofNat_Int, seval, blkL, cellL, frS, frI, rowI, rowS, getD_in _ _ _ hlt, i64P]); (try (refine xsu ?_; try exact xtI))))
   exact retM [0, 1, 2, 3] rfl rfl (by decide) ⟨⟨rfl, WkL.refl _⟩, ⟨rfl, rfl, rfl⟩, ⟨rfl, rfl, rfl⟩, ⟨rfl, rfl, rfl⟩, trivial⟩ (by repeat' (first | exact trivial | exact rfl | omega | refine ⟨?_, ?_⟩)) (Wk.refl _)
theorem tk_y_yag_n (l : Lnk) (at_ : Int) (hl : LnkL l) (h : 0 ≤ at_ ∧ at_ < (l.way.length : Int)) : Spec Try.prog 90 [.ptr 0 0 4, I .i64 at_, B false] [blkL l (frS l.sent) (.own 1) (.own 2) (.own 3) (frI l.held), rowI l.way, rowI l.acks, rowS l.got] (.tup [I .i64 (l.way.getD at_.toNat default), B true]) [blkL l (frS l.sent) (.own 4) (.own 2) (.own 3) (frI l.held), .dead, rowI l.acks, rowS l.got, rowI (cutV l.way at_.toNat)] := by
 obtain ⟨h1, h2, h3, h4, h5⟩ := hl
 have hlt : at_.toNat < l.way.length := by omega
 obtain ⟨i, rfl⟩ : ∃ i : Nat, at_ = i := ⟨at_.toNat, by omega⟩
 rw [Int.toNat_natCast] at hlt ⊢
 refine spec_am Try.func90 rfl rfl mix 37 rfl [.tmp 6, .tmp 7] Try.results90 (Nat.le_of_ble_eq_true rfl) ?_
 (iterate 2 ((try simp (etaStruct := .none) only [push_cast, DrawG, Int.cast_ofNat_Int, seval, blkL, cellL, frS, frI, rowI, rowS, getD_in _ _ _ hlt, i64P]); (try (refine xsu ?_; try exact xtI))))
 refine cond_i (fun h1 => ?_) (fun h1 => ?_)
 ·(try replace h1 := xhh h1)
  omega
 ·(try replace h1 := xhh h1)
  (iterate 2 ((try simp (etaStruct := .none) only [push_cast, DrawG, Int.cast_ofNat_Int, seval, blkL, cellL, frS, frI, rowI, rowS, getD_in _ _ _ hlt, i64P]); (try (refine xsu ?_; try exact xtI))))
  refine cond_i (fun h2 => ?_) (fun h2 => ?_)
  ·(try replace h2 := xhh h2)
   (iterate 2 ((try simp (etaStruct := .none) only [push_cast, DrawG, Int.cast_ofNat_Int, seval, blkL, cellL, frS, frI, rowI, rowS, getD_in _ _ _ hlt, i64P]); (try (refine xsu ?_; try exact xtI))))
   refine caM [1] (del_s l.way i (i + 1) (by omega) (by omega) (by omega)) ?_
   (iterate 2 ((try simp (etaStruct := .none) only [push_cast, DrawG, Int.cast_ofNat_Int, seval, blkL, cellL, frS, frI, rowI, rowS, getD_in _ _ _ hlt, i64P]); (try (refine xsu ?_; try exact xtI))))
   exact retM [0, 1, 2, 3, 4] rfl rfl (by decide) ⟨⟨rfl, WkL.refl _⟩, trivial, ⟨rfl, rfl, rfl⟩, ⟨rfl, rfl, rfl⟩, ⟨rfl, rfl, rfl⟩, trivial⟩ (by repeat' (first | exact trivial | exact rfl | omega | refine ⟨?_, ?_⟩)) (Wk.refl _)
  ·(try replace h2 := xhh h2)
   simp at h2
theorem tk_y_yah_k (l : Lnk) (at_ : Int) (hl : LnkL l) (h : 0 ≤ at_ ∧ at_ < (l.way.length : Int)) : Spec Try.prog 90 [.ptr 0 0 4, I .i64 at_, B true] [blkL l (frS l.sent) (.own 1) (.own 2) (frS l.got) (.own 3), rowI l.way, rowI l.acks, rowI l.held] (.tup [I .i64 (l.way.getD at_.toNat default), B true]) [blkL l (frS l.sent) (.own 1) (.own 2) (frS l.got) (.own 3), rowI l.way, rowI l.acks, rowI l.held] := by
 obtain ⟨h1, h2, h3, h4, h5⟩ := hl
 have hlt : at_.toNat < l.way.length := by omega
 obtain ⟨i, rfl⟩ : ∃ i : Nat, at_ = i := ⟨at_.toNat, by omega⟩
 rw [Int.toNat_natCast] at hlt ⊢
 refine spec_am Try.func90 rfl rfl mix 37 rfl [.tmp 6, .tmp 7] Try.results90 (Nat.le_of_ble_eq_true rfl) ?_
 (iterate 2 ((try simp (etaStruct := .none) only [push_cast, DrawG, Int.cast_ofNat_Int, seval, blkL, cellL, frS, frI, rowI, rowS, getD_in _ _ _ hlt, i64P]); (try (refine xsu ?_; try exact xtI))))
 refine cond_i (fun h1 => ?_) (fun h1 => ?_)
 ·(try replace h1 := xhh h1)
  omega
 ·(try replace h1 := xhh h1)
  (iterate 2 ((try simp (etaStruct := .none) only [push_cast, DrawG, Int.cast_ofNat_Int, seval, blkL, cellL, frS, frI, rowI, rowS, getD_in _ _ _ hlt, i64P]); (try (refine xsu ?_; try exact xtI))))
  refine cond_i (fun h2 => ?_) (fun h2 => ?_)
  ·(try replace h2 := xhh h2)
   simp at h2
  ·(try replace h2 := xhh h2)
   (iterate 2 ((try simp (etaStruct := .none) only [push_cast, DrawG, Int.cast_ofNat_Int, seval, blkL, cellL, frS, frI, rowI, rowS, getD_in _ _ _ hlt, i64P]); (try (refine xsu ?_; try exact xtI))))
   exact retM [0, 1, 2, 3] rfl rfl (by decide) ⟨⟨rfl, WkL.refl _⟩, ⟨rfl, rfl, rfl⟩, ⟨rfl, rfl, rfl⟩, ⟨rfl, rfl, rfl⟩, trivial⟩ (by repeat' (first | exact trivial | exact rfl | omega | refine ⟨?_, ?_⟩)) (Wk.refl _)
theorem tk_y_yah_n (l : Lnk) (at_ : Int) (hl : LnkL l) (h : 0 ≤ at_ ∧ at_ < (l.way.length : Int)) : Spec Try.prog 90 [.ptr 0 0 4, I .i64 at_, B false] [blkL l (frS l.sent) (.own 1) (.own 2) (frS l.got) (.own 3), rowI l.way, rowI l.acks, rowI l.held] (.tup [I .i64 (l.way.getD at_.toNat default), B true]) [blkL l (frS l.sent) (.own 4) (.own 2) (frS l.got) (.own 3), .dead, rowI l.acks, rowI l.held, rowI (cutV l.way at_.toNat)] := by
 obtain ⟨h1, h2, h3, h4, h5⟩ := hl
 have hlt : at_.toNat < l.way.length := by omega
 obtain ⟨i, rfl⟩ : ∃ i : Nat, at_ = i := ⟨at_.toNat, by omega⟩
 rw [Int.toNat_natCast] at hlt ⊢
 refine spec_am Try.func90 rfl rfl mix 37 rfl [.tmp 6, .tmp 7] Try.results90 (Nat.le_of_ble_eq_true rfl) ?_
 (iterate 2 ((try simp (etaStruct := .none) only [push_cast, DrawG, Int.cast_ofNat_Int, seval, blkL, cellL, frS, frI, rowI, rowS, getD_in _ _ _ hlt, i64P]); (try (refine xsu ?_; try exact xtI))))
 refine cond_i (fun h1 => ?_) (fun h1 => ?_)
 ·(try replace h1 := xhh h1)
  omega
 ·(try replace h1 := xhh h1)
  (iterate 2 ((try simp (etaStruct := .none) only [push_cast, DrawG, Int.cast_ofNat_Int, seval, blkL, cellL, frS, frI, rowI, rowS, getD_in _ _ _ hlt, i64P]); (try (refine xsu ?_; try exact xtI))))
  refine cond_i (fun h2 => ?_) (fun h2 => ?_)
  ·(try replace h2 := xhh h2)
   (iterate 2 ((try simp (etaStruct := .none) only [push_cast, DrawG, Int.cast_ofNat_Int, seval, blkL, cellL, frS, frI, rowI, rowS, getD_in _ _ _ hlt, i64P]); (try (refine xsu ?_; try exact xtI))))
   refine caM [1] (del_s l.way i (i + 1) (by omega) (by omega) (by omega)) ?_
   (iterate 2 ((try simp (etaStruct := .none) only [push_cast, DrawG, Int.cast_ofNat_Int, seval, blkL, cellL, frS, frI, rowI, rowS, getD_in _ _ _ hlt, i64P]); (try (refine xsu ?_; try exact xtI))))
   exact retM [0, 1, 2, 3, 4] rfl rfl (by decide) ⟨⟨rfl, WkL.refl _⟩, trivial, ⟨rfl, rfl, rfl⟩, ⟨rfl, rfl, rfl⟩, ⟨rfl, rfl, rfl⟩, trivial⟩ (by repeat' (first | exact trivial | exact rfl | omega | refine ⟨?_, ?_⟩)) (Wk.refl _)
  ·(try replace h2 := xhh h2)
   simp at h2
theorem tk_a_a_k (l : Lnk) (at_ : Int) (hl : LnkL l) (h : 0 ≤ at_ ∧ at_ < (l.acks.length : Int)) : Spec Try.prog 90 [.ptr 0 0 5, I .i64 at_, B true] [blkL l (frS l.sent) (frI l.way) (.own 1) (frS l.got) (frI l.held), rowI l.acks] (.tup [I .i64 (l.acks.getD at_.toNat default), B true]) [blkL l (frS l.sent) (frI l.way) (.own 1) (frS l.got) (frI l.held), rowI l.acks] := by
 obtain ⟨h1, h2, h3, h4, h5⟩ := hl
 have hlt : at_.toNat < l.acks.length := by omega
 obtain ⟨i, rfl⟩ : ∃ i : Nat, at_ = i := ⟨at_.toNat, by omega⟩
 rw [Int.toNat_natCast] at hlt ⊢
 refine spec_am Try.func90 rfl rfl mix 37 rfl [.tmp 6, .tmp 7] Try.results90 (Nat.le_of_ble_eq_true rfl) ?_
 (iterate 2 ((try simp (etaStruct := .none) only [push_cast, DrawG, Int.cast_ofNat_Int, seval, blkL, cellL, frS, frI, rowI, rowS, getD_in _ _ _ hlt, i64P]); (try (refine xsu ?_; try exact xtI))))
 refine cond_i (fun h1 => ?_) (fun h1 => ?_)
 ·(try replace h1 := xhh h1)
  omega
 ·(try replace h1 := xhh h1)
  (iterate 2 ((try simp (etaStruct := .none) only [push_cast, DrawG, Int.cast_ofNat_Int, seval, blkL, cellL, frS, frI, rowI, rowS, getD_in _ _ _ hlt, i64P]); (try (refine xsu ?_; try exact xtI))))
  refine cond_i (fun h2 => ?_) (fun h2 => ?_)
  ·(try replace h2 := xhh h2)
   simp at h2
  ·(try replace h2 := xhh h2)
   (iterate 2 ((try simp (etaStruct := .none) only [push_cast, DrawG, Int.cast_ofNat_Int, seval, blkL, cellL, frS, frI, rowI, rowS, getD_in _ _ _ hlt, i64P]); (try (refine xsu ?_; try exact xtI))))
   exact retM [0, 1] rfl rfl (by decide) ⟨⟨rfl, WkL.refl _⟩, ⟨rfl, rfl, rfl⟩, trivial⟩ (by repeat' (first | exact trivial | exact rfl | omega | refine ⟨?_, ?_⟩)) (Wk.refl _)
theorem tk_a_a_n (l : Lnk) (at_ : Int) (hl : LnkL l) (h : 0 ≤ at_ ∧ at_ < (l.acks.length : Int)) : Spec Try.prog 90 [.ptr 0 0 5, I .i64 at_, B false] [blkL l (frS l.sent) (frI l.way) (.own 1) (frS l.got) (frI l.held), rowI l.acks] (.tup [I .i64 (l.acks.getD at_.toNat default), B true]) [blkL l (frS l.sent) (frI l.way) (.own 2) (frS l.got) (frI l.held), .dead, rowI (cutV l.acks at_.toNat)] := by
 obtain ⟨h1, h2, h3, h4, h5⟩ := hl
 have hlt : at_.toNat < l.acks.length := by omega
 obtain ⟨i, rfl⟩ : ∃ i : Nat, at_ = i := ⟨at_.toNat, by omega⟩
 rw [Int.toNat_natCast] at hlt ⊢
 refine spec_am Try.func90 rfl rfl mix 37 rfl [.tmp 6, .tmp 7] Try.results90 (Nat.le_of_ble_eq_true rfl) ?_
 (iterate 2 ((try simp (etaStruct := .none) only [push_cast, DrawG, Int.cast_ofNat_Int, seval, blkL, cellL, frS, frI, rowI, rowS, getD_in _ _ _ hlt, i64P]); (try (refine xsu ?_; try exact xtI))))
 refine cond_i (fun h1 => ?_) (fun h1 => ?_)
 ·(try replace h1 := xhh h1)
  omega
 ·(try replace h1 := xhh h1)
  (iterate 2 ((try simp (etaStruct := .none) only [push_cast, DrawG, Int.cast_ofNat_Int, seval, blkL, cellL, frS, frI, rowI, rowS, getD_in _ _ _ hlt, i64P]); (try (refine xsu ?_; try exact xtI))))
  refine cond_i (fun h2 => ?_) (fun h2 => ?_)
  ·(try replace h2 := xhh h2)
   (iterate 2 ((try simp (etaStruct := .none) only [push_cast, DrawG, Int.cast_ofNat_Int, seval, blkL, cellL, frS, frI, rowI, rowS, getD_in _ _ _ hlt, i64P]); (try (refine xsu ?_; try exact xtI))))
   refine caM [1] (del_s l.acks i (i + 1) (by omega) (by omega) (by omega)) ?_
   (iterate 2 ((try simp (etaStruct := .none) only [push_cast, DrawG, Int.cast_ofNat_Int, seval, blkL, cellL, frS, frI, rowI, rowS, getD_in _ _ _ hlt, i64P]); (try (refine xsu ?_; try exact xtI))))
   exact retM [0, 1, 2] rfl rfl (by decide) ⟨⟨rfl, WkL.refl _⟩, trivial, ⟨rfl, rfl, rfl⟩, trivial⟩ (by repeat' (first | exact trivial | exact rfl | omega | refine ⟨?_, ?_⟩)) (Wk.refl _)
  ·(try replace h2 := xhh h2)
   simp at h2
end Go.Proofs.Ytdkmndimmpilaaa
namespace Go.Proofs.Ytdkmndimmpilaaa
set_option linter.all false
open Go.RowKit
set_option maxRecDepth 100000
set_option maxHeartbeats 1000000
theorem sendTo_if (l : Lnk) : (if (l.sent.length : Int) < l.base + l.window then (l.sent.length : Int) else l.base + l.window) = sendTo l := by
 unfold sendTo; split <;> omega
theorem sendTo_b {l : Lnk} (R : LnkR l) : l.next ≤ sendTo l ∧ l.base ≤ sendTo l ∧ sendTo l ≤ 200 ∧ 0 ≤ l.base ∧ 0 ≤ sendTo l ∧ l.base ≤ 200 := by
 have := R.n; have := R.b; have := R.s; have := R.g; have := R.w
 unfold sendTo; omega
theorem lnkL_of {l : Lnk} (R : LnkR l) : LnkL l := by
 have := R.s; have := R.y; have := R.a; have := R.g; have := R.h
 exact ⟨by omega, by omega, by omega, by omega, by omega⟩
theorem send_full (l : Lnk) (R : LnkR l) (h : 1000 < (l.way.length : Int) + sendTo l - l.base) : Spec Try.prog 89 [.ptr 0 0 0] [blkL l (frS l.sent) (frI l.way) (frI l.acks) (frS l.got) (frI l.held)] (I .i64 6) [blkL l (frS l.sent) (frI l.way) (frI l.acks) (frS l.got) (frI l.held)] := by
 obtain ⟨b1, b2, b3, b4, b5, b6⟩ := sendTo_b R
 have hw := R.w
 have hy := R.y
 have hs := R.s
 refine spec_am Try.func89 rfl rfl mix 56 rfl [.tmp 2] Try.results89 (Nat.le_of_ble_eq_true rfl) ?_
 (iterate 2 ((try simp (etaStruct := .none) only [push_cast, DrawG, Int.cast_ofNat_Int, seval, blkL, cellL, frS, frI, sendTo_if]); (try (refine xsu ?_; try exact xtI))))
 (try (refine ⟨by kernel_rfl, ?_⟩))
 (iterate 2 ((try simp (etaStruct := .none) only [push_cast, DrawG, Int.cast_ofNat_Int, seval, blkL, cellL, frS, frI, sendTo_if]); (try (refine xsu ?_; try exact xtI))))
 (try (refine ⟨by kernel_rfl, ?_⟩))
 (iterate 2 ((try simp (etaStruct := .none) only [push_cast, DrawG, Int.cast_ofNat_Int, seval, blkL, cellL, frS, frI, sendTo_if]); (try (refine xsu ?_; try exact xtI))))
 refine cond_i (fun h1 => ?_) (fun h1 => ?_)
 ·(try replace h1 := xhh h1)
  (iterate 2 ((try simp (etaStruct := .none) only [push_cast, DrawG, Int.cast_ofNat_Int, seval, blkL, cellL, frS, frI, sendTo_if]); (try (refine xsu ?_; try exact xtI))))
  exact retM [0] rfl rfl (by decide) ⟨⟨rfl, WkL.refl _⟩, trivial⟩ (by repeat' (first | exact trivial | exact rfl | omega | refine ⟨?_, ?_⟩)) (Wk.refl _)
 ·(try replace h1 := xhh h1)
  omega
theorem send_ok (l : Lnk) (R : LnkR l) (h : ¬ 1000 < (l.way.length : Int) + sendTo l - l.base) : Spec Try.prog 89 [.ptr 0 0 0] [blkL l (frS l.sent) (.own 1) (frI l.acks) (frS l.got) (frI l.held), rowI l.way] (I .i64 0) [blkL { l with next := sendTo l } (frS l.sent) (.own 2) (frI l.acks) (frS l.got) (frI l.held), .dead, rowI (l.way ++ rngI l.base (sendTo l - l.base).toNat)] := by
 obtain ⟨b1, b2, b3, b4, b5, b6⟩ := sendTo_b R
 have hw := R.w
 have hy := R.y
 have hs := R.s
 refine spec_am Try.func89 rfl rfl mix 56 rfl [.tmp 2] Try.results89 (Nat.le_of_ble_eq_true rfl) ?_
 (iterate 2 ((try simp (etaStruct := .none) only [push_cast, DrawG, Int.cast_ofNat_Int, seval, blkL, cellL, frS, frI, rowI, sendTo_if]); (try (refine xsu ?_; try exact xtI))))
 (try (refine ⟨by kernel_rfl, ?_⟩))
 (iterate 2 ((try simp (etaStruct := .none) only [push_cast, DrawG, Int.cast_ofNat_Int, seval, blkL, cellL, frS, frI, rowI, sendTo_if]); (try (refine xsu ?_; try exact xtI))))
 (try (refine ⟨by kernel_rfl, ?_⟩))
 (iterate 2 ((try simp (etaStruct := .none) only [push_cast, DrawG, Int.cast_ofNat_Int, seval, blkL, cellL, frS, frI, rowI, sendTo_if]); (try (refine xsu ?_; try exact xtI))))
 refine cond_i (fun h1 => ?_) (fun h1 => ?_)
 ·(try replace h1 := xhh h1)
  omega
 ·(try replace h1 := xhh h1)
  (iterate 2 ((try simp (etaStruct := .none) only [push_cast, DrawG, Int.cast_ofNat_Int, seval, blkL, cellL, frS, frI, rowI, sendTo_if]); (try (refine xsu ?_; try exact xtI))))
  refine loopI (fun k : Nat => ⟨[(4, I .i64 (l.base + k)), (3, I .i64 (sendTo l)), (0, .ptr 0 0 0)], [(0, .blk 57 [I .i64 l.window, .c (.sl 1 (l.sent.map strP)), I .i64 l.base, I .i64 (sendTo l), .own 2, .c (.sl 1 (l.acks.map i64P)), .c (.sl 1 (l.got.map strP)), .c (.sl 1 (l.held.map i64P))]), (1, .dead), (2, .row 3 1 ((l.way ++ rngI l.base k).map i64P))], 3⟩) (fun k : Nat => (k : Int) ≤ sendTo l - l.base) (fun k : Nat => (sendTo l - l.base).toNat - k) (0) (by omega) ((To.moveC 0 4 1 3 1 57 _ (l.way.map i64P) rfl rfl rfl).trans (To.mk [0, 1, 118] rfl rfl (by decide) ?_ ?_)) ?_
  ·simp (etaStruct := .none) only [push_cast, DrawG, Int.cast_ofNat_Int, seval, List.set_cons_zero, List.set_cons_succ, rngI_0, List.append_nil]
  ·simp (etaStruct := .none) only [push_cast, DrawG, Int.cast_ofNat_Int, seval, Int.natCast_zero, Int.add_zero]
  rintro k hk
  (iterate 2 ((try simp (etaStruct := .none) only [push_cast, DrawG, Int.cast_ofNat_Int, seval, blkL, cellL, frS, frI, rowI, sendTo_if]); (try (refine xsu ?_; try exact xtI))))
  refine cond_i (fun h2 => ?_) (fun h2 => ?_)
  ·(try replace h2 := xhh h2)
   have hsn : (l.way ++ rngI l.base (k + 1)).map i64P = (l.way ++ rngI l.base k).map i64P ++ [[pI (l.base + k)]] := by rw [rngI_snoc, ← List.append_assoc, List.map_append (l₁ := l.way ++ rngI l.base k)]; rfl
   (iterate 2 ((try simp (etaStruct := .none) only [push_cast, DrawG, Int.cast_ofNat_Int, seval, blkL, cellL, frS, frI, rowI, sendTo_if, List.length_append, rngI_len]); (try (refine xsu ?_; try exact xtI))))
   refine ⟨k + 1, by omega, by omega, To.mk [0, 1, 4] rfl rfl (by decide) ?_ ?_⟩
   ·simp (etaStruct := .none) only [push_cast, DrawG, Int.cast_ofNat_Int, seval, hsn]
   ·simp (etaStruct := .none) only [push_cast, DrawG, Int.cast_ofNat_Int, seval, Int.add_assoc]
  ·(try replace h2 := xhh h2)
   obtain rfl : k = (sendTo l - l.base).toNat := by omega
   (iterate 2 ((try simp (etaStruct := .none) only [push_cast, DrawG, Int.cast_ofNat_Int, seval, blkL, cellL, frS, frI, rowI, sendTo_if]); (try (refine xsu ?_; try exact xtI))))
   exact retM [0, 1, 2] rfl rfl (by decide) ⟨⟨rfl, WkL.refl _⟩, trivial, ⟨rfl, rfl, rfl⟩, trivial⟩ (by repeat' (first | exact trivial | exact rfl | omega | refine ⟨?_, ?_⟩)) (Wk.refl _)
end Go.Proofs.Ytdkmndimmpilaaa
namespace Go.Proofs.Ytdkmndimmpilaaa
set_option linter.all false
open Go.RowKit
set_option maxRecDepth 100000
set_option maxHeartbeats 1000000
theorem up_le {h : List Int} (hp : h.Pairwise (· < ·)) : h.Pairwise (· ≤ ·) := hp.imp fun h => Int.le_of_lt h
theorem comes_c (l : Lnk) (n : Int) (R : LnkR l) (h0 : n ≠ l.got.length) (h : ¬ ((l.got.length : Int) < n ∧ n ∉ l.held)) : Spec Try.prog 91 [.ptr 0 0 0, I .i64 n] [blkL l (frS l.sent) (.own 1) (.own 2) (frS l.got) (frI l.held), rowI l.way, rowI l.acks] (.tup []) [blkL l (frS l.sent) (.own 1) (.own 3) (frS l.got) (frI l.held), rowI l.way, .dead, rowI (l.acks ++ [(l.got.length : Int)])] := by
 have hs := R.s
 have hg := R.g
 have ha := R.a
 have hh := R.h
 refine spec_am Try.func91 rfl rfl mix 125 rfl [] Try.results91 (Nat.le_of_ble_eq_true rfl) ?_
 (iterate 2 ((try simp (etaStruct := .none) only [push_cast, DrawG, Int.cast_ofNat_Int, seval, blkL, cellL, frS, frI, rowI]); (try (refine xsu ?_; try exact xtI))))
 refine caP (bs_s l.held n (by omega) (up_le R.up)) ?_
 (iterate 2 ((try simp (etaStruct := .none) only [push_cast, DrawG, Int.cast_ofNat_Int, seval, blkL, cellL, frS, frI, rowI]); (try (refine xsu ?_; try exact xtI))))
 refine cond_i (fun h1 => ?_) (fun h1 => ?_)
 ·(try replace h1 := xhh h1)
  simp at h1; exact absurd ⟨by omega, h1.2⟩ h
 ·(try replace h1 := xhh h1)
  (iterate 2 ((try simp (etaStruct := .none) only [push_cast, DrawG, Int.cast_ofNat_Int, seval, blkL, cellL, frS, frI, rowI]); (try (refine xsu ?_; try exact xtI))))
  refine cond_i (fun h2 => ?_) (fun h2 => ?_)
  ·(try replace h2 := xhh h2)
   omega
  ·(try replace h2 := xhh h2)
   (iterate 2 ((try simp (etaStruct := .none) only [push_cast, DrawG, Int.cast_ofNat_Int, seval, blkL, cellL, frS, frI, rowI]); (try (refine xsu ?_; try exact xtI))))
   (try (refine ⟨by kernel_rfl, ?_⟩))
   (iterate 2 ((try simp (etaStruct := .none) only [push_cast, DrawG, Int.cast_ofNat_Int, seval, blkL, cellL, frS, frI, rowI]); (try (refine xsu ?_; try exact xtI))))
   exact retM [0, 1, 2, 47] rfl rfl (by decide) ⟨⟨rfl, WkL.refl _⟩, ⟨rfl, rfl, rfl⟩, trivial, ⟨rfl, rfl, by rw [List.map_append]; rfl⟩, trivial⟩ (by repeat' (first | exact trivial | exact rfl | omega | refine ⟨?_, ?_⟩)) (Wk.refl _)
theorem comes_a (l : Lnk) (n : Int) (R : LnkR l) (h : (l.got.length : Int) < n ∧ n ∉ l.held) : Spec Try.prog 91 [.ptr 0 0 0, I .i64 n] [blkL l (frS l.sent) (.own 1) (.own 2) (frS l.got) (.own 3), rowI l.way, rowI l.acks, rowI l.held] (.tup []) [blkL l (frS l.sent) (.own 1) (.own 5) (frS l.got) (.own 4), rowI l.way, .dead, .dead, rowI (putIn n l.held), rowI (l.acks ++ [(l.got.length : Int)])] := by
 have hs := R.s
 have hg := R.g
 have ha := R.a
 have hh := R.h
 have hc : l.held.countP (· < n) ≤ l.held.length := List.countP_le_length
 refine spec_am Try.func91 rfl rfl mix 125 rfl [] Try.results91 (Nat.le_of_ble_eq_true rfl) ?_
 (iterate 2 ((try simp (etaStruct := .none) only [push_cast, DrawG, Int.cast_ofNat_Int, seval, blkL, cellL, frS, frI, rowI]); (try (refine xsu ?_; try exact xtI))))
 refine callB (bs_s l.held n (by omega) (up_le R.up)) (WkL.refl _) rfl ?_
 (iterate 2 ((try simp (etaStruct := .none) only [push_cast, DrawG, Int.cast_ofNat_Int, seval, blkL, cellL, frS, frI, rowI]); (try (refine xsu ?_; try exact xtI))))
 refine cond_i (fun h1 => ?_) (fun h1 => ?_)
 ·(try replace h1 := xhh h1)
  (iterate 2 ((try simp (etaStruct := .none) only [push_cast, DrawG, Int.cast_ofNat_Int, seval, blkL, cellL, frS, frI, rowI]); (try (refine xsu ?_; try exact xtI))))
  refine caM [3, 4] (ins_s l.held (l.held.countP (· < n)) hc (by omega) n) ?_
  (iterate 2 ((try simp (etaStruct := .none) only [push_cast, DrawG, Int.cast_ofNat_Int, seval, blkL, cellL, frS, frI, rowI]); (try (refine xsu ?_; try exact xtI))))
  (try (refine ⟨by kernel_rfl, ?_⟩))
  (iterate 2 ((try simp (etaStruct := .none) only [push_cast, DrawG, Int.cast_ofNat_Int, seval, blkL, cellL, frS, frI, rowI]); (try (refine xsu ?_; try exact xtI))))
  exact retM [0, 1, 2, 3, 5, 50] rfl rfl (by decide) ⟨⟨rfl, WkL.refl _⟩, ⟨rfl, rfl, rfl⟩, trivial, trivial, ⟨rfl, rfl, rfl⟩, ⟨rfl, rfl, by rw [List.map_append]; rfl⟩, trivial⟩ (by repeat' (first | exact trivial | exact rfl | omega | refine ⟨?_, ?_⟩)) (Wk.refl _)
 ·(try replace h1 := xhh h1)
  simp at h1; rcases h1 with h1 | h1
  ·omega
  ·exact absurd h1 h.2
theorem runUp_go (g : Int) (D : List Int) (h : 0 < D.length) (hv : D.getD 0 default = g) : runUp g D = runUp (g + 1) (D.drop 1) := by
 cases D with
 | nil => simp at h
 | cons x r =>
  obtain rfl : x = g := hv
  rw [runUp, if_pos rfl]; rfl
theorem runUp_stop (g : Int) (D : List Int) (hv : 0 < D.length → D.getD 0 default ≠ g) : runUp g D = (g, D) := by
 cases D with
 | nil => rfl
 | cons x r =>
  have : x ≠ g := hv (by simp)
  rw [runUp, if_neg this]
theorem comes_b (l : Lnk) (R : LnkR l) (h : (l.got.length : Int) < l.next) : Spec Try.prog 91 [.ptr 0 0 0, I .i64 l.got.length] [blkL l (frS l.sent) (.own 1) (.own 2) (.own 3) (frI l.held), rowI l.way, rowI l.acks, rowS l.got] (.tup []) [blkL l (frS l.sent) (.own 1) (.own 5) (.own 4) (frI (runUp (l.got.length + 1) l.held).2), rowI l.way, .dead, .dead, rowS (l.sent.take (runUp (l.got.length + 1) l.held).1.toNat), rowI (l.acks ++ [(runUp (l.got.length + 1) l.held).1])] := by
 have hs := R.s
 have hg := R.g
 have ha := R.a
 have hh := R.h
 have hn3 := R.n
 have hlt0 : l.got.length < l.sent.length := by omega
 have e0 : l.got ++ [l.sent.getD l.got.length default] = l.sent.take (l.got.length + 1) := by
  rw [take_snoc _ _ hlt0]; congr 1; exact R.p
 have e1 : List.map strP l.got ++ [[PV.v (Value.string (l.sent.getD l.got.length default))]] = List.map strP (List.take (l.got.length + 1) l.sent) := by rw [← e0, List.map_append]; rfl
 refine spec_am Try.func91 rfl rfl mix 125 rfl [] Try.results91 (Nat.le_of_ble_eq_true rfl) ?_
 (iterate 2 ((try simp (etaStruct := .none) only [push_cast, DrawG, Int.cast_ofNat_Int, seval, blkL, cellL, frS, frI, rowI, rowS, getD_in _ _ _ hlt0, strP]); (try (refine xsu ?_; try exact xtI))))
 refine caP (bs_s l.held l.got.length (by omega) (up_le R.up)) ?_
 (iterate 2 ((try simp (etaStruct := .none) only [push_cast, DrawG, Int.cast_ofNat_Int, seval, blkL, cellL, frS, frI, rowI, rowS, getD_in _ _ _ hlt0, strP]); (try (refine xsu ?_; try exact xtI))))
 refine cond_i (fun h1 => ?_) (fun h1 => ?_)
 ·(try replace h1 := xhh h1)
  simp at h1
 ·(try replace h1 := xhh h1)
  (iterate 2 ((try simp (etaStruct := .none) only [push_cast, DrawG, Int.cast_ofNat_Int, seval, blkL, cellL, frS, frI, rowI, rowS, getD_in _ _ _ hlt0, strP]); (try (refine xsu ?_; try exact xtI))))
  refine cond_i (fun h2 => ?_) (fun h2 => ?_)
  ·(try replace h2 := xhh h2)
   (iterate 2 ((try simp (etaStruct := .none) only [push_cast, DrawG, Int.cast_ofNat_Int, seval, blkL, cellL, frS, frI, rowI, rowS, getD_in _ _ _ hlt0, strP]); (try (refine xsu ?_; try exact xtI))))
   (try (refine ⟨by kernel_rfl, ?_⟩))
   (iterate 2 ((try simp (etaStruct := .none) only [push_cast, DrawG, Int.cast_ofNat_Int, seval, blkL, cellL, frS, frI, rowI, rowS, getD_in _ _ _ hlt0, strP]); (try (refine xsu ?_; try exact xtI))))
   refine loopI (fun g : Nat => ⟨[(0, .ptr 0 0 0)], [(0, .blk 57 [I .i64 l.window, .c (.sl 1 (l.sent.map strP)), I .i64 l.base, I .i64 l.next, .own 1, .own 2, .own 4, .c (.sl 1 ((l.held.drop (g - (l.got.length + 1))).map i64P))]), (1, .row 3 1 (l.way.map i64P)), (2, .row 3 1 (l.acks.map i64P)), (3, .dead), (4, .row 9 1 ((l.sent.take g).map strP))], 5⟩) (fun g : Nat => l.got.length + 1 ≤ g ∧ g ≤ l.sent.length ∧ runUp g (l.held.drop (g - (l.got.length + 1))) = runUp (l.got.length + 1) l.held) (fun g : Nat => l.sent.length - g) (l.got.length + 1) (⟨Nat.le_refl _, by omega, by rw [Nat.sub_self, List.drop_zero]; rfl⟩) (To.mk [0, 1, 2, 3, 56] rfl rfl (by decide) ?_ ?_) ?_
   ·simp (etaStruct := .none) only [push_cast, DrawG, Int.cast_ofNat_Int, seval, e1, Nat.sub_self, List.drop_zero]
   ·simp (etaStruct := .none) only [push_cast, DrawG, Int.cast_ofNat_Int, seval]
   rintro g ⟨hg1, hg2, hr⟩
   have hlg : (List.take g l.sent).length = g := by rw [List.length_take]; omega
   rcases Nat.eq_zero_or_pos (l.held.drop (g - (l.got.length + 1))).length with hz | hlt
   ·have hd : l.held.drop (g - (l.got.length + 1)) = [] := List.length_eq_zero_iff.1 hz
    have hr2 : runUp (l.got.length + 1) l.held = ((g : Int), []) := by rw [← hr, hd]; rfl
    (iterate 2 ((try simp (etaStruct := .none) only [push_cast, DrawG, Int.cast_ofNat_Int, seval, hd, hlg, List.map_nil, List.length_nil, List.getD_nil, List.take_nil, List.drop_nil]); (try (refine xsu ?_; try exact xtI))))
    (try (refine ⟨by kernel_rfl, ?_⟩))
    (iterate 2 ((try simp (etaStruct := .none) only [push_cast, DrawG, Int.cast_ofNat_Int, seval, hd, hlg, List.map_nil, List.length_nil, List.getD_nil, List.take_nil, List.drop_nil]); (try (refine xsu ?_; try exact xtI))))
    refine cond_i (fun h3 => ?_) (fun h3 => ?_)
    ·simp at h3
    ·(try replace h3 := xhh h3)
     (iterate 2 ((try simp (etaStruct := .none) only [push_cast, DrawG, Int.cast_ofNat_Int, seval, hlg]); (try (refine xsu ?_; try exact xtI))))
     (try (refine ⟨by kernel_rfl, ?_⟩))
     (iterate 2 ((try simp (etaStruct := .none) only [push_cast, DrawG, Int.cast_ofNat_Int, seval, hlg]); (try (refine xsu ?_; try exact xtI))))
     rw [hr2]
     exact retM [0, 1, 2, 3, 4, 129] rfl rfl (by decide) ⟨⟨rfl, WkL.refl _⟩, ⟨rfl, rfl, rfl⟩, trivial, trivial, ⟨rfl, rfl, rfl⟩, ⟨rfl, rfl, by rw [List.map_append]; rfl⟩, trivial⟩ (by repeat' (first | exact trivial | exact rfl | omega | refine ⟨?_, ?_⟩)) (Wk.refl _)
   (iterate 2 ((try simp (etaStruct := .none) only [push_cast, DrawG, Int.cast_ofNat_Int, seval, blkL, cellL, frS, frI, rowI, rowS, getD_in _ _ _ hlt0, strP, hlg, getD_in _ _ _ hlt, i64P]); (try (refine xsu ?_; try exact xtI))))
   (try (refine ⟨by kernel_rfl, ?_⟩))
   (iterate 2 ((try simp (etaStruct := .none) only [push_cast, DrawG, Int.cast_ofNat_Int, seval, blkL, cellL, frS, frI, rowI, rowS, getD_in _ _ _ hlt0, strP, hlg, getD_in _ _ _ hlt, i64P]); (try (refine xsu ?_; try exact xtI))))
   refine cond_i (fun h3 => ?_) (fun h3 => ?_)
   ·(try replace h3 := xhh h3)
    have hv : (l.held.drop (g - (l.got.length + 1))).getD 0 default = (g : Int) := by omega
    have hmem : (l.held.drop (g - (l.got.length + 1))).getD 0 default ∈ l.held := by rw [getD_at _ _ hlt]; exact List.mem_of_mem_drop (List.getElem_mem hlt)
    have hgs : g < l.sent.length := by have := R.hd _ hmem; omega
    have hdd : List.drop 1 (List.map i64P (List.drop (g - (l.got.length + 1)) l.held)) = List.map i64P (List.drop (g - l.got.length) l.held) := by
     rw [← List.map_drop, List.drop_drop]; congr 2; omega
    have hsn : (l.sent.take (g + 1)).map strP = (l.sent.take g).map strP ++ [[PV.v (.string (l.sent.getD g default))]] := by rw [take_snoc _ _ hgs, List.map_append]; rfl
    (iterate 2 ((try simp (etaStruct := .none) only [push_cast, DrawG, Int.cast_ofNat_Int, seval, blkL, cellL, frS, frI, rowI, rowS, getD_in _ _ _ hlt0, strP, hlg, getD_in _ _ _ hlt, i64P, hv, Int.toNat_natCast, getD_in _ _ _ hgs, strP]); (try (refine xsu ?_; try exact xtI))))
    (try (refine ⟨by kernel_rfl, ?_⟩))
    (iterate 2 ((try simp (etaStruct := .none) only [push_cast, DrawG, Int.cast_ofNat_Int, seval, blkL, cellL, frS, frI, rowI, rowS, getD_in _ _ _ hlt0, strP, hlg, getD_in _ _ _ hlt, i64P, hv, Int.toNat_natCast, getD_in _ _ _ hgs, strP]); (try (refine xsu ?_; try exact xtI))))
    refine ⟨g + 1, ⟨by omega, by omega, by
 rw [← hr, runUp_go _ _ hlt hv, List.drop_drop]
 congr 2; omega⟩, by omega, To.mk [0, 1, 2, 3, 161] rfl rfl (by decide) ?_ ?_⟩
    ·simp (etaStruct := .none) only [push_cast, DrawG, Int.cast_ofNat_Int, seval, hsn, hdd]
    ·(iterate 2 ((try simp (etaStruct := .none) only [push_cast, DrawG, Int.cast_ofNat_Int, seval, blkL, cellL, frS, frI, rowI, rowS, getD_in _ _ _ hlt0, strP, hlg, getD_in _ _ _ hlt, i64P, hv, Int.toNat_natCast, getD_in _ _ _ hgs, strP]); (try (refine xsu ?_; try exact xtI))))
   ·(try replace h3 := xhh h3)
    have hr2 : runUp (l.got.length + 1) l.held = ((g : Int), l.held.drop (g - (l.got.length + 1))) := by rw [← hr]; exact runUp_stop _ _ (fun _ => by omega)
    (iterate 2 ((try simp (etaStruct := .none) only [push_cast, DrawG, Int.cast_ofNat_Int, seval, blkL, cellL, frS, frI, rowI, rowS, getD_in _ _ _ hlt0, strP, hlg, getD_in _ _ _ hlt, i64P]); (try (refine xsu ?_; try exact xtI))))
    (try (refine ⟨by kernel_rfl, ?_⟩))
    (iterate 2 ((try simp (etaStruct := .none) only [push_cast, DrawG, Int.cast_ofNat_Int, seval, blkL, cellL, frS, frI, rowI, rowS, getD_in _ _ _ hlt0, strP, hlg, getD_in _ _ _ hlt, i64P]); (try (refine xsu ?_; try exact xtI))))
    rw [hr2]
    exact retM [0, 1, 2, 3, 4, 129] rfl rfl (by decide) ⟨⟨rfl, WkL.refl _⟩, ⟨rfl, rfl, rfl⟩, trivial, trivial, ⟨rfl, rfl, rfl⟩, ⟨rfl, rfl, by rw [List.map_append]; rfl⟩, trivial⟩ (by repeat' (first | exact trivial | exact rfl | omega | refine ⟨?_, ?_⟩)) (Wk.refl _)
  ·(try replace h2 := xhh h2)
   simp at h2
end Go.Proofs.Ytdkmndimmpilaaa
namespace Go.Proofs.Ytdkmndimmpilaaa
set_option linter.all false
open Go.RowKit
set_option maxRecDepth 100000
set_option maxHeartbeats 1000000
theorem LnkR.cutway {l : Lnk} (R : LnkR l) (i : Nat) : LnkR { l with way := cutV l.way i } := ⟨R.w, R.s, Nat.le_trans (cutV_len _ _) R.y, R.a, R.g, R.p, R.b, R.h, R.n, fun m hm => R.wy m (cutV_mem hm), R.ak, R.hd, R.up⟩
theorem do_arg (l : Lnk) (x : Evt) (R : LnkR l) (hk : ¬ (x.kind = 1 ∨ x.kind = 2 ∨ x.kind = 3 ∨ x.kind = 4 ∨ x.kind = 5)) : Spec Try.prog 61 [.ptr 0 0 0, evtA x] [blkL l (frS l.sent) (frI l.way) (frI l.acks) (frS l.got) (frI l.held)] (I .i64 1) [blkL l (frS l.sent) (frI l.way) (frI l.acks) (frS l.got) (frI l.held)] := by
 have hs := R.s
 have hg := R.g
 have ha := R.a
 have hh := R.h
 have hy := R.y
 have hb := R.b
 have hn3 := R.n
 have hl := lnkL_of R
 refine spec_am Try.func61 rfl rfl mix 127 rfl [.tmp 4] Try.results61 (Nat.le_of_ble_eq_true rfl) ?_
 (iterate 2 ((try simp (etaStruct := .none) only [push_cast, DrawG, Int.cast_ofNat_Int, seval, blkL, cellL, frS, frI, rowI, rowS, evtA]); (try (refine xsu ?_; try exact xtI))))
 refine cond_i (fun h1 => ?_) (fun h1 => ?_)
 ·(try replace h1 := xhh h1)
  omega
 ·(try replace h1 := xhh h1)
  (iterate 2 ((try simp (etaStruct := .none) only [push_cast, DrawG, Int.cast_ofNat_Int, seval, blkL, cellL, frS, frI, rowI, rowS, evtA]); (try (refine xsu ?_; try exact xtI))))
  refine cond_i (fun h2 => ?_) (fun h2 => ?_)
  ·(try replace h2 := xhh h2)
   omega
  ·(try replace h2 := xhh h2)
   (iterate 2 ((try simp (etaStruct := .none) only [push_cast, DrawG, Int.cast_ofNat_Int, seval, blkL, cellL, frS, frI, rowI, rowS, evtA]); (try (refine xsu ?_; try exact xtI))))
   refine cond_i (fun h3 => ?_) (fun h3 => ?_)
   ·(try replace h3 := xhh h3)
    omega
   ·(try replace h3 := xhh h3)
    (iterate 2 ((try simp (etaStruct := .none) only [push_cast, DrawG, Int.cast_ofNat_Int, seval, blkL, cellL, frS, frI, rowI, rowS, evtA]); (try (refine xsu ?_; try exact xtI))))
    refine cond_i (fun h4 => ?_) (fun h4 => ?_)
    ·(try replace h4 := xhh h4)
     omega
    ·(try replace h4 := xhh h4)
     (iterate 2 ((try simp (etaStruct := .none) only [push_cast, DrawG, Int.cast_ofNat_Int, seval, blkL, cellL, frS, frI, rowI, rowS, evtA]); (try (refine xsu ?_; try exact xtI))))
     refine cond_i (fun h5 => ?_) (fun h5 => ?_)
     ·(try replace h5 := xhh h5)
      omega
     ·(try replace h5 := xhh h5)
      (iterate 2 ((try simp (etaStruct := .none) only [push_cast, DrawG, Int.cast_ofNat_Int, seval, blkL, cellL, frS, frI, rowI, rowS, evtA]); (try (refine xsu ?_; try exact xtI))))
      exact retM [0] rfl rfl (by decide) ⟨⟨rfl, WkL.refl _⟩, trivial⟩ (by repeat' (first | exact trivial | exact rfl | omega | refine ⟨?_, ?_⟩)) (Wk.refl _)
theorem do1_full (l : Lnk) (x : Evt) (R : LnkR l) (hk : x.kind = 1) (h : l.sent.length = 200) : Spec Try.prog 61 [.ptr 0 0 0, evtA x] [blkL l (frS l.sent) (frI l.way) (frI l.acks) (frS l.got) (frI l.held)] (I .i64 6) [blkL l (frS l.sent) (frI l.way) (frI l.acks) (frS l.got) (frI l.held)] := by
 have hs := R.s
 have hg := R.g
 have ha := R.a
 have hh := R.h
 have hy := R.y
 have hb := R.b
 have hn3 := R.n
 have hl := lnkL_of R
 refine spec_am Try.func61 rfl rfl mix 127 rfl [.tmp 4] Try.results61 (Nat.le_of_ble_eq_true rfl) ?_
 (iterate 2 ((try simp (etaStruct := .none) only [push_cast, DrawG, Int.cast_ofNat_Int, seval, blkL, cellL, frS, frI, rowI, rowS, evtA, hk]); (try (refine xsu ?_; try exact xtI))))
 refine cond_i (fun h1 => ?_) (fun h1 => ?_)
 ·(try replace h1 := xhh h1)
  (iterate 2 ((try simp (etaStruct := .none) only [push_cast, DrawG, Int.cast_ofNat_Int, seval, blkL, cellL, frS, frI, rowI, rowS, evtA, hk]); (try (refine xsu ?_; try exact xtI))))
  refine cond_i (fun h2 => ?_) (fun h2 => ?_)
  ·(try replace h2 := xhh h2)
   (iterate 2 ((try simp (etaStruct := .none) only [push_cast, DrawG, Int.cast_ofNat_Int, seval, blkL, cellL, frS, frI, rowI, rowS, evtA, hk]); (try (refine xsu ?_; try exact xtI))))
   exact retM [0] rfl rfl (by decide) ⟨⟨rfl, WkL.refl _⟩, trivial⟩ (by repeat' (first | exact trivial | exact rfl | omega | refine ⟨?_, ?_⟩)) (Wk.refl _)
  ·(try replace h2 := xhh h2)
   omega
 ·(try replace h1 := xhh h1)
  simp at h1
theorem do1_ok (l : Lnk) (x : Evt) (R : LnkR l) (hk : x.kind = 1) (h : ¬ l.sent.length = 200) : Spec Try.prog 61 [.ptr 0 0 0, evtA x] [blkL l (.own 1) (frI l.way) (frI l.acks) (frS l.got) (frI l.held), rowS l.sent] (I .i64 0) [blkL l (.own 2) (frI l.way) (frI l.acks) (frS l.got) (frI l.held), .dead, rowS (l.sent ++ [x.text])] := by
 have hs := R.s
 have hg := R.g
 have ha := R.a
 have hh := R.h
 have hy := R.y
 have hb := R.b
 have hn3 := R.n
 have hl := lnkL_of R
 refine spec_am Try.func61 rfl rfl mix 127 rfl [.tmp 4] Try.results61 (Nat.le_of_ble_eq_true rfl) ?_
 (iterate 2 ((try simp (etaStruct := .none) only [push_cast, DrawG, Int.cast_ofNat_Int, seval, blkL, cellL, frS, frI, rowI, rowS, evtA, hk]); (try (refine xsu ?_; try exact xtI))))
 refine cond_i (fun h1 => ?_) (fun h1 => ?_)
 ·(try replace h1 := xhh h1)
  (iterate 2 ((try simp (etaStruct := .none) only [push_cast, DrawG, Int.cast_ofNat_Int, seval, blkL, cellL, frS, frI, rowI, rowS, evtA, hk]); (try (refine xsu ?_; try exact xtI))))
  refine cond_i (fun h2 => ?_) (fun h2 => ?_)
  ·(try replace h2 := xhh h2)
   omega
  ·(try replace h2 := xhh h2)
   (iterate 2 ((try simp (etaStruct := .none) only [push_cast, DrawG, Int.cast_ofNat_Int, seval, blkL, cellL, frS, frI, rowI, rowS, evtA, hk]); (try (refine xsu ?_; try exact xtI))))
   (try (refine ⟨by kernel_rfl, ?_⟩))
   (iterate 2 ((try simp (etaStruct := .none) only [push_cast, DrawG, Int.cast_ofNat_Int, seval, blkL, cellL, frS, frI, rowI, rowS, evtA, hk]); (try (refine xsu ?_; try exact xtI))))
   exact retM [0, 1, 35] rfl rfl (by decide) ⟨⟨rfl, WkL.refl _⟩, trivial, ⟨rfl, rfl, by first | rfl | (rw [List.map_append]; rfl)⟩, trivial⟩ (by repeat' (first | exact trivial | exact rfl | omega | refine ⟨?_, ?_⟩)) (Wk.refl _)
 ·(try replace h1 := xhh h1)
  simp at h1
theorem do2_full (l : Lnk) (x : Evt) (R : LnkR l) (hk : x.kind = 2) (h : 1000 < (l.way.length : Int) + sendTo l - l.base) : Spec Try.prog 61 [.ptr 0 0 0, evtA x] [blkL l (frS l.sent) (frI l.way) (frI l.acks) (frS l.got) (frI l.held)] (I .i64 6) [blkL l (frS l.sent) (frI l.way) (frI l.acks) (frS l.got) (frI l.held)] := by
 have hs := R.s
 have hg := R.g
 have ha := R.a
 have hh := R.h
 have hy := R.y
 have hb := R.b
 have hn3 := R.n
 have hl := lnkL_of R
 refine spec_am Try.func61 rfl rfl mix 127 rfl [.tmp 4] Try.results61 (Nat.le_of_ble_eq_true rfl) ?_
 (iterate 2 ((try simp (etaStruct := .none) only [push_cast, DrawG, Int.cast_ofNat_Int, seval, blkL, cellL, frS, frI, rowI, rowS, evtA, hk]); (try (refine xsu ?_; try exact xtI))))
 refine cond_i (fun h1 => ?_) (fun h1 => ?_)
 ·(try replace h1 := xhh h1)
  simp at h1
 ·(try replace h1 := xhh h1)
  (iterate 2 ((try simp (etaStruct := .none) only [push_cast, DrawG, Int.cast_ofNat_Int, seval, blkL, cellL, frS, frI, rowI, rowS, evtA, hk]); (try (refine xsu ?_; try exact xtI))))
  refine cond_i (fun h2 => ?_) (fun h2 => ?_)
  ·(try replace h2 := xhh h2)
   (iterate 2 ((try simp (etaStruct := .none) only [push_cast, DrawG, Int.cast_ofNat_Int, seval, blkL, cellL, frS, frI, rowI, rowS, evtA, hk]); (try (refine xsu ?_; try exact xtI))))
   refine caM [0] (send_full l R h) ?_
   (iterate 2 ((try simp (etaStruct := .none) only [push_cast, DrawG, Int.cast_ofNat_Int, seval, blkL, cellL, frS, frI, rowI, rowS, evtA, hk]); (try (refine xsu ?_; try exact xtI))))
   exact retM [0] rfl rfl (by decide) ⟨⟨rfl, WkL.refl _⟩, trivial⟩ (by repeat' (first | exact trivial | exact rfl | omega | refine ⟨?_, ?_⟩)) (Wk.refl _)
  ·(try replace h2 := xhh h2)
   simp at h2
theorem do2_ok (l : Lnk) (x : Evt) (R : LnkR l) (hk : x.kind = 2) (h : ¬ 1000 < (l.way.length : Int) + sendTo l - l.base) : Spec Try.prog 61 [.ptr 0 0 0, evtA x] [blkL l (frS l.sent) (.own 1) (frI l.acks) (frS l.got) (frI l.held), rowI l.way] (I .i64 0) [blkL { l with base := l.base, next := (sendTo l) } (frS l.sent) (.own 2) (frI l.acks) (frS l.got) (frI l.held), .dead, rowI (l.way ++ rngI l.base (sendTo l - l.base).toNat)] := by
 have hs := R.s
 have hg := R.g
 have ha := R.a
 have hh := R.h
 have hy := R.y
 have hb := R.b
 have hn3 := R.n
 have hl := lnkL_of R
 refine spec_am Try.func61 rfl rfl mix 127 rfl [.tmp 4] Try.results61 (Nat.le_of_ble_eq_true rfl) ?_
 (iterate 2 ((try simp (etaStruct := .none) only [push_cast, DrawG, Int.cast_ofNat_Int, seval, blkL, cellL, frS, frI, rowI, rowS, evtA, hk]); (try (refine xsu ?_; try exact xtI))))
 refine cond_i (fun h1 => ?_) (fun h1 => ?_)
 ·(try replace h1 := xhh h1)
  simp at h1
 ·(try replace h1 := xhh h1)
  (iterate 2 ((try simp (etaStruct := .none) only [push_cast, DrawG, Int.cast_ofNat_Int, seval, blkL, cellL, frS, frI, rowI, rowS, evtA, hk]); (try (refine xsu ?_; try exact xtI))))
  refine cond_i (fun h2 => ?_) (fun h2 => ?_)
  ·(try replace h2 := xhh h2)
   (iterate 2 ((try simp (etaStruct := .none) only [push_cast, DrawG, Int.cast_ofNat_Int, seval, blkL, cellL, frS, frI, rowI, rowS, evtA, hk]); (try (refine xsu ?_; try exact xtI))))
   refine caM [0, 1] (send_ok l R h) ?_
   (iterate 2 ((try simp (etaStruct := .none) only [push_cast, DrawG, Int.cast_ofNat_Int, seval, blkL, cellL, frS, frI, rowI, rowS, evtA, hk]); (try (refine xsu ?_; try exact xtI))))
   exact retM [0, 1, 3] rfl rfl (by decide) ⟨⟨rfl, WkL.refl _⟩, trivial, ⟨rfl, rfl, by first | rfl | (rw [List.map_append]; rfl)⟩, trivial⟩ (by repeat' (first | exact trivial | exact rfl | omega | refine ⟨?_, ?_⟩)) (Wk.refl _)
  ·(try replace h2 := xhh h2)
   simp at h2
theorem do3_none (l : Lnk) (x : Evt) (R : LnkR l) (hk : x.kind = 3) (h : x.at_ < 0 ∨ (l.way.length : Int) ≤ x.at_) : Spec Try.prog 61 [.ptr 0 0 0, evtA x] [blkL l (frS l.sent) (frI l.way) (frI l.acks) (frS l.got) (frI l.held)] (I .i64 7) [blkL l (frS l.sent) (frI l.way) (frI l.acks) (frS l.got) (frI l.held)] := by
 have hs := R.s
 have hg := R.g
 have ha := R.a
 have hh := R.h
 have hy := R.y
 have hb := R.b
 have hn3 := R.n
 have hl := lnkL_of R
 refine spec_am Try.func61 rfl rfl mix 127 rfl [.tmp 4] Try.results61 (Nat.le_of_ble_eq_true rfl) ?_
 (iterate 2 ((try simp (etaStruct := .none) only [push_cast, DrawG, Int.cast_ofNat_Int, seval, blkL, cellL, frS, frI, rowI, rowS, evtA, hk]); (try (refine xsu ?_; try exact xtI))))
 refine cond_i (fun h1 => ?_) (fun h1 => ?_)
 ·(try replace h1 := xhh h1)
  simp at h1
 ·(try replace h1 := xhh h1)
  (iterate 2 ((try simp (etaStruct := .none) only [push_cast, DrawG, Int.cast_ofNat_Int, seval, blkL, cellL, frS, frI, rowI, rowS, evtA, hk]); (try (refine xsu ?_; try exact xtI))))
  refine cond_i (fun h2 => ?_) (fun h2 => ?_)
  ·(try replace h2 := xhh h2)
   simp at h2
  ·(try replace h2 := xhh h2)
   (iterate 2 ((try simp (etaStruct := .none) only [push_cast, DrawG, Int.cast_ofNat_Int, seval, blkL, cellL, frS, frI, rowI, rowS, evtA, hk]); (try (refine xsu ?_; try exact xtI))))
   refine cond_i (fun h3 => ?_) (fun h3 => ?_)
   ·(try replace h3 := xhh h3)
    (iterate 2 ((try simp (etaStruct := .none) only [push_cast, DrawG, Int.cast_ofNat_Int, seval, blkL, cellL, frS, frI, rowI, rowS, evtA, hk]); (try (refine xsu ?_; try exact xtI))))
    refine callM [0] (tk_y_bad l x.at_ true hl h) (WkL.refl _) rfl (by decide) (by simp [lookC_c, onlyC, memN]) ?_
    (iterate 2 ((try simp (etaStruct := .none) only [push_cast, DrawG, Int.cast_ofNat_Int, seval, blkL, cellL, frS, frI, rowI, rowS, evtA, hk]); (try (refine xsu ?_; try exact xtI))))
    (try (refine ⟨by kernel_rfl, ?_⟩))
    (iterate 2 ((try simp (etaStruct := .none) only [push_cast, DrawG, Int.cast_ofNat_Int, seval, blkL, cellL, frS, frI, rowI, rowS, evtA, hk]); (try (refine xsu ?_; try exact xtI))))
    refine cond_i (fun h4 => ?_) (fun h4 => ?_)
    ·(try replace h4 := xhh h4)
     (iterate 2 ((try simp (etaStruct := .none) only [push_cast, DrawG, Int.cast_ofNat_Int, seval, blkL, cellL, frS, frI, rowI, rowS, evtA, hk]); (try (refine xsu ?_; try exact xtI))))
     exact retM [0] rfl rfl (by decide) ⟨⟨rfl, WkL.refl _⟩, trivial⟩ (by repeat' (first | exact trivial | exact rfl | omega | refine ⟨?_, ?_⟩)) (Wk.refl _)
    ·(try replace h4 := xhh h4)
     simp at h4
   ·(try replace h3 := xhh h3)
    simp at h3
theorem do3_full (l : Lnk) (x : Evt) (R : LnkR l) (hk : x.kind = 3) (h : ¬ (x.at_ < 0 ∨ (l.way.length : Int) ≤ x.at_)) (hf : l.acks.length = 1000) : Spec Try.prog 61 [.ptr 0 0 0, evtA x] [blkL l (frS l.sent) (frI l.way) (frI l.acks) (frS l.got) (frI l.held)] (I .i64 6) [blkL l (frS l.sent) (frI l.way) (frI l.acks) (frS l.got) (frI l.held)] := by
 have hs := R.s
 have hg := R.g
 have ha := R.a
 have hh := R.h
 have hy := R.y
 have hb := R.b
 have hn3 := R.n
 have hl := lnkL_of R
 refine spec_am Try.func61 rfl rfl mix 127 rfl [.tmp 4] Try.results61 (Nat.le_of_ble_eq_true rfl) ?_
 (iterate 2 ((try simp (etaStruct := .none) only [push_cast, DrawG, Int.cast_ofNat_Int, seval, blkL, cellL, frS, frI, rowI, rowS, evtA, hk]); (try (refine xsu ?_; try exact xtI))))
 refine cond_i (fun h1 => ?_) (fun h1 => ?_)
 ·(try replace h1 := xhh h1)
  simp at h1
 ·(try replace h1 := xhh h1)
  (iterate 2 ((try simp (etaStruct := .none) only [push_cast, DrawG, Int.cast_ofNat_Int, seval, blkL, cellL, frS, frI, rowI, rowS, evtA, hk]); (try (refine xsu ?_; try exact xtI))))
  refine cond_i (fun h2 => ?_) (fun h2 => ?_)
  ·(try replace h2 := xhh h2)
   simp at h2
  ·(try replace h2 := xhh h2)
   (iterate 2 ((try simp (etaStruct := .none) only [push_cast, DrawG, Int.cast_ofNat_Int, seval, blkL, cellL, frS, frI, rowI, rowS, evtA, hk]); (try (refine xsu ?_; try exact xtI))))
   refine cond_i (fun h3 => ?_) (fun h3 => ?_)
   ·(try replace h3 := xhh h3)
    (iterate 2 ((try simp (etaStruct := .none) only [push_cast, DrawG, Int.cast_ofNat_Int, seval, blkL, cellL, frS, frI, rowI, rowS, evtA, hk]); (try (refine xsu ?_; try exact xtI))))
    refine callM [0] (tk_y_0_k l x.at_ hl (by omega)) (WkL.refl _) rfl (by decide) (by simp [lookC_c, onlyC, memN]) ?_
    (iterate 2 ((try simp (etaStruct := .none) only [push_cast, DrawG, Int.cast_ofNat_Int, seval, blkL, cellL, frS, frI, rowI, rowS, evtA, hk]); (try (refine xsu ?_; try exact xtI))))
    (try (refine ⟨by kernel_rfl, ?_⟩))
    (iterate 2 ((try simp (etaStruct := .none) only [push_cast, DrawG, Int.cast_ofNat_Int, seval, blkL, cellL, frS, frI, rowI, rowS, evtA, hk]); (try (refine xsu ?_; try exact xtI))))
    refine cond_i (fun h4 => ?_) (fun h4 => ?_)
    ·(try replace h4 := xhh h4)
     simp at h4
    ·(try replace h4 := xhh h4)
     (iterate 2 ((try simp (etaStruct := .none) only [push_cast, DrawG, Int.cast_ofNat_Int, seval, blkL, cellL, frS, frI, rowI, rowS, evtA, hk]); (try (refine xsu ?_; try exact xtI))))
     refine cond_i (fun h5 => ?_) (fun h5 => ?_)
     ·(try replace h5 := xhh h5)
      (iterate 2 ((try simp (etaStruct := .none) only [push_cast, DrawG, Int.cast_ofNat_Int, seval, blkL, cellL, frS, frI, rowI, rowS, evtA, hk]); (try (refine xsu ?_; try exact xtI))))
      exact retM [0] rfl rfl (by decide) ⟨⟨rfl, WkL.refl _⟩, trivial⟩ (by repeat' (first | exact trivial | exact rfl | omega | refine ⟨?_, ?_⟩)) (Wk.refl _)
     ·(try replace h5 := xhh h5)
      omega
   ·(try replace h3 := xhh h3)
    simp at h3
theorem do3_a_k (l : Lnk) (x : Evt) (R : LnkR l) (hk : x.kind = 3) (hkeep : x.keep = true) (h : ¬ (x.at_ < 0 ∨ (l.way.length : Int) ≤ x.at_)) (hf : ¬ l.acks.length = 1000) (hc : (l.got.length : Int) < (l.way.getD x.at_.toNat default) ∧ (l.way.getD x.at_.toNat default) ∉ l.held) : Spec Try.prog 61 [.ptr 0 0 0, evtA x] [blkL l (frS l.sent) (.own 1) (.own 2) (frS l.got) (.own 3), rowI l.way, rowI l.acks, rowI l.held] (I .i64 0) [blkL l (frS l.sent) (.own 1) (.own 4) (frS l.got) (.own 5), rowI l.way, .dead, .dead, rowI (l.acks ++ [(l.got.length : Int)]), rowI (putIn (l.way.getD x.at_.toNat default) l.held)] := by
 have hs := R.s
 have hg := R.g
 have ha := R.a
 have hh := R.h
 have hy := R.y
 have hb := R.b
 have hn3 := R.n
 have hl := lnkL_of R
 refine spec_am Try.func61 rfl rfl mix 127 rfl [.tmp 4] Try.results61 (Nat.le_of_ble_eq_true rfl) ?_
 (iterate 2 ((try simp (etaStruct := .none) only [push_cast, DrawG, Int.cast_ofNat_Int, seval, blkL, cellL, frS, frI, rowI, rowS, evtA, hk, hkeep]); (try (refine xsu ?_; try exact xtI))))
 refine cond_i (fun h1 => ?_) (fun h1 => ?_)
 ·(try replace h1 := xhh h1)
  simp at h1
 ·(try replace h1 := xhh h1)
  (iterate 2 ((try simp (etaStruct := .none) only [push_cast, DrawG, Int.cast_ofNat_Int, seval, blkL, cellL, frS, frI, rowI, rowS, evtA, hk, hkeep]); (try (refine xsu ?_; try exact xtI))))
  refine cond_i (fun h2 => ?_) (fun h2 => ?_)
  ·(try replace h2 := xhh h2)
   simp at h2
  ·(try replace h2 := xhh h2)
   (iterate 2 ((try simp (etaStruct := .none) only [push_cast, DrawG, Int.cast_ofNat_Int, seval, blkL, cellL, frS, frI, rowI, rowS, evtA, hk, hkeep]); (try (refine xsu ?_; try exact xtI))))
   refine cond_i (fun h3 => ?_) (fun h3 => ?_)
   ·(try replace h3 := xhh h3)
    (iterate 2 ((try simp (etaStruct := .none) only [push_cast, DrawG, Int.cast_ofNat_Int, seval, blkL, cellL, frS, frI, rowI, rowS, evtA, hk, hkeep]); (try (refine xsu ?_; try exact xtI))))
    refine callM [0, 1, 2, 3] (tk_y_yah_k l x.at_ hl (by omega)) (WkL.refl _) rfl (by decide) (by simp [lookC_c, onlyC, memN]) ?_
    (iterate 2 ((try simp (etaStruct := .none) only [push_cast, DrawG, Int.cast_ofNat_Int, seval, blkL, cellL, frS, frI, rowI, rowS, evtA, hk, hkeep]); (try (refine xsu ?_; try exact xtI))))
    (try (refine ⟨by kernel_rfl, ?_⟩))
    (iterate 2 ((try simp (etaStruct := .none) only [push_cast, DrawG, Int.cast_ofNat_Int, seval, blkL, cellL, frS, frI, rowI, rowS, evtA, hk, hkeep]); (try (refine xsu ?_; try exact xtI))))
    refine cond_i (fun h4 => ?_) (fun h4 => ?_)
    ·(try replace h4 := xhh h4)
     simp at h4
    ·(try replace h4 := xhh h4)
     (iterate 2 ((try simp (etaStruct := .none) only [push_cast, DrawG, Int.cast_ofNat_Int, seval, blkL, cellL, frS, frI, rowI, rowS, evtA, hk, hkeep]); (try (refine xsu ?_; try exact xtI))))
     refine cond_i (fun h5 => ?_) (fun h5 => ?_)
     ·(try replace h5 := xhh h5)
      omega
     ·(try replace h5 := xhh h5)
      (iterate 2 ((try simp (etaStruct := .none) only [push_cast, DrawG, Int.cast_ofNat_Int, seval, blkL, cellL, frS, frI, rowI, rowS, evtA, hk, hkeep]); (try (refine xsu ?_; try exact xtI))))
      refine callM [0, 1, 2, 3] (tk_y_yah_k l x.at_ hl (by omega)) (WkL.refl _) rfl (by decide) (by simp [lookC_c, onlyC, memN]) ?_
      (iterate 2 ((try simp (etaStruct := .none) only [push_cast, DrawG, Int.cast_ofNat_Int, seval, blkL, cellL, frS, frI, rowI, rowS, evtA, hk, hkeep]); (try (refine xsu ?_; try exact xtI))))
      (try (refine ⟨by kernel_rfl, ?_⟩))
      (iterate 2 ((try simp (etaStruct := .none) only [push_cast, DrawG, Int.cast_ofNat_Int, seval, blkL, cellL, frS, frI, rowI, rowS, evtA, hk, hkeep]); (try (refine xsu ?_; try exact xtI))))
      refine caM [0, 1, 2, 3] (comes_a l (l.way.getD x.at_.toNat default) R hc) ?_
      (iterate 2 ((try simp (etaStruct := .none) only [push_cast, DrawG, Int.cast_ofNat_Int, seval, blkL, cellL, frS, frI, rowI, rowS, evtA, hk, hkeep]); (try (refine xsu ?_; try exact xtI))))
      exact retM [0, 1, 2, 3, 102, 101] rfl rfl (by decide) ⟨⟨rfl, WkL.refl _⟩, ⟨rfl, rfl, rfl⟩, trivial, trivial, ⟨rfl, rfl, by first | rfl | (rw [List.map_append]; rfl)⟩, ⟨rfl, rfl, by first | rfl | (rw [List.map_append]; rfl)⟩, trivial⟩ (by repeat' (first | exact trivial | exact rfl | omega | refine ⟨?_, ?_⟩)) (Wk.refl _)
   ·(try replace h3 := xhh h3)
    simp at h3
theorem do3_a_n (l : Lnk) (x : Evt) (R : LnkR l) (hk : x.kind = 3) (hkeep : x.keep = false) (h : ¬ (x.at_ < 0 ∨ (l.way.length : Int) ≤ x.at_)) (hf : ¬ l.acks.length = 1000) (hc : (l.got.length : Int) < (l.way.getD x.at_.toNat default) ∧ (l.way.getD x.at_.toNat default) ∉ l.held) : Spec Try.prog 61 [.ptr 0 0 0, evtA x] [blkL l (frS l.sent) (.own 1) (.own 2) (frS l.got) (.own 3), rowI l.way, rowI l.acks, rowI l.held] (I .i64 0) [blkL l (frS l.sent) (.own 4) (.own 5) (frS l.got) (.own 6), .dead, .dead, .dead, rowI (cutV l.way x.at_.toNat), rowI (l.acks ++ [(l.got.length : Int)]), rowI (putIn (l.way.getD x.at_.toNat default) l.held)] := by
 have hs := R.s
 have hg := R.g
 have ha := R.a
 have hh := R.h
 have hy := R.y
 have hb := R.b
 have hn3 := R.n
 have hl := lnkL_of R
 refine spec_am Try.func61 rfl rfl mix 127 rfl [.tmp 4] Try.results61 (Nat.le_of_ble_eq_true rfl) ?_
 (iterate 2 ((try simp (etaStruct := .none) only [push_cast, DrawG, Int.cast_ofNat_Int, seval, blkL, cellL, frS, frI, rowI, rowS, evtA, hk, hkeep]); (try (refine xsu ?_; try exact xtI))))
 refine cond_i (fun h1 => ?_) (fun h1 => ?_)
 ·(try replace h1 := xhh h1)
  simp at h1
 ·(try replace h1 := xhh h1)
  (iterate 2 ((try simp (etaStruct := .none) only [push_cast, DrawG, Int.cast_ofNat_Int, seval, blkL, cellL, frS, frI, rowI, rowS, evtA, hk, hkeep]); (try (refine xsu ?_; try exact xtI))))
  refine cond_i (fun h2 => ?_) (fun h2 => ?_)
  ·(try replace h2 := xhh h2)
   simp at h2
  ·(try replace h2 := xhh h2)
   (iterate 2 ((try simp (etaStruct := .none) only [push_cast, DrawG, Int.cast_ofNat_Int, seval, blkL, cellL, frS, frI, rowI, rowS, evtA, hk, hkeep]); (try (refine xsu ?_; try exact xtI))))
   refine cond_i (fun h3 => ?_) (fun h3 => ?_)
   ·(try replace h3 := xhh h3)
    (iterate 2 ((try simp (etaStruct := .none) only [push_cast, DrawG, Int.cast_ofNat_Int, seval, blkL, cellL, frS, frI, rowI, rowS, evtA, hk, hkeep]); (try (refine xsu ?_; try exact xtI))))
    refine callM [0, 1, 2, 3] (tk_y_yah_k l x.at_ hl (by omega)) (WkL.refl _) rfl (by decide) (by simp [lookC_c, onlyC, memN]) ?_
    (iterate 2 ((try simp (etaStruct := .none) only [push_cast, DrawG, Int.cast_ofNat_Int, seval, blkL, cellL, frS, frI, rowI, rowS, evtA, hk, hkeep]); (try (refine xsu ?_; try exact xtI))))
    (try (refine ⟨by kernel_rfl, ?_⟩))
    (iterate 2 ((try simp (etaStruct := .none) only [push_cast, DrawG, Int.cast_ofNat_Int, seval, blkL, cellL, frS, frI, rowI, rowS, evtA, hk, hkeep]); (try (refine xsu ?_; try exact xtI))))
    refine cond_i (fun h4 => ?_) (fun h4 => ?_)
    ·(try replace h4 := xhh h4)
     simp at h4
    ·(try replace h4 := xhh h4)
     (iterate 2 ((try simp (etaStruct := .none) only [push_cast, DrawG, Int.cast_ofNat_Int, seval, blkL, cellL, frS, frI, rowI, rowS, evtA, hk, hkeep]); (try (refine xsu ?_; try exact xtI))))
     refine cond_i (fun h5 => ?_) (fun h5 => ?_)
     ·(try replace h5 := xhh h5)
      omega
     ·(try replace h5 := xhh h5)
      (iterate 2 ((try simp (etaStruct := .none) only [push_cast, DrawG, Int.cast_ofNat_Int, seval, blkL, cellL, frS, frI, rowI, rowS, evtA, hk, hkeep]); (try (refine xsu ?_; try exact xtI))))
      refine callM [0, 1, 2, 3] (tk_y_yah_n l x.at_ hl (by omega)) (WkL.refl _) rfl (by decide) (by simp [lookC_c, onlyC, memN]) ?_
      (iterate 2 ((try simp (etaStruct := .none) only [push_cast, DrawG, Int.cast_ofNat_Int, seval, blkL, cellL, frS, frI, rowI, rowS, evtA, hk, hkeep]); (try (refine xsu ?_; try exact xtI))))
      (try (refine ⟨by kernel_rfl, ?_⟩))
      (iterate 2 ((try simp (etaStruct := .none) only [push_cast, DrawG, Int.cast_ofNat_Int, seval, blkL, cellL, frS, frI, rowI, rowS, evtA, hk, hkeep]); (try (refine xsu ?_; try exact xtI))))
      refine caM [0, 77, 2, 3] (comes_a { l with way := cutV l.way x.at_.toNat } (l.way.getD x.at_.toNat default) (R.cutway _) hc) ?_
      (iterate 2 ((try simp (etaStruct := .none) only [push_cast, DrawG, Int.cast_ofNat_Int, seval, blkL, cellL, frS, frI, rowI, rowS, evtA, hk, hkeep]); (try (refine xsu ?_; try exact xtI))))
      exact retM [0, 1, 2, 3, 77, 102, 101] rfl rfl (by decide) ⟨⟨rfl, WkL.refl _⟩, trivial, trivial, trivial, ⟨rfl, rfl, by first | rfl | (rw [List.map_append]; rfl)⟩, ⟨rfl, rfl, by first | rfl | (rw [List.map_append]; rfl)⟩, ⟨rfl, rfl, by first | rfl | (rw [List.map_append]; rfl)⟩, trivial⟩ (by repeat' (first | exact trivial | exact rfl | omega | refine ⟨?_, ?_⟩)) (Wk.refl _)
   ·(try replace h3 := xhh h3)
    simp at h3
theorem do3_b_k (l : Lnk) (x : Evt) (R : LnkR l) (hk : x.kind = 3) (hkeep : x.keep = true) (h : ¬ (x.at_ < 0 ∨ (l.way.length : Int) ≤ x.at_)) (hf : ¬ l.acks.length = 1000) (hc : (l.way.getD x.at_.toNat default) = (l.got.length : Int)) : Spec Try.prog 61 [.ptr 0 0 0, evtA x] [blkL l (frS l.sent) (.own 1) (.own 2) (.own 3) (frI l.held), rowI l.way, rowI l.acks, rowS l.got] (I .i64 0) [blkL l (frS l.sent) (.own 1) (.own 4) (.own 5) (frI ((runUp (l.got.length + 1) l.held).2)), rowI l.way, .dead, .dead, rowI (l.acks ++ [(runUp (l.got.length + 1) l.held).1]), rowS (l.sent.take (runUp (l.got.length + 1) l.held).1.toNat)] := by
 have hs := R.s
 have hg := R.g
 have ha := R.a
 have hh := R.h
 have hy := R.y
 have hb := R.b
 have hn3 := R.n
 have hl := lnkL_of R
 have hbn : (l.got.length : Int) < l.next := by have := mem_all (p := fun n => 0 ≤ n ∧ n < l.next) R.wy (show x.at_.toNat < l.way.length by omega); omega
 refine spec_am Try.func61 rfl rfl mix 127 rfl [.tmp 4] Try.results61 (Nat.le_of_ble_eq_true rfl) ?_
 (iterate 2 ((try simp (etaStruct := .none) only [push_cast, DrawG, Int.cast_ofNat_Int, seval, blkL, cellL, frS, frI, rowI, rowS, evtA, hk, hkeep, hc]); (try (refine xsu ?_; try exact xtI))))
 refine cond_i (fun h1 => ?_) (fun h1 => ?_)
 ·(try replace h1 := xhh h1)
  simp at h1
 ·(try replace h1 := xhh h1)
  (iterate 2 ((try simp (etaStruct := .none) only [push_cast, DrawG, Int.cast_ofNat_Int, seval, blkL, cellL, frS, frI, rowI, rowS, evtA, hk, hkeep, hc]); (try (refine xsu ?_; try exact xtI))))
  refine cond_i (fun h2 => ?_) (fun h2 => ?_)
  ·(try replace h2 := xhh h2)
   simp at h2
  ·(try replace h2 := xhh h2)
   (iterate 2 ((try simp (etaStruct := .none) only [push_cast, DrawG, Int.cast_ofNat_Int, seval, blkL, cellL, frS, frI, rowI, rowS, evtA, hk, hkeep, hc]); (try (refine xsu ?_; try exact xtI))))
   refine cond_i (fun h3 => ?_) (fun h3 => ?_)
   ·(try replace h3 := xhh h3)
    (iterate 2 ((try simp (etaStruct := .none) only [push_cast, DrawG, Int.cast_ofNat_Int, seval, blkL, cellL, frS, frI, rowI, rowS, evtA, hk, hkeep, hc]); (try (refine xsu ?_; try exact xtI))))
    refine callM [0, 1, 2, 3] (tk_y_yag_k l x.at_ hl (by omega)) (WkL.refl _) rfl (by decide) (by simp [lookC_c, onlyC, memN]) ?_
    (iterate 2 ((try simp (etaStruct := .none) only [push_cast, DrawG, Int.cast_ofNat_Int, seval, blkL, cellL, frS, frI, rowI, rowS, evtA, hk, hkeep, hc]); (try (refine xsu ?_; try exact xtI))))
    (try (refine ⟨by kernel_rfl, ?_⟩))
    (iterate 2 ((try simp (etaStruct := .none) only [push_cast, DrawG, Int.cast_ofNat_Int, seval, blkL, cellL, frS, frI, rowI, rowS, evtA, hk, hkeep, hc]); (try (refine xsu ?_; try exact xtI))))
    refine cond_i (fun h4 => ?_) (fun h4 => ?_)
    ·(try replace h4 := xhh h4)
     simp at h4
    ·(try replace h4 := xhh h4)
     (iterate 2 ((try simp (etaStruct := .none) only [push_cast, DrawG, Int.cast_ofNat_Int, seval, blkL, cellL, frS, frI, rowI, rowS, evtA, hk, hkeep, hc]); (try (refine xsu ?_; try exact xtI))))
     refine cond_i (fun h5 => ?_) (fun h5 => ?_)
     ·(try replace h5 := xhh h5)
      omega
     ·(try replace h5 := xhh h5)
      (iterate 2 ((try simp (etaStruct := .none) only [push_cast, DrawG, Int.cast_ofNat_Int, seval, blkL, cellL, frS, frI, rowI, rowS, evtA, hk, hkeep, hc]); (try (refine xsu ?_; try exact xtI))))
      refine callM [0, 1, 2, 3] (tk_y_yag_k l x.at_ hl (by omega)) (WkL.refl _) rfl (by decide) (by simp [lookC_c, onlyC, memN]) ?_
      (iterate 2 ((try simp (etaStruct := .none) only [push_cast, DrawG, Int.cast_ofNat_Int, seval, blkL, cellL, frS, frI, rowI, rowS, evtA, hk, hkeep, hc]); (try (refine xsu ?_; try exact xtI))))
      (try (refine ⟨by kernel_rfl, ?_⟩))
      (iterate 2 ((try simp (etaStruct := .none) only [push_cast, DrawG, Int.cast_ofNat_Int, seval, blkL, cellL, frS, frI, rowI, rowS, evtA, hk, hkeep, hc]); (try (refine xsu ?_; try exact xtI))))
      refine caM [0, 1, 2, 3] (comes_b l R hbn) ?_
      (iterate 2 ((try simp (etaStruct := .none) only [push_cast, DrawG, Int.cast_ofNat_Int, seval, blkL, cellL, frS, frI, rowI, rowS, evtA, hk, hkeep, hc]); (try (refine xsu ?_; try exact xtI))))
      exact retM [0, 1, 2, 3, 102, 101] rfl rfl (by decide) ⟨⟨rfl, WkL.refl _⟩, ⟨rfl, rfl, rfl⟩, trivial, trivial, ⟨rfl, rfl, by first | rfl | (rw [List.map_append]; rfl)⟩, ⟨rfl, rfl, by first | rfl | (rw [List.map_append]; rfl)⟩, trivial⟩ (by repeat' (first | exact trivial | exact rfl | omega | refine ⟨?_, ?_⟩)) (Wk.refl _)
   ·(try replace h3 := xhh h3)
    simp at h3
theorem do3_b_n (l : Lnk) (x : Evt) (R : LnkR l) (hk : x.kind = 3) (hkeep : x.keep = false) (h : ¬ (x.at_ < 0 ∨ (l.way.length : Int) ≤ x.at_)) (hf : ¬ l.acks.length = 1000) (hc : (l.way.getD x.at_.toNat default) = (l.got.length : Int)) : Spec Try.prog 61 [.ptr 0 0 0, evtA x] [blkL l (frS l.sent) (.own 1) (.own 2) (.own 3) (frI l.held), rowI l.way, rowI l.acks, rowS l.got] (I .i64 0) [blkL l (frS l.sent) (.own 4) (.own 5) (.own 6) (frI ((runUp (l.got.length + 1) l.held).2)), .dead, .dead, .dead, rowI (cutV l.way x.at_.toNat), rowI (l.acks ++ [(runUp (l.got.length + 1) l.held).1]), rowS (l.sent.take (runUp (l.got.length + 1) l.held).1.toNat)] := by
 have hs := R.s
 have hg := R.g
 have ha := R.a
 have hh := R.h
 have hy := R.y
 have hb := R.b
 have hn3 := R.n
 have hl := lnkL_of R
 have hbn : (l.got.length : Int) < l.next := by have := mem_all (p := fun n => 0 ≤ n ∧ n < l.next) R.wy (show x.at_.toNat < l.way.length by omega); omega
 refine spec_am Try.func61 rfl rfl mix 127 rfl [.tmp 4] Try.results61 (Nat.le_of_ble_eq_true rfl) ?_
 (iterate 2 ((try simp (etaStruct := .none) only [push_cast, DrawG, Int.cast_ofNat_Int, seval, blkL, cellL, frS, frI, rowI, rowS, evtA, hk, hkeep, hc]); (try (refine xsu ?_; try exact xtI))))
 refine cond_i (fun h1 => ?_) (fun h1 => ?_)
 ·(try replace h1 := xhh h1)
  simp at h1
 ·(try replace h1 := xhh h1)
  (iterate 2 ((try simp (etaStruct := .none) only [push_cast, DrawG, Int.cast_ofNat_Int, seval, blkL, cellL, frS, frI, rowI, rowS, evtA, hk, hkeep, hc]); (try (refine xsu ?_; try exact xtI))))
  refine cond_i (fun h2 => ?_) (fun h2 => ?_)
  ·(try replace h2 := xhh h2)
   simp at h2
  ·(try replace h2 := xhh h2)
   (iterate 2 ((try simp (etaStruct := .none) only [push_cast, DrawG, Int.cast_ofNat_Int, seval, blkL, cellL, frS, frI, rowI, rowS, evtA, hk, hkeep, hc]); (try (refine xsu ?_; try exact xtI))))
   refine cond_i (fun h3 => ?_) (fun h3 => ?_)
   ·(try replace h3 := xhh h3)
    (iterate 2 ((try simp (etaStruct := .none) only [push_cast, DrawG, Int.cast_ofNat_Int, seval, blkL, cellL, frS, frI, rowI, rowS, evtA, hk, hkeep, hc]); (try (refine xsu ?_; try exact xtI))))
    refine callM [0, 1, 2, 3] (tk_y_yag_k l x.at_ hl (by omega)) (WkL.refl _) rfl (by decide) (by simp [lookC_c, onlyC, memN]) ?_
    (iterate 2 ((try simp (etaStruct := .none) only [push_cast, DrawG, Int.cast_ofNat_Int, seval, blkL, cellL, frS, frI, rowI, rowS, evtA, hk, hkeep, hc]); (try (refine xsu ?_; try exact xtI))))
    (try (refine ⟨by kernel_rfl, ?_⟩))
    (iterate 2 ((try simp (etaStruct := .none) only [push_cast, DrawG, Int.cast_ofNat_Int, seval, blkL, cellL, frS, frI, rowI, rowS, evtA, hk, hkeep, hc]); (try (refine xsu ?_; try exact xtI))))
    refine cond_i (fun h4 => ?_) (fun h4 => ?_)
    ·(try replace h4 := xhh h4)
     simp at h4
    ·(try replace h4 := xhh h4)
     (iterate 2 ((try simp (etaStruct := .none) only [push_cast, DrawG, Int.cast_ofNat_Int, seval, blkL, cellL, frS, frI, rowI, rowS, evtA, hk, hkeep, hc]); (try (refine xsu ?_; try exact xtI))))
     refine cond_i (fun h5 => ?_) (fun h5 => ?_)
     ·(try replace h5 := xhh h5)
      omega
     ·(try replace h5 := xhh h5)
      (iterate 2 ((try simp (etaStruct := .none) only [push_cast, DrawG, Int.cast_ofNat_Int, seval, blkL, cellL, frS, frI, rowI, rowS, evtA, hk, hkeep, hc]); (try (refine xsu ?_; try exact xtI))))
      refine callM [0, 1, 2, 3] (tk_y_yag_n l x.at_ hl (by omega)) (WkL.refl _) rfl (by decide) (by simp [lookC_c, onlyC, memN]) ?_
      (iterate 2 ((try simp (etaStruct := .none) only [push_cast, DrawG, Int.cast_ofNat_Int, seval, blkL, cellL, frS, frI, rowI, rowS, evtA, hk, hkeep, hc]); (try (refine xsu ?_; try exact xtI))))
      (try (refine ⟨by kernel_rfl, ?_⟩))
      (iterate 2 ((try simp (etaStruct := .none) only [push_cast, DrawG, Int.cast_ofNat_Int, seval, blkL, cellL, frS, frI, rowI, rowS, evtA, hk, hkeep, hc]); (try (refine xsu ?_; try exact xtI))))
      refine caM [0, 77, 2, 3] (comes_b { l with way := cutV l.way x.at_.toNat } (R.cutway _) hbn) ?_
      (iterate 2 ((try simp (etaStruct := .none) only [push_cast, DrawG, Int.cast_ofNat_Int, seval, blkL, cellL, frS, frI, rowI, rowS, evtA, hk, hkeep, hc]); (try (refine xsu ?_; try exact xtI))))
      exact retM [0, 1, 2, 3, 77, 102, 101] rfl rfl (by decide) ⟨⟨rfl, WkL.refl _⟩, trivial, trivial, trivial, ⟨rfl, rfl, by first | rfl | (rw [List.map_append]; rfl)⟩, ⟨rfl, rfl, by first | rfl | (rw [List.map_append]; rfl)⟩, ⟨rfl, rfl, by first | rfl | (rw [List.map_append]; rfl)⟩, trivial⟩ (by repeat' (first | exact trivial | exact rfl | omega | refine ⟨?_, ?_⟩)) (Wk.refl _)
   ·(try replace h3 := xhh h3)
    simp at h3
theorem do3_c_k (l : Lnk) (x : Evt) (R : LnkR l) (hk : x.kind = 3) (hkeep : x.keep = true) (h : ¬ (x.at_ < 0 ∨ (l.way.length : Int) ≤ x.at_)) (hf : ¬ l.acks.length = 1000) (hc : (l.way.getD x.at_.toNat default) ≠ (l.got.length : Int)) (hc2 : ¬ ((l.got.length : Int) < (l.way.getD x.at_.toNat default) ∧ (l.way.getD x.at_.toNat default) ∉ l.held)) : Spec Try.prog 61 [.ptr 0 0 0, evtA x] [blkL l (frS l.sent) (.own 1) (.own 2) (frS l.got) (frI l.held), rowI l.way, rowI l.acks] (I .i64 0) [blkL l (frS l.sent) (.own 1) (.own 3) (frS l.got) (frI l.held), rowI l.way, .dead, rowI (l.acks ++ [(l.got.length : Int)])] := by
 have hs := R.s
 have hg := R.g
 have ha := R.a
 have hh := R.h
 have hy := R.y
 have hb := R.b
 have hn3 := R.n
 have hl := lnkL_of R
 refine spec_am Try.func61 rfl rfl mix 127 rfl [.tmp 4] Try.results61 (Nat.le_of_ble_eq_true rfl) ?_
 (iterate 2 ((try simp (etaStruct := .none) only [push_cast, DrawG, Int.cast_ofNat_Int, seval, blkL, cellL, frS, frI, rowI, rowS, evtA, hk, hkeep]); (try (refine xsu ?_; try exact xtI))))
 refine cond_i (fun h1 => ?_) (fun h1 => ?_)
 ·(try replace h1 := xhh h1)
  simp at h1
 ·(try replace h1 := xhh h1)
  (iterate 2 ((try simp (etaStruct := .none) only [push_cast, DrawG, Int.cast_ofNat_Int, seval, blkL, cellL, frS, frI, rowI, rowS, evtA, hk, hkeep]); (try (refine xsu ?_; try exact xtI))))
  refine cond_i (fun h2 => ?_) (fun h2 => ?_)
  ·(try replace h2 := xhh h2)
   simp at h2
  ·(try replace h2 := xhh h2)
   (iterate 2 ((try simp (etaStruct := .none) only [push_cast, DrawG, Int.cast_ofNat_Int, seval, blkL, cellL, frS, frI, rowI, rowS, evtA, hk, hkeep]); (try (refine xsu ?_; try exact xtI))))
   refine cond_i (fun h3 => ?_) (fun h3 => ?_)
   ·(try replace h3 := xhh h3)
    (iterate 2 ((try simp (etaStruct := .none) only [push_cast, DrawG, Int.cast_ofNat_Int, seval, blkL, cellL, frS, frI, rowI, rowS, evtA, hk, hkeep]); (try (refine xsu ?_; try exact xtI))))
    refine callM [0, 1, 2] (tk_y_ya_k l x.at_ hl (by omega)) (WkL.refl _) rfl (by decide) (by simp [lookC_c, onlyC, memN]) ?_
    (iterate 2 ((try simp (etaStruct := .none) only [push_cast, DrawG, Int.cast_ofNat_Int, seval, blkL, cellL, frS, frI, rowI, rowS, evtA, hk, hkeep]); (try (refine xsu ?_; try exact xtI))))
    (try (refine ⟨by kernel_rfl, ?_⟩))
    (iterate 2 ((try simp (etaStruct := .none) only [push_cast, DrawG, Int.cast_ofNat_Int, seval, blkL, cellL, frS, frI, rowI, rowS, evtA, hk, hkeep]); (try (refine xsu ?_; try exact xtI))))
    refine cond_i (fun h4 => ?_) (fun h4 => ?_)
    ·(try replace h4 := xhh h4)
     simp at h4
    ·(try replace h4 := xhh h4)
     (iterate 2 ((try simp (etaStruct := .none) only [push_cast, DrawG, Int.cast_ofNat_Int, seval, blkL, cellL, frS, frI, rowI, rowS, evtA, hk, hkeep]); (try (refine xsu ?_; try exact xtI))))
     refine cond_i (fun h5 => ?_) (fun h5 => ?_)
     ·(try replace h5 := xhh h5)
      omega
     ·(try replace h5 := xhh h5)
      (iterate 2 ((try simp (etaStruct := .none) only [push_cast, DrawG, Int.cast_ofNat_Int, seval, blkL, cellL, frS, frI, rowI, rowS, evtA, hk, hkeep]); (try (refine xsu ?_; try exact xtI))))
      refine callM [0, 1, 2] (tk_y_ya_k l x.at_ hl (by omega)) (WkL.refl _) rfl (by decide) (by simp [lookC_c, onlyC, memN]) ?_
      (iterate 2 ((try simp (etaStruct := .none) only [push_cast, DrawG, Int.cast_ofNat_Int, seval, blkL, cellL, frS, frI, rowI, rowS, evtA, hk, hkeep]); (try (refine xsu ?_; try exact xtI))))
      (try (refine ⟨by kernel_rfl, ?_⟩))
      (iterate 2 ((try simp (etaStruct := .none) only [push_cast, DrawG, Int.cast_ofNat_Int, seval, blkL, cellL, frS, frI, rowI, rowS, evtA, hk, hkeep]); (try (refine xsu ?_; try exact xtI))))
      refine caM [0, 1, 2] (comes_c l (l.way.getD x.at_.toNat default) R hc hc2) ?_
      (iterate 2 ((try simp (etaStruct := .none) only [push_cast, DrawG, Int.cast_ofNat_Int, seval, blkL, cellL, frS, frI, rowI, rowS, evtA, hk, hkeep]); (try (refine xsu ?_; try exact xtI))))
      exact retM [0, 1, 2, 100] rfl rfl (by decide) ⟨⟨rfl, WkL.refl _⟩, ⟨rfl, rfl, rfl⟩, trivial, ⟨rfl, rfl, by first | rfl | (rw [List.map_append]; rfl)⟩, trivial⟩ (by repeat' (first | exact trivial | exact rfl | omega | refine ⟨?_, ?_⟩)) (Wk.refl _)
   ·(try replace h3 := xhh h3)
    simp at h3
theorem do3_c_n (l : Lnk) (x : Evt) (R : LnkR l) (hk : x.kind = 3) (hkeep : x.keep = false) (h : ¬ (x.at_ < 0 ∨ (l.way.length : Int) ≤ x.at_)) (hf : ¬ l.acks.length = 1000) (hc : (l.way.getD x.at_.toNat default) ≠ (l.got.length : Int)) (hc2 : ¬ ((l.got.length : Int) < (l.way.getD x.at_.toNat default) ∧ (l.way.getD x.at_.toNat default) ∉ l.held)) : Spec Try.prog 61 [.ptr 0 0 0, evtA x] [blkL l (frS l.sent) (.own 1) (.own 2) (frS l.got) (frI l.held), rowI l.way, rowI l.acks] (I .i64 0) [blkL l (frS l.sent) (.own 3) (.own 4) (frS l.got) (frI l.held), .dead, .dead, rowI (cutV l.way x.at_.toNat), rowI (l.acks ++ [(l.got.length : Int)])] := by
 have hs := R.s
 have hg := R.g
 have ha := R.a
 have hh := R.h
 have hy := R.y
 have hb := R.b
 have hn3 := R.n
 have hl := lnkL_of R
 refine spec_am Try.func61 rfl rfl mix 127 rfl [.tmp 4] Try.results61 (Nat.le_of_ble_eq_true rfl) ?_
 (iterate 2 ((try simp (etaStruct := .none) only [push_cast, DrawG, Int.cast_ofNat_Int, seval, blkL, cellL, frS, frI, rowI, rowS, evtA, hk, hkeep]); (try (refine xsu ?_; try exact xtI))))
 refine cond_i (fun h1 => ?_) (fun h1 => ?_)
 ·(try replace h1 := xhh h1)
  simp at h1
 ·(try replace h1 := xhh h1)
  (iterate 2 ((try simp (etaStruct := .none) only [push_cast, DrawG, Int.cast_ofNat_Int, seval, blkL, cellL, frS, frI, rowI, rowS, evtA, hk, hkeep]); (try (refine xsu ?_; try exact xtI))))
  refine cond_i (fun h2 => ?_) (fun h2 => ?_)
  ·(try replace h2 := xhh h2)
   simp at h2
  ·(try replace h2 := xhh h2)
   (iterate 2 ((try simp (etaStruct := .none) only [push_cast, DrawG, Int.cast_ofNat_Int, seval, blkL, cellL, frS, frI, rowI, rowS, evtA, hk, hkeep]); (try (refine xsu ?_; try exact xtI))))
   refine cond_i (fun h3 => ?_) (fun h3 => ?_)
   ·(try replace h3 := xhh h3)
    (iterate 2 ((try simp (etaStruct := .none) only [push_cast, DrawG, Int.cast_ofNat_Int, seval, blkL, cellL, frS, frI, rowI, rowS, evtA, hk, hkeep]); (try (refine xsu ?_; try exact xtI))))
    refine callM [0, 1, 2] (tk_y_ya_k l x.at_ hl (by omega)) (WkL.refl _) rfl (by decide) (by simp [lookC_c, onlyC, memN]) ?_
    (iterate 2 ((try simp (etaStruct := .none) only [push_cast, DrawG, Int.cast_ofNat_Int, seval, blkL, cellL, frS, frI, rowI, rowS, evtA, hk, hkeep]); (try (refine xsu ?_; try exact xtI))))
    (try (refine ⟨by kernel_rfl, ?_⟩))
    (iterate 2 ((try simp (etaStruct := .none) only [push_cast, DrawG, Int.cast_ofNat_Int, seval, blkL, cellL, frS, frI, rowI, rowS, evtA, hk, hkeep]); (try (refine xsu ?_; try exact xtI))))
    refine cond_i (fun h4 => ?_) (fun h4 => ?_)
    ·(try replace h4 := xhh h4)
     simp at h4
    ·(try replace h4 := xhh h4)
     (iterate 2 ((try simp (etaStruct := .none) only [push_cast, DrawG, Int.cast_ofNat_Int, seval, blkL, cellL, frS, frI, rowI, rowS, evtA, hk, hkeep]); (try (refine xsu ?_; try exact xtI))))
     refine cond_i (fun h5 => ?_) (fun h5 => ?_)
     ·(try replace h5 := xhh h5)
      omega
     ·(try replace h5 := xhh h5)
      (iterate 2 ((try simp (etaStruct := .none) only [push_cast, DrawG, Int.cast_ofNat_Int, seval, blkL, cellL, frS, frI, rowI, rowS, evtA, hk, hkeep]); (try (refine xsu ?_; try exact xtI))))
      refine callM [0, 1, 2] (tk_y_ya_n l x.at_ hl (by omega)) (WkL.refl _) rfl (by decide) (by simp [lookC_c, onlyC, memN]) ?_
      (iterate 2 ((try simp (etaStruct := .none) only [push_cast, DrawG, Int.cast_ofNat_Int, seval, blkL, cellL, frS, frI, rowI, rowS, evtA, hk, hkeep]); (try (refine xsu ?_; try exact xtI))))
      (try (refine ⟨by kernel_rfl, ?_⟩))
      (iterate 2 ((try simp (etaStruct := .none) only [push_cast, DrawG, Int.cast_ofNat_Int, seval, blkL, cellL, frS, frI, rowI, rowS, evtA, hk, hkeep]); (try (refine xsu ?_; try exact xtI))))
      refine caM [0, 76, 2] (comes_c { l with way := cutV l.way x.at_.toNat } (l.way.getD x.at_.toNat default) (R.cutway _) hc hc2) ?_
      (iterate 2 ((try simp (etaStruct := .none) only [push_cast, DrawG, Int.cast_ofNat_Int, seval, blkL, cellL, frS, frI, rowI, rowS, evtA, hk, hkeep]); (try (refine xsu ?_; try exact xtI))))
      exact retM [0, 1, 2, 76, 100] rfl rfl (by decide) ⟨⟨rfl, WkL.refl _⟩, trivial, trivial, ⟨rfl, rfl, by first | rfl | (rw [List.map_append]; rfl)⟩, ⟨rfl, rfl, by first | rfl | (rw [List.map_append]; rfl)⟩, trivial⟩ (by repeat' (first | exact trivial | exact rfl | omega | refine ⟨?_, ?_⟩)) (Wk.refl _)
   ·(try replace h3 := xhh h3)
    simp at h3
theorem do4_none (l : Lnk) (x : Evt) (R : LnkR l) (hk : x.kind = 4) (h : x.at_ < 0 ∨ (l.acks.length : Int) ≤ x.at_) : Spec Try.prog 61 [.ptr 0 0 0, evtA x] [blkL l (frS l.sent) (frI l.way) (frI l.acks) (frS l.got) (frI l.held)] (I .i64 7) [blkL l (frS l.sent) (frI l.way) (frI l.acks) (frS l.got) (frI l.held)] := by
 have hs := R.s
 have hg := R.g
 have ha := R.a
 have hh := R.h
 have hy := R.y
 have hb := R.b
 have hn3 := R.n
 have hl := lnkL_of R
 refine spec_am Try.func61 rfl rfl mix 127 rfl [.tmp 4] Try.results61 (Nat.le_of_ble_eq_true rfl) ?_
 (iterate 2 ((try simp (etaStruct := .none) only [push_cast, DrawG, Int.cast_ofNat_Int, seval, blkL, cellL, frS, frI, rowI, rowS, evtA, hk]); (try (refine xsu ?_; try exact xtI))))
 refine cond_i (fun h1 => ?_) (fun h1 => ?_)
 ·(try replace h1 := xhh h1)
  simp at h1
 ·(try replace h1 := xhh h1)
  (iterate 2 ((try simp (etaStruct := .none) only [push_cast, DrawG, Int.cast_ofNat_Int, seval, blkL, cellL, frS, frI, rowI, rowS, evtA, hk]); (try (refine xsu ?_; try exact xtI))))
  refine cond_i (fun h2 => ?_) (fun h2 => ?_)
  ·(try replace h2 := xhh h2)
   simp at h2
  ·(try replace h2 := xhh h2)
   (iterate 2 ((try simp (etaStruct := .none) only [push_cast, DrawG, Int.cast_ofNat_Int, seval, blkL, cellL, frS, frI, rowI, rowS, evtA, hk]); (try (refine xsu ?_; try exact xtI))))
   refine cond_i (fun h3 => ?_) (fun h3 => ?_)
   ·(try replace h3 := xhh h3)
    simp at h3
   ·(try replace h3 := xhh h3)
    (iterate 2 ((try simp (etaStruct := .none) only [push_cast, DrawG, Int.cast_ofNat_Int, seval, blkL, cellL, frS, frI, rowI, rowS, evtA, hk]); (try (refine xsu ?_; try exact xtI))))
    refine cond_i (fun h4 => ?_) (fun h4 => ?_)
    ·(try replace h4 := xhh h4)
     (iterate 2 ((try simp (etaStruct := .none) only [push_cast, DrawG, Int.cast_ofNat_Int, seval, blkL, cellL, frS, frI, rowI, rowS, evtA, hk]); (try (refine xsu ?_; try exact xtI))))
     refine callM [0] (tk_a_bad l x.at_ x.keep hl h) (WkL.refl _) rfl (by decide) (by simp [lookC_c, onlyC, memN]) ?_
     (iterate 2 ((try simp (etaStruct := .none) only [push_cast, DrawG, Int.cast_ofNat_Int, seval, blkL, cellL, frS, frI, rowI, rowS, evtA, hk]); (try (refine xsu ?_; try exact xtI))))
     (try (refine ⟨by kernel_rfl, ?_⟩))
     (iterate 2 ((try simp (etaStruct := .none) only [push_cast, DrawG, Int.cast_ofNat_Int, seval, blkL, cellL, frS, frI, rowI, rowS, evtA, hk]); (try (refine xsu ?_; try exact xtI))))
     refine cond_i (fun h5 => ?_) (fun h5 => ?_)
     ·(try replace h5 := xhh h5)
      (iterate 2 ((try simp (etaStruct := .none) only [push_cast, DrawG, Int.cast_ofNat_Int, seval, blkL, cellL, frS, frI, rowI, rowS, evtA, hk]); (try (refine xsu ?_; try exact xtI))))
      exact retM [0] rfl rfl (by decide) ⟨⟨rfl, WkL.refl _⟩, trivial⟩ (by repeat' (first | exact trivial | exact rfl | omega | refine ⟨?_, ?_⟩)) (Wk.refl _)
     ·(try replace h5 := xhh h5)
      simp at h5
    ·(try replace h4 := xhh h4)
     simp at h4
theorem do4_k (l : Lnk) (x : Evt) (R : LnkR l) (hk : x.kind = 4) (hkeep : x.keep = true) (h : ¬ (x.at_ < 0 ∨ (l.acks.length : Int) ≤ x.at_)) : Spec Try.prog 61 [.ptr 0 0 0, evtA x] [blkL l (frS l.sent) (frI l.way) (.own 1) (frS l.got) (frI l.held), rowI l.acks] (I .i64 0) [blkL { l with base := (max l.base (l.acks.getD x.at_.toNat default)), next := (max l.next (max l.base (l.acks.getD x.at_.toNat default))) } (frS l.sent) (frI l.way) (.own 1) (frS l.got) (frI l.held), rowI l.acks] := by
 have hs := R.s
 have hg := R.g
 have ha := R.a
 have hh := R.h
 have hy := R.y
 have hb := R.b
 have hn3 := R.n
 have hl := lnkL_of R
 have hv := mem_all (p := fun n => 0 ≤ n ∧ n ≤ l.got.length) R.ak (show x.at_.toNat < l.acks.length by omega)
 have em : ∀ a b : Int, (if a < b then b else a) = max a b := fun a b => by split <;> omega
 refine spec_am Try.func61 rfl rfl mix 127 rfl [.tmp 4] Try.results61 (Nat.le_of_ble_eq_true rfl) ?_
 (iterate 2 ((try simp (etaStruct := .none) only [push_cast, DrawG, Int.cast_ofNat_Int, seval, blkL, cellL, frS, frI, rowI, rowS, evtA, hk, hkeep, em]); (try (refine xsu ?_; try exact xtI))))
 refine cond_i (fun h1 => ?_) (fun h1 => ?_)
 ·(try replace h1 := xhh h1)
  simp at h1
 ·(try replace h1 := xhh h1)
  (iterate 2 ((try simp (etaStruct := .none) only [push_cast, DrawG, Int.cast_ofNat_Int, seval, blkL, cellL, frS, frI, rowI, rowS, evtA, hk, hkeep, em]); (try (refine xsu ?_; try exact xtI))))
  refine cond_i (fun h2 => ?_) (fun h2 => ?_)
  ·(try replace h2 := xhh h2)
   simp at h2
  ·(try replace h2 := xhh h2)
   (iterate 2 ((try simp (etaStruct := .none) only [push_cast, DrawG, Int.cast_ofNat_Int, seval, blkL, cellL, frS, frI, rowI, rowS, evtA, hk, hkeep, em]); (try (refine xsu ?_; try exact xtI))))
   refine cond_i (fun h3 => ?_) (fun h3 => ?_)
   ·(try replace h3 := xhh h3)
    simp at h3
   ·(try replace h3 := xhh h3)
    (iterate 2 ((try simp (etaStruct := .none) only [push_cast, DrawG, Int.cast_ofNat_Int, seval, blkL, cellL, frS, frI, rowI, rowS, evtA, hk, hkeep, em]); (try (refine xsu ?_; try exact xtI))))
    refine cond_i (fun h4 => ?_) (fun h4 => ?_)
    ·(try replace h4 := xhh h4)
     (iterate 2 ((try simp (etaStruct := .none) only [push_cast, DrawG, Int.cast_ofNat_Int, seval, blkL, cellL, frS, frI, rowI, rowS, evtA, hk, hkeep, em]); (try (refine xsu ?_; try exact xtI))))
     refine callM [0, 1] (tk_a_a_k l x.at_ hl (by omega)) (WkL.refl _) rfl (by decide) (by simp [lookC_c, onlyC, memN]) ?_
     (iterate 2 ((try simp (etaStruct := .none) only [push_cast, DrawG, Int.cast_ofNat_Int, seval, blkL, cellL, frS, frI, rowI, rowS, evtA, hk, hkeep, em]); (try (refine xsu ?_; try exact xtI))))
     (try (refine ⟨by kernel_rfl, ?_⟩))
     (iterate 2 ((try simp (etaStruct := .none) only [push_cast, DrawG, Int.cast_ofNat_Int, seval, blkL, cellL, frS, frI, rowI, rowS, evtA, hk, hkeep, em]); (try (refine xsu ?_; try exact xtI))))
     refine cond_i (fun h5 => ?_) (fun h5 => ?_)
     ·(try replace h5 := xhh h5)
      simp at h5
     ·(try replace h5 := xhh h5)
      (iterate 2 ((try simp (etaStruct := .none) only [push_cast, DrawG, Int.cast_ofNat_Int, seval, blkL, cellL, frS, frI, rowI, rowS, evtA, hk, hkeep, em]); (try (refine xsu ?_; try exact xtI))))
      (try (refine ⟨by kernel_rfl, ?_⟩))
      (iterate 2 ((try simp (etaStruct := .none) only [push_cast, DrawG, Int.cast_ofNat_Int, seval, blkL, cellL, frS, frI, rowI, rowS, evtA, hk, hkeep, em]); (try (refine xsu ?_; try exact xtI))))
      exact retM [0, 1] rfl rfl (by decide) ⟨⟨rfl, WkL.refl _⟩, ⟨rfl, rfl, rfl⟩, trivial⟩ (by repeat' (first | exact trivial | exact rfl | omega | refine ⟨?_, ?_⟩)) (Wk.refl _)
    ·(try replace h4 := xhh h4)
     simp at h4
theorem do4_n (l : Lnk) (x : Evt) (R : LnkR l) (hk : x.kind = 4) (hkeep : x.keep = false) (h : ¬ (x.at_ < 0 ∨ (l.acks.length : Int) ≤ x.at_)) : Spec Try.prog 61 [.ptr 0 0 0, evtA x] [blkL l (frS l.sent) (frI l.way) (.own 1) (frS l.got) (frI l.held), rowI l.acks] (I .i64 0) [blkL { l with base := (max l.base (l.acks.getD x.at_.toNat default)), next := (max l.next (max l.base (l.acks.getD x.at_.toNat default))) } (frS l.sent) (frI l.way) (.own 2) (frS l.got) (frI l.held), .dead, rowI (cutV l.acks x.at_.toNat)] := by
 have hs := R.s
 have hg := R.g
 have ha := R.a
 have hh := R.h
 have hy := R.y
 have hb := R.b
 have hn3 := R.n
 have hl := lnkL_of R
 have hv := mem_all (p := fun n => 0 ≤ n ∧ n ≤ l.got.length) R.ak (show x.at_.toNat < l.acks.length by omega)
 have em : ∀ a b : Int, (if a < b then b else a) = max a b := fun a b => by split <;> omega
 refine spec_am Try.func61 rfl rfl mix 127 rfl [.tmp 4] Try.results61 (Nat.le_of_ble_eq_true rfl) ?_
 (iterate 2 ((try simp (etaStruct := .none) only [push_cast, DrawG, Int.cast_ofNat_Int, seval, blkL, cellL, frS, frI, rowI, rowS, evtA, hk, hkeep, em]); (try (refine xsu ?_; try exact xtI))))
 refine cond_i (fun h1 => ?_) (fun h1 => ?_)
 ·(try replace h1 := xhh h1)
  simp at h1
 ·(try replace h1 := xhh h1)
  (iterate 2 ((try simp (etaStruct := .none) only [push_cast, DrawG, Int.cast_ofNat_Int, seval, blkL, cellL, frS, frI, rowI, rowS, evtA, hk, hkeep, em]); (try (refine xsu ?_; try exact xtI))))
  refine cond_i (fun h2 => ?_) (fun h2 => ?_)
  ·(try replace h2 := xhh h2)
   simp at h2
  ·(try replace h2 := xhh h2)
   (iterate 2 ((try simp (etaStruct := .none) only [push_cast, DrawG, Int.cast_ofNat_Int, seval, blkL, cellL, frS, frI, rowI, rowS, evtA, hk, hkeep, em]); (try (refine xsu ?_; try exact xtI))))
   refine cond_i (fun h3 => ?_) (fun h3 => ?_)
   ·(try replace h3 := xhh h3)
    simp at h3
   ·(try replace h3 := xhh h3)
    (iterate 2 ((try simp (etaStruct := .none) only [push_cast, DrawG, Int.cast_ofNat_Int, seval, blkL, cellL, frS, frI, rowI, rowS, evtA, hk, hkeep, em]); (try (refine xsu ?_; try exact xtI))))
    refine cond_i (fun h4 => ?_) (fun h4 => ?_)
    ·(try replace h4 := xhh h4)
     (iterate 2 ((try simp (etaStruct := .none) only [push_cast, DrawG, Int.cast_ofNat_Int, seval, blkL, cellL, frS, frI, rowI, rowS, evtA, hk, hkeep, em]); (try (refine xsu ?_; try exact xtI))))
     refine callM [0, 1] (tk_a_a_n l x.at_ hl (by omega)) (WkL.refl _) rfl (by decide) (by simp [lookC_c, onlyC, memN]) ?_
     (iterate 2 ((try simp (etaStruct := .none) only [push_cast, DrawG, Int.cast_ofNat_Int, seval, blkL, cellL, frS, frI, rowI, rowS, evtA, hk, hkeep, em]); (try (refine xsu ?_; try exact xtI))))
     (try (refine ⟨by kernel_rfl, ?_⟩))
     (iterate 2 ((try simp (etaStruct := .none) only [push_cast, DrawG, Int.cast_ofNat_Int, seval, blkL, cellL, frS, frI, rowI, rowS, evtA, hk, hkeep, em]); (try (refine xsu ?_; try exact xtI))))
     refine cond_i (fun h5 => ?_) (fun h5 => ?_)
     ·(try replace h5 := xhh h5)
      simp at h5
     ·(try replace h5 := xhh h5)
      (iterate 2 ((try simp (etaStruct := .none) only [push_cast, DrawG, Int.cast_ofNat_Int, seval, blkL, cellL, frS, frI, rowI, rowS, evtA, hk, hkeep, em]); (try (refine xsu ?_; try exact xtI))))
      (try (refine ⟨by kernel_rfl, ?_⟩))
      (iterate 2 ((try simp (etaStruct := .none) only [push_cast, DrawG, Int.cast_ofNat_Int, seval, blkL, cellL, frS, frI, rowI, rowS, evtA, hk, hkeep, em]); (try (refine xsu ?_; try exact xtI))))
      exact retM [0, 1, 31] rfl rfl (by decide) ⟨⟨rfl, WkL.refl _⟩, trivial, ⟨rfl, rfl, by first | rfl | (rw [List.map_append]; rfl)⟩, trivial⟩ (by repeat' (first | exact trivial | exact rfl | omega | refine ⟨?_, ?_⟩)) (Wk.refl _)
    ·(try replace h4 := xhh h4)
     simp at h4
theorem do5_y_none (l : Lnk) (x : Evt) (R : LnkR l) (hk : x.kind = 5) (hkeep : x.keep = false) (h : x.at_ < 0 ∨ (l.way.length : Int) ≤ x.at_) : Spec Try.prog 61 [.ptr 0 0 0, evtA x] [blkL l (frS l.sent) (frI l.way) (frI l.acks) (frS l.got) (frI l.held)] (I .i64 7) [blkL l (frS l.sent) (frI l.way) (frI l.acks) (frS l.got) (frI l.held)] := by
 have hs := R.s
 have hg := R.g
 have ha := R.a
 have hh := R.h
 have hy := R.y
 have hb := R.b
 have hn3 := R.n
 have hl := lnkL_of R
 refine spec_am Try.func61 rfl rfl mix 127 rfl [.tmp 4] Try.results61 (Nat.le_of_ble_eq_true rfl) ?_
 (iterate 2 ((try simp (etaStruct := .none) only [push_cast, DrawG, Int.cast_ofNat_Int, seval, blkL, cellL, frS, frI, rowI, rowS, evtA, hk, hkeep]); (try (refine xsu ?_; try exact xtI))))
 refine cond_i (fun h1 => ?_) (fun h1 => ?_)
 ·(try replace h1 := xhh h1)
  simp at h1
 ·(try replace h1 := xhh h1)
  (iterate 2 ((try simp (etaStruct := .none) only [push_cast, DrawG, Int.cast_ofNat_Int, seval, blkL, cellL, frS, frI, rowI, rowS, evtA, hk, hkeep]); (try (refine xsu ?_; try exact xtI))))
  refine cond_i (fun h2 => ?_) (fun h2 => ?_)
  ·(try replace h2 := xhh h2)
   simp at h2
  ·(try replace h2 := xhh h2)
   (iterate 2 ((try simp (etaStruct := .none) only [push_cast, DrawG, Int.cast_ofNat_Int, seval, blkL, cellL, frS, frI, rowI, rowS, evtA, hk, hkeep]); (try (refine xsu ?_; try exact xtI))))
   refine cond_i (fun h3 => ?_) (fun h3 => ?_)
   ·(try replace h3 := xhh h3)
    simp at h3
   ·(try replace h3 := xhh h3)
    (iterate 2 ((try simp (etaStruct := .none) only [push_cast, DrawG, Int.cast_ofNat_Int, seval, blkL, cellL, frS, frI, rowI, rowS, evtA, hk, hkeep]); (try (refine xsu ?_; try exact xtI))))
    refine cond_i (fun h4 => ?_) (fun h4 => ?_)
    ·(try replace h4 := xhh h4)
     simp at h4
    ·(try replace h4 := xhh h4)
     (iterate 2 ((try simp (etaStruct := .none) only [push_cast, DrawG, Int.cast_ofNat_Int, seval, blkL, cellL, frS, frI, rowI, rowS, evtA, hk, hkeep]); (try (refine xsu ?_; try exact xtI))))
     refine cond_i (fun h5 => ?_) (fun h5 => ?_)
     ·(try replace h5 := xhh h5)
      (iterate 2 ((try simp (etaStruct := .none) only [push_cast, DrawG, Int.cast_ofNat_Int, seval, blkL, cellL, frS, frI, rowI, rowS, evtA, hk, hkeep]); (try (refine xsu ?_; try exact xtI))))
      refine cond_i (fun h6 => ?_) (fun h6 => ?_)
      ·(try replace h6 := xhh h6)
       simp at h6
      ·(try replace h6 := xhh h6)
       (iterate 2 ((try simp (etaStruct := .none) only [push_cast, DrawG, Int.cast_ofNat_Int, seval, blkL, cellL, frS, frI, rowI, rowS, evtA, hk, hkeep]); (try (refine xsu ?_; try exact xtI))))
       refine callM [0] (tk_y_bad l x.at_ false hl h) (WkL.refl _) rfl (by decide) (by simp [lookC_c, onlyC, memN]) ?_
       (iterate 2 ((try simp (etaStruct := .none) only [push_cast, DrawG, Int.cast_ofNat_Int, seval, blkL, cellL, frS, frI, rowI, rowS, evtA, hk, hkeep]); (try (refine xsu ?_; try exact xtI))))
       refine cond_i (fun h7 => ?_) (fun h7 => ?_)
       ·(try replace h7 := xhh h7)
        (iterate 2 ((try simp (etaStruct := .none) only [push_cast, DrawG, Int.cast_ofNat_Int, seval, blkL, cellL, frS, frI, rowI, rowS, evtA, hk, hkeep]); (try (refine xsu ?_; try exact xtI))))
        exact retM [0] rfl rfl (by decide) ⟨⟨rfl, WkL.refl _⟩, trivial⟩ (by repeat' (first | exact trivial | exact rfl | omega | refine ⟨?_, ?_⟩)) (Wk.refl _)
       ·(try replace h7 := xhh h7)
        simp at h7
     ·(try replace h5 := xhh h5)
      simp at h5
theorem do5_y (l : Lnk) (x : Evt) (R : LnkR l) (hk : x.kind = 5) (hkeep : x.keep = false) (h : ¬ (x.at_ < 0 ∨ (l.way.length : Int) ≤ x.at_)) : Spec Try.prog 61 [.ptr 0 0 0, evtA x] [blkL l (frS l.sent) (.own 1) (frI l.acks) (frS l.got) (frI l.held), rowI l.way] (I .i64 0) [blkL l (frS l.sent) (.own 2) (frI l.acks) (frS l.got) (frI l.held), .dead, rowI (cutV l.way x.at_.toNat)] := by
 have hs := R.s
 have hg := R.g
 have ha := R.a
 have hh := R.h
 have hy := R.y
 have hb := R.b
 have hn3 := R.n
 have hl := lnkL_of R
 refine spec_am Try.func61 rfl rfl mix 127 rfl [.tmp 4] Try.results61 (Nat.le_of_ble_eq_true rfl) ?_
 (iterate 2 ((try simp (etaStruct := .none) only [push_cast, DrawG, Int.cast_ofNat_Int, seval, blkL, cellL, frS, frI, rowI, rowS, evtA, hk, hkeep]); (try (refine xsu ?_; try exact xtI))))
 refine cond_i (fun h1 => ?_) (fun h1 => ?_)
 ·(try replace h1 := xhh h1)
  simp at h1
 ·(try replace h1 := xhh h1)
  (iterate 2 ((try simp (etaStruct := .none) only [push_cast, DrawG, Int.cast_ofNat_Int, seval, blkL, cellL, frS, frI, rowI, rowS, evtA, hk, hkeep]); (try (refine xsu ?_; try exact xtI))))
  refine cond_i (fun h2 => ?_) (fun h2 => ?_)
  ·(try replace h2 := xhh h2)
   simp at h2
  ·(try replace h2 := xhh h2)
   (iterate 2 ((try simp (etaStruct := .none) only [push_cast, DrawG, Int.cast_ofNat_Int, seval, blkL, cellL, frS, frI, rowI, rowS, evtA, hk, hkeep]); (try (refine xsu ?_; try exact xtI))))
   refine cond_i (fun h3 => ?_) (fun h3 => ?_)
   ·(try replace h3 := xhh h3)
    simp at h3
   ·(try replace h3 := xhh h3)
    (iterate 2 ((try simp (etaStruct := .none) only [push_cast, DrawG, Int.cast_ofNat_Int, seval, blkL, cellL, frS, frI, rowI, rowS, evtA, hk, hkeep]); (try (refine xsu ?_; try exact xtI))))
    refine cond_i (fun h4 => ?_) (fun h4 => ?_)
    ·(try replace h4 := xhh h4)
     simp at h4
    ·(try replace h4 := xhh h4)
     (iterate 2 ((try simp (etaStruct := .none) only [push_cast, DrawG, Int.cast_ofNat_Int, seval, blkL, cellL, frS, frI, rowI, rowS, evtA, hk, hkeep]); (try (refine xsu ?_; try exact xtI))))
     refine cond_i (fun h5 => ?_) (fun h5 => ?_)
     ·(try replace h5 := xhh h5)
      (iterate 2 ((try simp (etaStruct := .none) only [push_cast, DrawG, Int.cast_ofNat_Int, seval, blkL, cellL, frS, frI, rowI, rowS, evtA, hk, hkeep]); (try (refine xsu ?_; try exact xtI))))
      refine cond_i (fun h6 => ?_) (fun h6 => ?_)
      ·(try replace h6 := xhh h6)
       simp at h6
      ·(try replace h6 := xhh h6)
       (iterate 2 ((try simp (etaStruct := .none) only [push_cast, DrawG, Int.cast_ofNat_Int, seval, blkL, cellL, frS, frI, rowI, rowS, evtA, hk, hkeep]); (try (refine xsu ?_; try exact xtI))))
       refine callM [0, 1] (tk_y_y_n l x.at_ hl (by omega)) (WkL.refl _) rfl (by decide) (by simp [lookC_c, onlyC, memN]) ?_
       (iterate 2 ((try simp (etaStruct := .none) only [push_cast, DrawG, Int.cast_ofNat_Int, seval, blkL, cellL, frS, frI, rowI, rowS, evtA, hk, hkeep]); (try (refine xsu ?_; try exact xtI))))
       refine cond_i (fun h7 => ?_) (fun h7 => ?_)
       ·(try replace h7 := xhh h7)
        simp at h7
       ·(try replace h7 := xhh h7)
        (iterate 2 ((try simp (etaStruct := .none) only [push_cast, DrawG, Int.cast_ofNat_Int, seval, blkL, cellL, frS, frI, rowI, rowS, evtA, hk, hkeep]); (try (refine xsu ?_; try exact xtI))))
        exact retM [0, 1, 3] rfl rfl (by decide) ⟨⟨rfl, WkL.refl _⟩, trivial, ⟨rfl, rfl, by first | rfl | (rw [List.map_append]; rfl)⟩, trivial⟩ (by repeat' (first | exact trivial | exact rfl | omega | refine ⟨?_, ?_⟩)) (Wk.refl _)
     ·(try replace h5 := xhh h5)
      simp at h5
theorem do5_a_none (l : Lnk) (x : Evt) (R : LnkR l) (hk : x.kind = 5) (hkeep : x.keep = true) (h : x.at_ < 0 ∨ (l.acks.length : Int) ≤ x.at_) : Spec Try.prog 61 [.ptr 0 0 0, evtA x] [blkL l (frS l.sent) (frI l.way) (frI l.acks) (frS l.got) (frI l.held)] (I .i64 7) [blkL l (frS l.sent) (frI l.way) (frI l.acks) (frS l.got) (frI l.held)] := by
 have hs := R.s
 have hg := R.g
 have ha := R.a
 have hh := R.h
 have hy := R.y
 have hb := R.b
 have hn3 := R.n
 have hl := lnkL_of R
 refine spec_am Try.func61 rfl rfl mix 127 rfl [.tmp 4] Try.results61 (Nat.le_of_ble_eq_true rfl) ?_
 (iterate 2 ((try simp (etaStruct := .none) only [push_cast, DrawG, Int.cast_ofNat_Int, seval, blkL, cellL, frS, frI, rowI, rowS, evtA, hk, hkeep]); (try (refine xsu ?_; try exact xtI))))
 refine cond_i (fun h1 => ?_) (fun h1 => ?_)
 ·(try replace h1 := xhh h1)
  simp at h1
 ·(try replace h1 := xhh h1)
  (iterate 2 ((try simp (etaStruct := .none) only [push_cast, DrawG, Int.cast_ofNat_Int, seval, blkL, cellL, frS, frI, rowI, rowS, evtA, hk, hkeep]); (try (refine xsu ?_; try exact xtI))))
  refine cond_i (fun h2 => ?_) (fun h2 => ?_)
  ·(try replace h2 := xhh h2)
   simp at h2
  ·(try replace h2 := xhh h2)
   (iterate 2 ((try simp (etaStruct := .none) only [push_cast, DrawG, Int.cast_ofNat_Int, seval, blkL, cellL, frS, frI, rowI, rowS, evtA, hk, hkeep]); (try (refine xsu ?_; try exact xtI))))
   refine cond_i (fun h3 => ?_) (fun h3 => ?_)
   ·(try replace h3 := xhh h3)
    simp at h3
   ·(try replace h3 := xhh h3)
    (iterate 2 ((try simp (etaStruct := .none) only [push_cast, DrawG, Int.cast_ofNat_Int, seval, blkL, cellL, frS, frI, rowI, rowS, evtA, hk, hkeep]); (try (refine xsu ?_; try exact xtI))))
    refine cond_i (fun h4 => ?_) (fun h4 => ?_)
    ·(try replace h4 := xhh h4)
     simp at h4
    ·(try replace h4 := xhh h4)
     (iterate 2 ((try simp (etaStruct := .none) only [push_cast, DrawG, Int.cast_ofNat_Int, seval, blkL, cellL, frS, frI, rowI, rowS, evtA, hk, hkeep]); (try (refine xsu ?_; try exact xtI))))
     refine cond_i (fun h5 => ?_) (fun h5 => ?_)
     ·(try replace h5 := xhh h5)
      (iterate 2 ((try simp (etaStruct := .none) only [push_cast, DrawG, Int.cast_ofNat_Int, seval, blkL, cellL, frS, frI, rowI, rowS, evtA, hk, hkeep]); (try (refine xsu ?_; try exact xtI))))
      refine cond_i (fun h6 => ?_) (fun h6 => ?_)
      ·(try replace h6 := xhh h6)
       (iterate 2 ((try simp (etaStruct := .none) only [push_cast, DrawG, Int.cast_ofNat_Int, seval, blkL, cellL, frS, frI, rowI, rowS, evtA, hk, hkeep]); (try (refine xsu ?_; try exact xtI))))
       refine callM [0] (tk_a_bad l x.at_ false hl h) (WkL.refl _) rfl (by decide) (by simp [lookC_c, onlyC, memN]) ?_
       (iterate 2 ((try simp (etaStruct := .none) only [push_cast, DrawG, Int.cast_ofNat_Int, seval, blkL, cellL, frS, frI, rowI, rowS, evtA, hk, hkeep]); (try (refine xsu ?_; try exact xtI))))
       refine cond_i (fun h7 => ?_) (fun h7 => ?_)
       ·(try replace h7 := xhh h7)
        (iterate 2 ((try simp (etaStruct := .none) only [push_cast, DrawG, Int.cast_ofNat_Int, seval, blkL, cellL, frS, frI, rowI, rowS, evtA, hk, hkeep]); (try (refine xsu ?_; try exact xtI))))
        exact retM [0] rfl rfl (by decide) ⟨⟨rfl, WkL.refl _⟩, trivial⟩ (by repeat' (first | exact trivial | exact rfl | omega | refine ⟨?_, ?_⟩)) (Wk.refl _)
       ·(try replace h7 := xhh h7)
        simp at h7
      ·(try replace h6 := xhh h6)
       simp at h6
     ·(try replace h5 := xhh h5)
      simp at h5
theorem do5_a (l : Lnk) (x : Evt) (R : LnkR l) (hk : x.kind = 5) (hkeep : x.keep = true) (h : ¬ (x.at_ < 0 ∨ (l.acks.length : Int) ≤ x.at_)) : Spec Try.prog 61 [.ptr 0 0 0, evtA x] [blkL l (frS l.sent) (frI l.way) (.own 1) (frS l.got) (frI l.held), rowI l.acks] (I .i64 0) [blkL l (frS l.sent) (frI l.way) (.own 2) (frS l.got) (frI l.held), .dead, rowI (cutV l.acks x.at_.toNat)] := by
 have hs := R.s
 have hg := R.g
 have ha := R.a
 have hh := R.h
 have hy := R.y
 have hb := R.b
 have hn3 := R.n
 have hl := lnkL_of R
 refine spec_am Try.func61 rfl rfl mix 127 rfl [.tmp 4] Try.results61 (Nat.le_of_ble_eq_true rfl) ?_
 (iterate 2 ((try simp (etaStruct := .none) only [push_cast, DrawG, Int.cast_ofNat_Int, seval, blkL, cellL, frS, frI, rowI, rowS, evtA, hk, hkeep]); (try (refine xsu ?_; try exact xtI))))
 refine cond_i (fun h1 => ?_) (fun h1 => ?_)
 ·(try replace h1 := xhh h1)
  simp at h1
 ·(try replace h1 := xhh h1)
  (iterate 2 ((try simp (etaStruct := .none) only [push_cast, DrawG, Int.cast_ofNat_Int, seval, blkL, cellL, frS, frI, rowI, rowS, evtA, hk, hkeep]); (try (refine xsu ?_; try exact xtI))))
  refine cond_i (fun h2 => ?_) (fun h2 => ?_)
  ·(try replace h2 := xhh h2)
   simp at h2
  ·(try replace h2 := xhh h2)
   (iterate 2 ((try simp (etaStruct := .none) only [push_cast, DrawG, Int.cast_ofNat_Int, seval, blkL, cellL, frS, frI, rowI, rowS, evtA, hk, hkeep]); (try (refine xsu ?_; try exact xtI))))
   refine cond_i (fun h3 => ?_) (fun h3 => ?_)
   ·(try replace h3 := xhh h3)
    simp at h3
   ·(try replace h3 := xhh h3)
    (iterate 2 ((try simp (etaStruct := .none) only [push_cast, DrawG, Int.cast_ofNat_Int, seval, blkL, cellL, frS, frI, rowI, rowS, evtA, hk, hkeep]); (try (refine xsu ?_; try exact xtI))))
    refine cond_i (fun h4 => ?_) (fun h4 => ?_)
    ·(try replace h4 := xhh h4)
     simp at h4
    ·(try replace h4 := xhh h4)
     (iterate 2 ((try simp (etaStruct := .none) only [push_cast, DrawG, Int.cast_ofNat_Int, seval, blkL, cellL, frS, frI, rowI, rowS, evtA, hk, hkeep]); (try (refine xsu ?_; try exact xtI))))
     refine cond_i (fun h5 => ?_) (fun h5 => ?_)
     ·(try replace h5 := xhh h5)
      (iterate 2 ((try simp (etaStruct := .none) only [push_cast, DrawG, Int.cast_ofNat_Int, seval, blkL, cellL, frS, frI, rowI, rowS, evtA, hk, hkeep]); (try (refine xsu ?_; try exact xtI))))
      refine cond_i (fun h6 => ?_) (fun h6 => ?_)
      ·(try replace h6 := xhh h6)
       (iterate 2 ((try simp (etaStruct := .none) only [push_cast, DrawG, Int.cast_ofNat_Int, seval, blkL, cellL, frS, frI, rowI, rowS, evtA, hk, hkeep]); (try (refine xsu ?_; try exact xtI))))
       refine callM [0, 1] (tk_a_a_n l x.at_ hl (by omega)) (WkL.refl _) rfl (by decide) (by simp [lookC_c, onlyC, memN]) ?_
       (iterate 2 ((try simp (etaStruct := .none) only [push_cast, DrawG, Int.cast_ofNat_Int, seval, blkL, cellL, frS, frI, rowI, rowS, evtA, hk, hkeep]); (try (refine xsu ?_; try exact xtI))))
       refine cond_i (fun h7 => ?_) (fun h7 => ?_)
       ·(try replace h7 := xhh h7)
        simp at h7
       ·(try replace h7 := xhh h7)
        (iterate 2 ((try simp (etaStruct := .none) only [push_cast, DrawG, Int.cast_ofNat_Int, seval, blkL, cellL, frS, frI, rowI, rowS, evtA, hk, hkeep]); (try (refine xsu ?_; try exact xtI))))
        exact retM [0, 1, 3] rfl rfl (by decide) ⟨⟨rfl, WkL.refl _⟩, trivial, ⟨rfl, rfl, by first | rfl | (rw [List.map_append]; rfl)⟩, trivial⟩ (by repeat' (first | exact trivial | exact rfl | omega | refine ⟨?_, ?_⟩)) (Wk.refl _)
      ·(try replace h6 := xhh h6)
       simp at h6
     ·(try replace h5 := xhh h5)
      simp at h5
end Go.Proofs.Ytdkmndimmpilaaa
namespace Go.Proofs.Ytdkmndimmpilaaa
set_option linter.all false
open Go.RowKit
set_option maxRecDepth 100000
set_option maxHeartbeats 1000000
theorem Do_err (l : Lnk) (x : Evt) (R : LnkR l) (e : Int) (he : e ≠ 0) (D : Spec Try.prog 61 [.ptr 0 0 0, evtA x] [blkL l (frS l.sent) (frI l.way) (frI l.acks) (frS l.got) (frI l.held)] (I .i64 e) [blkL l (frS l.sent) (frI l.way) (frI l.acks) (frS l.got) (frI l.held)]) : Spec Try.prog 26 [lnkA l, evtA x] [] (.tup [lnkA l, I .i64 e]) [] := by
 have hl := lnkL_of R
 have hC := lcheck_s l hl
 rw [(lnkR_iff l).2 R] at hC
 refine spec_am Try.func26 rfl rfl mix 26 rfl [.cell 4 57, .tmp 5] Try.results26 (Nat.le_of_ble_eq_true rfl) ?_
 (iterate 2 ((try simp (etaStruct := .none) only [push_cast, DrawG, Int.cast_ofNat_Int, seval, lnkA, evtA]); (try (refine xsu ?_; try exact xtI))))
 refine caP (lown_s l hl) ?_
 (iterate 2 ((try simp (etaStruct := .none) only [push_cast, DrawG, Int.cast_ofNat_Int, seval, lnkA, evtA]); (try (refine xsu ?_; try exact xtI))))
 refine caP (hC) ?_
 (iterate 2 ((try simp (etaStruct := .none) only [push_cast, DrawG, Int.cast_ofNat_Int, seval, lnkA, evtA]); (try (refine xsu ?_; try exact xtI))))
 refine cond_i (fun h1 => ?_) (fun h1 => ?_)
 ·(try replace h1 := xhh h1)
  simp at h1
 ·(try replace h1 := xhh h1)
  (iterate 2 ((try simp (etaStruct := .none) only [push_cast, DrawG, Int.cast_ofNat_Int, seval, lnkA, evtA]); (try (refine xsu ?_; try exact xtI))))
  refine caP (lown_s l hl) ?_
  (iterate 2 ((try simp (etaStruct := .none) only [push_cast, DrawG, Int.cast_ofNat_Int, seval, lnkA, evtA]); (try (refine xsu ?_; try exact xtI))))
  refine caM [0] (D) ?_
  (iterate 2 ((try simp (etaStruct := .none) only [push_cast, DrawG, Int.cast_ofNat_Int, seval, lnkA, evtA]); (try (refine xsu ?_; try exact xtI))))
  refine cond_i (fun h2 => ?_) (fun h2 => ?_)
  ·(try replace h2 := xhh h2)
   (iterate 2 ((try simp (etaStruct := .none) only [push_cast, DrawG, Int.cast_ofNat_Int, seval, lnkA, evtA]); (try (refine xsu ?_; try exact xtI))))
   exact xrz rfl
  ·(try replace h2 := xhh h2)
   exact absurd h2 he
theorem Ddo1_ok (l : Lnk) (x : Evt) (R : LnkR l) (hk : x.kind = 1) (h : ¬ l.sent.length = 200) : Spec Try.prog 26 [lnkA l, evtA x] [] (.tup [lnkA { l with sent := l.sent ++ [x.text] }, I .i64 0]) [] := by
 have hl := lnkL_of R
 have hC := lcheck_s l hl
 rw [(lnkR_iff l).2 R] at hC
 refine spec_am Try.func26 rfl rfl mix 26 rfl [.cell 4 57, .tmp 5] Try.results26 (Nat.le_of_ble_eq_true rfl) ?_
 (iterate 2 ((try simp (etaStruct := .none) only [push_cast, DrawG, Int.cast_ofNat_Int, seval, lnkA, evtA, aggL, blkL, cellL, frS, frI, rowS, rowI]); (try (refine xsu ?_; try exact xtI))))
 refine caP (lown_s l hl) ?_
 (iterate 2 ((try simp (etaStruct := .none) only [push_cast, DrawG, Int.cast_ofNat_Int, seval, lnkA, evtA, aggL, blkL, cellL, frS, frI, rowS, rowI]); (try (refine xsu ?_; try exact xtI))))
 refine caP (hC) ?_
 (iterate 2 ((try simp (etaStruct := .none) only [push_cast, DrawG, Int.cast_ofNat_Int, seval, lnkA, evtA, aggL, blkL, cellL, frS, frI, rowS, rowI]); (try (refine xsu ?_; try exact xtI))))
 refine cond_i (fun h1 => ?_) (fun h1 => ?_)
 ·(try replace h1 := xhh h1)
  simp at h1
 ·(try replace h1 := xhh h1)
  (iterate 2 ((try simp (etaStruct := .none) only [push_cast, DrawG, Int.cast_ofNat_Int, seval, lnkA, evtA, aggL, blkL, cellL, frS, frI, rowS, rowI]); (try (refine xsu ?_; try exact xtI))))
  refine caM [] (own_s l hl) ?_
  (iterate 2 ((try simp (etaStruct := .none) only [push_cast, DrawG, Int.cast_ofNat_Int, seval, lnkA, evtA, aggL, blkL, cellL, frS, frI, rowS, rowI]); (try (refine xsu ?_; try exact xtI))))
  refine caM [0, 4] (do1_ok l x R hk h) ?_
  (iterate 2 ((try simp (etaStruct := .none) only [push_cast, DrawG, Int.cast_ofNat_Int, seval, lnkA, evtA, aggL, blkL, cellL, frS, frI, rowS, rowI]); (try (refine xsu ?_; try exact xtI))))
  refine cond_i (fun h2 => ?_) (fun h2 => ?_)
  ·(try replace h2 := xhh h2)
   simp at h2
  ·(try replace h2 := xhh h2)
   (iterate 2 ((try simp (etaStruct := .none) only [push_cast, DrawG, Int.cast_ofNat_Int, seval, lnkA, evtA, aggL, blkL, cellL, frS, frI, rowS, rowI]); (try (refine xsu ?_; try exact xtI))))
   exact ret0 rfl (by repeat' (first | exact trivial | exact rfl | omega | refine ⟨?_, ?_⟩)) (Wk.refl _)
theorem Ddo2_ok (l : Lnk) (x : Evt) (R : LnkR l) (hk : x.kind = 2) (h : ¬ 1000 < (l.way.length : Int) + sendTo l - l.base) : Spec Try.prog 26 [lnkA l, evtA x] [] (.tup [lnkA { l with next := (sendTo l), way := l.way ++ rngI l.base (sendTo l - l.base).toNat }, I .i64 0]) [] := by
 have hl := lnkL_of R
 have hC := lcheck_s l hl
 rw [(lnkR_iff l).2 R] at hC
 refine spec_am Try.func26 rfl rfl mix 26 rfl [.cell 4 57, .tmp 5] Try.results26 (Nat.le_of_ble_eq_true rfl) ?_
 (iterate 2 ((try simp (etaStruct := .none) only [push_cast, DrawG, Int.cast_ofNat_Int, seval, lnkA, evtA, aggL, blkL, cellL, frS, frI, rowS, rowI]); (try (refine xsu ?_; try exact xtI))))
 refine caP (lown_s l hl) ?_
 (iterate 2 ((try simp (etaStruct := .none) only [push_cast, DrawG, Int.cast_ofNat_Int, seval, lnkA, evtA, aggL, blkL, cellL, frS, frI, rowS, rowI]); (try (refine xsu ?_; try exact xtI))))
 refine caP (hC) ?_
 (iterate 2 ((try simp (etaStruct := .none) only [push_cast, DrawG, Int.cast_ofNat_Int, seval, lnkA, evtA, aggL, blkL, cellL, frS, frI, rowS, rowI]); (try (refine xsu ?_; try exact xtI))))
 refine cond_i (fun h1 => ?_) (fun h1 => ?_)
 ·(try replace h1 := xhh h1)
  simp at h1
 ·(try replace h1 := xhh h1)
  (iterate 2 ((try simp (etaStruct := .none) only [push_cast, DrawG, Int.cast_ofNat_Int, seval, lnkA, evtA, aggL, blkL, cellL, frS, frI, rowS, rowI]); (try (refine xsu ?_; try exact xtI))))
  refine caM [] (own_y l hl) ?_
  (iterate 2 ((try simp (etaStruct := .none) only [push_cast, DrawG, Int.cast_ofNat_Int, seval, lnkA, evtA, aggL, blkL, cellL, frS, frI, rowS, rowI]); (try (refine xsu ?_; try exact xtI))))
  refine caM [0, 4] (do2_ok l x R hk h) ?_
  (iterate 2 ((try simp (etaStruct := .none) only [push_cast, DrawG, Int.cast_ofNat_Int, seval, lnkA, evtA, aggL, blkL, cellL, frS, frI, rowS, rowI]); (try (refine xsu ?_; try exact xtI))))
  refine cond_i (fun h2 => ?_) (fun h2 => ?_)
  ·(try replace h2 := xhh h2)
   simp at h2
  ·(try replace h2 := xhh h2)
   (iterate 2 ((try simp (etaStruct := .none) only [push_cast, DrawG, Int.cast_ofNat_Int, seval, lnkA, evtA, aggL, blkL, cellL, frS, frI, rowS, rowI]); (try (refine xsu ?_; try exact xtI))))
   exact ret0 rfl (by repeat' (first | exact trivial | exact rfl | omega | refine ⟨?_, ?_⟩)) (Wk.refl _)
theorem Ddo3_a_k (l : Lnk) (x : Evt) (R : LnkR l) (hk : x.kind = 3) (hkeep : x.keep = true) (h : ¬ (x.at_ < 0 ∨ (l.way.length : Int) ≤ x.at_)) (hf : ¬ l.acks.length = 1000) (hc : (l.got.length : Int) < (l.way.getD x.at_.toNat default) ∧ (l.way.getD x.at_.toNat default) ∉ l.held) : Spec Try.prog 26 [lnkA l, evtA x] [] (.tup [lnkA { l with acks := l.acks ++ [(l.got.length : Int)], held := putIn (l.way.getD x.at_.toNat default) l.held }, I .i64 0]) [] := by
 have hl := lnkL_of R
 have hC := lcheck_s l hl
 rw [(lnkR_iff l).2 R] at hC
 refine spec_am Try.func26 rfl rfl mix 26 rfl [.cell 4 57, .tmp 5] Try.results26 (Nat.le_of_ble_eq_true rfl) ?_
 (iterate 2 ((try simp (etaStruct := .none) only [push_cast, DrawG, Int.cast_ofNat_Int, seval, lnkA, evtA, aggL, blkL, cellL, frS, frI, rowS, rowI]); (try (refine xsu ?_; try exact xtI))))
 refine caP (lown_s l hl) ?_
 (iterate 2 ((try simp (etaStruct := .none) only [push_cast, DrawG, Int.cast_ofNat_Int, seval, lnkA, evtA, aggL, blkL, cellL, frS, frI, rowS, rowI]); (try (refine xsu ?_; try exact xtI))))
 refine caP (hC) ?_
 (iterate 2 ((try simp (etaStruct := .none) only [push_cast, DrawG, Int.cast_ofNat_Int, seval, lnkA, evtA, aggL, blkL, cellL, frS, frI, rowS, rowI]); (try (refine xsu ?_; try exact xtI))))
 refine cond_i (fun h1 => ?_) (fun h1 => ?_)
 ·(try replace h1 := xhh h1)
  simp at h1
 ·(try replace h1 := xhh h1)
  (iterate 2 ((try simp (etaStruct := .none) only [push_cast, DrawG, Int.cast_ofNat_Int, seval, lnkA, evtA, aggL, blkL, cellL, frS, frI, rowS, rowI]); (try (refine xsu ?_; try exact xtI))))
  refine caM [] (own_yah l hl) ?_
  (iterate 2 ((try simp (etaStruct := .none) only [push_cast, DrawG, Int.cast_ofNat_Int, seval, lnkA, evtA, aggL, blkL, cellL, frS, frI, rowS, rowI]); (try (refine xsu ?_; try exact xtI))))
  refine caM [0, 4, 5, 6] (do3_a_k l x R hk hkeep h hf hc) ?_
  (iterate 2 ((try simp (etaStruct := .none) only [push_cast, DrawG, Int.cast_ofNat_Int, seval, lnkA, evtA, aggL, blkL, cellL, frS, frI, rowS, rowI]); (try (refine xsu ?_; try exact xtI))))
  refine cond_i (fun h2 => ?_) (fun h2 => ?_)
  ·(try replace h2 := xhh h2)
   simp at h2
  ·(try replace h2 := xhh h2)
   (iterate 2 ((try simp (etaStruct := .none) only [push_cast, DrawG, Int.cast_ofNat_Int, seval, lnkA, evtA, aggL, blkL, cellL, frS, frI, rowS, rowI]); (try (refine xsu ?_; try exact xtI))))
   exact ret0 rfl (by repeat' (first | exact trivial | exact rfl | omega | refine ⟨?_, ?_⟩)) (Wk.refl _)
theorem Ddo3_a_n (l : Lnk) (x : Evt) (R : LnkR l) (hk : x.kind = 3) (hkeep : x.keep = false) (h : ¬ (x.at_ < 0 ∨ (l.way.length : Int) ≤ x.at_)) (hf : ¬ l.acks.length = 1000) (hc : (l.got.length : Int) < (l.way.getD x.at_.toNat default) ∧ (l.way.getD x.at_.toNat default) ∉ l.held) : Spec Try.prog 26 [lnkA l, evtA x] [] (.tup [lnkA { l with way := cutV l.way x.at_.toNat, acks := l.acks ++ [(l.got.length : Int)], held := putIn (l.way.getD x.at_.toNat default) l.held }, I .i64 0]) [] := by
 have hl := lnkL_of R
 have hC := lcheck_s l hl
 rw [(lnkR_iff l).2 R] at hC
 refine spec_am Try.func26 rfl rfl mix 26 rfl [.cell 4 57, .tmp 5] Try.results26 (Nat.le_of_ble_eq_true rfl) ?_
 (iterate 2 ((try simp (etaStruct := .none) only [push_cast, DrawG, Int.cast_ofNat_Int, seval, lnkA, evtA, aggL, blkL, cellL, frS, frI, rowS, rowI]); (try (refine xsu ?_; try exact xtI))))
 refine caP (lown_s l hl) ?_
 (iterate 2 ((try simp (etaStruct := .none) only [push_cast, DrawG, Int.cast_ofNat_Int, seval, lnkA, evtA, aggL, blkL, cellL, frS, frI, rowS, rowI]); (try (refine xsu ?_; try exact xtI))))
 refine caP (hC) ?_
 (iterate 2 ((try simp (etaStruct := .none) only [push_cast, DrawG, Int.cast_ofNat_Int, seval, lnkA, evtA, aggL, blkL, cellL, frS, frI, rowS, rowI]); (try (refine xsu ?_; try exact xtI))))
 refine cond_i (fun h1 => ?_) (fun h1 => ?_)
 ·(try replace h1 := xhh h1)
  simp at h1
 ·(try replace h1 := xhh h1)
  (iterate 2 ((try simp (etaStruct := .none) only [push_cast, DrawG, Int.cast_ofNat_Int, seval, lnkA, evtA, aggL, blkL, cellL, frS, frI, rowS, rowI]); (try (refine xsu ?_; try exact xtI))))
  refine caM [] (own_yah l hl) ?_
  (iterate 2 ((try simp (etaStruct := .none) only [push_cast, DrawG, Int.cast_ofNat_Int, seval, lnkA, evtA, aggL, blkL, cellL, frS, frI, rowS, rowI]); (try (refine xsu ?_; try exact xtI))))
  refine caM [0, 4, 5, 6] (do3_a_n l x R hk hkeep h hf hc) ?_
  (iterate 2 ((try simp (etaStruct := .none) only [push_cast, DrawG, Int.cast_ofNat_Int, seval, lnkA, evtA, aggL, blkL, cellL, frS, frI, rowS, rowI]); (try (refine xsu ?_; try exact xtI))))
  refine cond_i (fun h2 => ?_) (fun h2 => ?_)
  ·(try replace h2 := xhh h2)
   simp at h2
  ·(try replace h2 := xhh h2)
   (iterate 2 ((try simp (etaStruct := .none) only [push_cast, DrawG, Int.cast_ofNat_Int, seval, lnkA, evtA, aggL, blkL, cellL, frS, frI, rowS, rowI]); (try (refine xsu ?_; try exact xtI))))
   exact ret0 rfl (by repeat' (first | exact trivial | exact rfl | omega | refine ⟨?_, ?_⟩)) (Wk.refl _)
theorem Ddo3_b_k (l : Lnk) (x : Evt) (R : LnkR l) (hk : x.kind = 3) (hkeep : x.keep = true) (h : ¬ (x.at_ < 0 ∨ (l.way.length : Int) ≤ x.at_)) (hf : ¬ l.acks.length = 1000) (hc : (l.way.getD x.at_.toNat default) = (l.got.length : Int)) : Spec Try.prog 26 [lnkA l, evtA x] [] (.tup [lnkA { l with acks := l.acks ++ [(runUp (l.got.length + 1) l.held).1], got := l.sent.take (runUp (l.got.length + 1) l.held).1.toNat, held := (runUp (l.got.length + 1) l.held).2 }, I .i64 0]) [] := by
 have hl := lnkL_of R
 have hC := lcheck_s l hl
 rw [(lnkR_iff l).2 R] at hC
 refine spec_am Try.func26 rfl rfl mix 26 rfl [.cell 4 57, .tmp 5] Try.results26 (Nat.le_of_ble_eq_true rfl) ?_
 (iterate 2 ((try simp (etaStruct := .none) only [push_cast, DrawG, Int.cast_ofNat_Int, seval, lnkA, evtA, aggL, blkL, cellL, frS, frI, rowS, rowI]); (try (refine xsu ?_; try exact xtI))))
 refine caP (lown_s l hl) ?_
 (iterate 2 ((try simp (etaStruct := .none) only [push_cast, DrawG, Int.cast_ofNat_Int, seval, lnkA, evtA, aggL, blkL, cellL, frS, frI, rowS, rowI]); (try (refine xsu ?_; try exact xtI))))
 refine caP (hC) ?_
 (iterate 2 ((try simp (etaStruct := .none) only [push_cast, DrawG, Int.cast_ofNat_Int, seval, lnkA, evtA, aggL, blkL, cellL, frS, frI, rowS, rowI]); (try (refine xsu ?_; try exact xtI))))
 refine cond_i (fun h1 => ?_) (fun h1 => ?_)
 ·(try replace h1 := xhh h1)
  simp at h1
 ·(try replace h1 := xhh h1)
  (iterate 2 ((try simp (etaStruct := .none) only [push_cast, DrawG, Int.cast_ofNat_Int, seval, lnkA, evtA, aggL, blkL, cellL, frS, frI, rowS, rowI]); (try (refine xsu ?_; try exact xtI))))
  refine caM [] (own_yag l hl) ?_
  (iterate 2 ((try simp (etaStruct := .none) only [push_cast, DrawG, Int.cast_ofNat_Int, seval, lnkA, evtA, aggL, blkL, cellL, frS, frI, rowS, rowI]); (try (refine xsu ?_; try exact xtI))))
  refine caM [0, 4, 5, 6] (do3_b_k l x R hk hkeep h hf hc) ?_
  (iterate 2 ((try simp (etaStruct := .none) only [push_cast, DrawG, Int.cast_ofNat_Int, seval, lnkA, evtA, aggL, blkL, cellL, frS, frI, rowS, rowI]); (try (refine xsu ?_; try exact xtI))))
  refine cond_i (fun h2 => ?_) (fun h2 => ?_)
  ·(try replace h2 := xhh h2)
   simp at h2
  ·(try replace h2 := xhh h2)
   (iterate 2 ((try simp (etaStruct := .none) only [push_cast, DrawG, Int.cast_ofNat_Int, seval, lnkA, evtA, aggL, blkL, cellL, frS, frI, rowS, rowI]); (try (refine xsu ?_; try exact xtI))))
   exact ret0 rfl (by repeat' (first | exact trivial | exact rfl | omega | refine ⟨?_, ?_⟩)) (Wk.refl _)
theorem Ddo3_b_n (l : Lnk) (x : Evt) (R : LnkR l) (hk : x.kind = 3) (hkeep : x.keep = false) (h : ¬ (x.at_ < 0 ∨ (l.way.length : Int) ≤ x.at_)) (hf : ¬ l.acks.length = 1000) (hc : (l.way.getD x.at_.toNat default) = (l.got.length : Int)) : Spec Try.prog 26 [lnkA l, evtA x] [] (.tup [lnkA { l with way := cutV l.way x.at_.toNat, acks := l.acks ++ [(runUp (l.got.length + 1) l.held).1], got := l.sent.take (runUp (l.got.length + 1) l.held).1.toNat, held := (runUp (l.got.length + 1) l.held).2 }, I .i64 0]) [] := by
 have hl := lnkL_of R
 have hC := lcheck_s l hl
 rw [(lnkR_iff l).2 R] at hC
 refine spec_am Try.func26 rfl rfl mix 26 rfl [.cell 4 57, .tmp 5] Try.results26 (Nat.le_of_ble_eq_true rfl) ?_
 (iterate 2 ((try simp (etaStruct := .none) only [push_cast, DrawG, Int.cast_ofNat_Int, seval, lnkA, evtA, aggL, blkL, cellL, frS, frI, rowS, rowI]); (try (refine xsu ?_; try exact xtI))))
 refine caP (lown_s l hl) ?_
 (iterate 2 ((try simp (etaStruct := .none) only [push_cast, DrawG, Int.cast_ofNat_Int, seval, lnkA, evtA, aggL, blkL, cellL, frS, frI, rowS, rowI]); (try (refine xsu ?_; try exact xtI))))
 refine caP (hC) ?_
 (iterate 2 ((try simp (etaStruct := .none) only [push_cast, DrawG, Int.cast_ofNat_Int, seval, lnkA, evtA, aggL, blkL, cellL, frS, frI, rowS, rowI]); (try (refine xsu ?_; try exact xtI))))
 refine cond_i (fun h1 => ?_) (fun h1 => ?_)
 ·(try replace h1 := xhh h1)
  simp at h1
 ·(try replace h1 := xhh h1)
  (iterate 2 ((try simp (etaStruct := .none) only [push_cast, DrawG, Int.cast_ofNat_Int, seval, lnkA, evtA, aggL, blkL, cellL, frS, frI, rowS, rowI]); (try (refine xsu ?_; try exact xtI))))
  refine caM [] (own_yag l hl) ?_
  (iterate 2 ((try simp (etaStruct := .none) only [push_cast, DrawG, Int.cast_ofNat_Int, seval, lnkA, evtA, aggL, blkL, cellL, frS, frI, rowS, rowI]); (try (refine xsu ?_; try exact xtI))))
  refine caM [0, 4, 5, 6] (do3_b_n l x R hk hkeep h hf hc) ?_
  (iterate 2 ((try simp (etaStruct := .none) only [push_cast, DrawG, Int.cast_ofNat_Int, seval, lnkA, evtA, aggL, blkL, cellL, frS, frI, rowS, rowI]); (try (refine xsu ?_; try exact xtI))))
  refine cond_i (fun h2 => ?_) (fun h2 => ?_)
  ·(try replace h2 := xhh h2)
   simp at h2
  ·(try replace h2 := xhh h2)
   (iterate 2 ((try simp (etaStruct := .none) only [push_cast, DrawG, Int.cast_ofNat_Int, seval, lnkA, evtA, aggL, blkL, cellL, frS, frI, rowS, rowI]); (try (refine xsu ?_; try exact xtI))))
   exact ret0 rfl (by repeat' (first | exact trivial | exact rfl | omega | refine ⟨?_, ?_⟩)) (Wk.refl _)
theorem Ddo3_c_k (l : Lnk) (x : Evt) (R : LnkR l) (hk : x.kind = 3) (hkeep : x.keep = true) (h : ¬ (x.at_ < 0 ∨ (l.way.length : Int) ≤ x.at_)) (hf : ¬ l.acks.length = 1000) (hc : (l.way.getD x.at_.toNat default) ≠ (l.got.length : Int)) (hc2 : ¬ ((l.got.length : Int) < (l.way.getD x.at_.toNat default) ∧ (l.way.getD x.at_.toNat default) ∉ l.held)) : Spec Try.prog 26 [lnkA l, evtA x] [] (.tup [lnkA { l with acks := l.acks ++ [(l.got.length : Int)] }, I .i64 0]) [] := by
 have hl := lnkL_of R
 have hC := lcheck_s l hl
 rw [(lnkR_iff l).2 R] at hC
 refine spec_am Try.func26 rfl rfl mix 26 rfl [.cell 4 57, .tmp 5] Try.results26 (Nat.le_of_ble_eq_true rfl) ?_
 (iterate 2 ((try simp (etaStruct := .none) only [push_cast, DrawG, Int.cast_ofNat_Int, seval, lnkA, evtA, aggL, blkL, cellL, frS, frI, rowS, rowI]); (try (refine xsu ?_; try exact xtI))))
 refine caP (lown_s l hl) ?_
 (iterate 2 ((try simp (etaStruct := .none) only [push_cast, DrawG, Int.cast_ofNat_Int, seval, lnkA, evtA, aggL, blkL, cellL, frS, frI, rowS, rowI]); (try (refine xsu ?_; try exact xtI))))
 refine caP (hC) ?_
 (iterate 2 ((try simp (etaStruct := .none) only [push_cast, DrawG, Int.cast_ofNat_Int, seval, lnkA, evtA, aggL, blkL, cellL, frS, frI, rowS, rowI]); (try (refine xsu ?_; try exact xtI))))
 refine cond_i (fun h1 => ?_) (fun h1 => ?_)
 ·(try replace h1 := xhh h1)
  simp at h1
 ·(try replace h1 := xhh h1)
  (iterate 2 ((try simp (etaStruct := .none) only [push_cast, DrawG, Int.cast_ofNat_Int, seval, lnkA, evtA, aggL, blkL, cellL, frS, frI, rowS, rowI]); (try (refine xsu ?_; try exact xtI))))
  refine caM [] (own_ya l hl) ?_
  (iterate 2 ((try simp (etaStruct := .none) only [push_cast, DrawG, Int.cast_ofNat_Int, seval, lnkA, evtA, aggL, blkL, cellL, frS, frI, rowS, rowI]); (try (refine xsu ?_; try exact xtI))))
  refine caM [0, 4, 5] (do3_c_k l x R hk hkeep h hf hc hc2) ?_
  (iterate 2 ((try simp (etaStruct := .none) only [push_cast, DrawG, Int.cast_ofNat_Int, seval, lnkA, evtA, aggL, blkL, cellL, frS, frI, rowS, rowI]); (try (refine xsu ?_; try exact xtI))))
  refine cond_i (fun h2 => ?_) (fun h2 => ?_)
  ·(try replace h2 := xhh h2)
   simp at h2
  ·(try replace h2 := xhh h2)
   (iterate 2 ((try simp (etaStruct := .none) only [push_cast, DrawG, Int.cast_ofNat_Int, seval, lnkA, evtA, aggL, blkL, cellL, frS, frI, rowS, rowI]); (try (refine xsu ?_; try exact xtI))))
   exact ret0 rfl (by repeat' (first | exact trivial | exact rfl | omega | refine ⟨?_, ?_⟩)) (Wk.refl _)
theorem Ddo3_c_n (l : Lnk) (x : Evt) (R : LnkR l) (hk : x.kind = 3) (hkeep : x.keep = false) (h : ¬ (x.at_ < 0 ∨ (l.way.length : Int) ≤ x.at_)) (hf : ¬ l.acks.length = 1000) (hc : (l.way.getD x.at_.toNat default) ≠ (l.got.length : Int)) (hc2 : ¬ ((l.got.length : Int) < (l.way.getD x.at_.toNat default) ∧ (l.way.getD x.at_.toNat default) ∉ l.held)) : Spec Try.prog 26 [lnkA l, evtA x] [] (.tup [lnkA { l with way := cutV l.way x.at_.toNat, acks := l.acks ++ [(l.got.length : Int)] }, I .i64 0]) [] := by
 have hl := lnkL_of R
 have hC := lcheck_s l hl
 rw [(lnkR_iff l).2 R] at hC
 refine spec_am Try.func26 rfl rfl mix 26 rfl [.cell 4 57, .tmp 5] Try.results26 (Nat.le_of_ble_eq_true rfl) ?_
 (iterate 2 ((try simp (etaStruct := .none) only [push_cast, DrawG, Int.cast_ofNat_Int, seval, lnkA, evtA, aggL, blkL, cellL, frS, frI, rowS, rowI]); (try (refine xsu ?_; try exact xtI))))
 refine caP (lown_s l hl) ?_
 (iterate 2 ((try simp (etaStruct := .none) only [push_cast, DrawG, Int.cast_ofNat_Int, seval, lnkA, evtA, aggL, blkL, cellL, frS, frI, rowS, rowI]); (try (refine xsu ?_; try exact xtI))))
 refine caP (hC) ?_
 (iterate 2 ((try simp (etaStruct := .none) only [push_cast, DrawG, Int.cast_ofNat_Int, seval, lnkA, evtA, aggL, blkL, cellL, frS, frI, rowS, rowI]); (try (refine xsu ?_; try exact xtI))))
 refine cond_i (fun h1 => ?_) (fun h1 => ?_)
 ·(try replace h1 := xhh h1)
  simp at h1
 ·(try replace h1 := xhh h1)
  (iterate 2 ((try simp (etaStruct := .none) only [push_cast, DrawG, Int.cast_ofNat_Int, seval, lnkA, evtA, aggL, blkL, cellL, frS, frI, rowS, rowI]); (try (refine xsu ?_; try exact xtI))))
  refine caM [] (own_ya l hl) ?_
  (iterate 2 ((try simp (etaStruct := .none) only [push_cast, DrawG, Int.cast_ofNat_Int, seval, lnkA, evtA, aggL, blkL, cellL, frS, frI, rowS, rowI]); (try (refine xsu ?_; try exact xtI))))
  refine caM [0, 4, 5] (do3_c_n l x R hk hkeep h hf hc hc2) ?_
  (iterate 2 ((try simp (etaStruct := .none) only [push_cast, DrawG, Int.cast_ofNat_Int, seval, lnkA, evtA, aggL, blkL, cellL, frS, frI, rowS, rowI]); (try (refine xsu ?_; try exact xtI))))
  refine cond_i (fun h2 => ?_) (fun h2 => ?_)
  ·(try replace h2 := xhh h2)
   simp at h2
  ·(try replace h2 := xhh h2)
   (iterate 2 ((try simp (etaStruct := .none) only [push_cast, DrawG, Int.cast_ofNat_Int, seval, lnkA, evtA, aggL, blkL, cellL, frS, frI, rowS, rowI]); (try (refine xsu ?_; try exact xtI))))
   exact ret0 rfl (by repeat' (first | exact trivial | exact rfl | omega | refine ⟨?_, ?_⟩)) (Wk.refl _)
theorem Ddo4_k (l : Lnk) (x : Evt) (R : LnkR l) (hk : x.kind = 4) (hkeep : x.keep = true) (h : ¬ (x.at_ < 0 ∨ (l.acks.length : Int) ≤ x.at_)) : Spec Try.prog 26 [lnkA l, evtA x] [] (.tup [lnkA { l with base := (max l.base (l.acks.getD x.at_.toNat default)), next := (max l.next (max l.base (l.acks.getD x.at_.toNat default))) }, I .i64 0]) [] := by
 have hl := lnkL_of R
 have hC := lcheck_s l hl
 rw [(lnkR_iff l).2 R] at hC
 refine spec_am Try.func26 rfl rfl mix 26 rfl [.cell 4 57, .tmp 5] Try.results26 (Nat.le_of_ble_eq_true rfl) ?_
 (iterate 2 ((try simp (etaStruct := .none) only [push_cast, DrawG, Int.cast_ofNat_Int, seval, lnkA, evtA, aggL, blkL, cellL, frS, frI, rowS, rowI]); (try (refine xsu ?_; try exact xtI))))
 refine caP (lown_s l hl) ?_
 (iterate 2 ((try simp (etaStruct := .none) only [push_cast, DrawG, Int.cast_ofNat_Int, seval, lnkA, evtA, aggL, blkL, cellL, frS, frI, rowS, rowI]); (try (refine xsu ?_; try exact xtI))))
 refine caP (hC) ?_
 (iterate 2 ((try simp (etaStruct := .none) only [push_cast, DrawG, Int.cast_ofNat_Int, seval, lnkA, evtA, aggL, blkL, cellL, frS, frI, rowS, rowI]); (try (refine xsu ?_; try exact xtI))))
 refine cond_i (fun h1 => ?_) (fun h1 => ?_)
 ·(try replace h1 := xhh h1)
  simp at h1
 ·(try replace h1 := xhh h1)
  (iterate 2 ((try simp (etaStruct := .none) only [push_cast, DrawG, Int.cast_ofNat_Int, seval, lnkA, evtA, aggL, blkL, cellL, frS, frI, rowS, rowI]); (try (refine xsu ?_; try exact xtI))))
  refine caM [] (own_a l hl) ?_
  (iterate 2 ((try simp (etaStruct := .none) only [push_cast, DrawG, Int.cast_ofNat_Int, seval, lnkA, evtA, aggL, blkL, cellL, frS, frI, rowS, rowI]); (try (refine xsu ?_; try exact xtI))))
  refine caM [0, 4] (do4_k l x R hk hkeep h) ?_
  (iterate 2 ((try simp (etaStruct := .none) only [push_cast, DrawG, Int.cast_ofNat_Int, seval, lnkA, evtA, aggL, blkL, cellL, frS, frI, rowS, rowI]); (try (refine xsu ?_; try exact xtI))))
  refine cond_i (fun h2 => ?_) (fun h2 => ?_)
  ·(try replace h2 := xhh h2)
   simp at h2
  ·(try replace h2 := xhh h2)
   (iterate 2 ((try simp (etaStruct := .none) only [push_cast, DrawG, Int.cast_ofNat_Int, seval, lnkA, evtA, aggL, blkL, cellL, frS, frI, rowS, rowI]); (try (refine xsu ?_; try exact xtI))))
   exact ret0 rfl (by repeat' (first | exact trivial | exact rfl | omega | refine ⟨?_, ?_⟩)) (Wk.refl _)
theorem Ddo4_n (l : Lnk) (x : Evt) (R : LnkR l) (hk : x.kind = 4) (hkeep : x.keep = false) (h : ¬ (x.at_ < 0 ∨ (l.acks.length : Int) ≤ x.at_)) : Spec Try.prog 26 [lnkA l, evtA x] [] (.tup [lnkA { l with base := (max l.base (l.acks.getD x.at_.toNat default)), next := (max l.next (max l.base (l.acks.getD x.at_.toNat default))), acks := cutV l.acks x.at_.toNat }, I .i64 0]) [] := by
 have hl := lnkL_of R
 have hC := lcheck_s l hl
 rw [(lnkR_iff l).2 R] at hC
 refine spec_am Try.func26 rfl rfl mix 26 rfl [.cell 4 57, .tmp 5] Try.results26 (Nat.le_of_ble_eq_true rfl) ?_
 (iterate 2 ((try simp (etaStruct := .none) only [push_cast, DrawG, Int.cast_ofNat_Int, seval, lnkA, evtA, aggL, blkL, cellL, frS, frI, rowS, rowI]); (try (refine xsu ?_; try exact xtI))))
 refine caP (lown_s l hl) ?_
 (iterate 2 ((try simp (etaStruct := .none) only [push_cast, DrawG, Int.cast_ofNat_Int, seval, lnkA, evtA, aggL, blkL, cellL, frS, frI, rowS, rowI]); (try (refine xsu ?_; try exact xtI))))
 refine caP (hC) ?_
 (iterate 2 ((try simp (etaStruct := .none) only [push_cast, DrawG, Int.cast_ofNat_Int, seval, lnkA, evtA, aggL, blkL, cellL, frS, frI, rowS, rowI]); (try (refine xsu ?_; try exact xtI))))
 refine cond_i (fun h1 => ?_) (fun h1 => ?_)
 ·(try replace h1 := xhh h1)
  simp at h1
 ·(try replace h1 := xhh h1)
  (iterate 2 ((try simp (etaStruct := .none) only [push_cast, DrawG, Int.cast_ofNat_Int, seval, lnkA, evtA, aggL, blkL, cellL, frS, frI, rowS, rowI]); (try (refine xsu ?_; try exact xtI))))
  refine caM [] (own_a l hl) ?_
  (iterate 2 ((try simp (etaStruct := .none) only [push_cast, DrawG, Int.cast_ofNat_Int, seval, lnkA, evtA, aggL, blkL, cellL, frS, frI, rowS, rowI]); (try (refine xsu ?_; try exact xtI))))
  refine caM [0, 4] (do4_n l x R hk hkeep h) ?_
  (iterate 2 ((try simp (etaStruct := .none) only [push_cast, DrawG, Int.cast_ofNat_Int, seval, lnkA, evtA, aggL, blkL, cellL, frS, frI, rowS, rowI]); (try (refine xsu ?_; try exact xtI))))
  refine cond_i (fun h2 => ?_) (fun h2 => ?_)
  ·(try replace h2 := xhh h2)
   simp at h2
  ·(try replace h2 := xhh h2)
   (iterate 2 ((try simp (etaStruct := .none) only [push_cast, DrawG, Int.cast_ofNat_Int, seval, lnkA, evtA, aggL, blkL, cellL, frS, frI, rowS, rowI]); (try (refine xsu ?_; try exact xtI))))
   exact ret0 rfl (by repeat' (first | exact trivial | exact rfl | omega | refine ⟨?_, ?_⟩)) (Wk.refl _)
theorem Ddo5_y (l : Lnk) (x : Evt) (R : LnkR l) (hk : x.kind = 5) (hkeep : x.keep = false) (h : ¬ (x.at_ < 0 ∨ (l.way.length : Int) ≤ x.at_)) : Spec Try.prog 26 [lnkA l, evtA x] [] (.tup [lnkA { l with way := cutV l.way x.at_.toNat }, I .i64 0]) [] := by
 have hl := lnkL_of R
 have hC := lcheck_s l hl
 rw [(lnkR_iff l).2 R] at hC
 refine spec_am Try.func26 rfl rfl mix 26 rfl [.cell 4 57, .tmp 5] Try.results26 (Nat.le_of_ble_eq_true rfl) ?_
 (iterate 2 ((try simp (etaStruct := .none) only [push_cast, DrawG, Int.cast_ofNat_Int, seval, lnkA, evtA, aggL, blkL, cellL, frS, frI, rowS, rowI]); (try (refine xsu ?_; try exact xtI))))
 refine caP (lown_s l hl) ?_
 (iterate 2 ((try simp (etaStruct := .none) only [push_cast, DrawG, Int.cast_ofNat_Int, seval, lnkA, evtA, aggL, blkL, cellL, frS, frI, rowS, rowI]); (try (refine xsu ?_; try exact xtI))))
 refine caP (hC) ?_
 (iterate 2 ((try simp (etaStruct := .none) only [push_cast, DrawG, Int.cast_ofNat_Int, seval, lnkA, evtA, aggL, blkL, cellL, frS, frI, rowS, rowI]); (try (refine xsu ?_; try exact xtI))))
 refine cond_i (fun h1 => ?_) (fun h1 => ?_)
 ·(try replace h1 := xhh h1)
  simp at h1
 ·(try replace h1 := xhh h1)
  (iterate 2 ((try simp (etaStruct := .none) only [push_cast, DrawG, Int.cast_ofNat_Int, seval, lnkA, evtA, aggL, blkL, cellL, frS, frI, rowS, rowI]); (try (refine xsu ?_; try exact xtI))))
  refine caM [] (own_y l hl) ?_
  (iterate 2 ((try simp (etaStruct := .none) only [push_cast, DrawG, Int.cast_ofNat_Int, seval, lnkA, evtA, aggL, blkL, cellL, frS, frI, rowS, rowI]); (try (refine xsu ?_; try exact xtI))))
  refine caM [0, 4] (do5_y l x R hk hkeep h) ?_
  (iterate 2 ((try simp (etaStruct := .none) only [push_cast, DrawG, Int.cast_ofNat_Int, seval, lnkA, evtA, aggL, blkL, cellL, frS, frI, rowS, rowI]); (try (refine xsu ?_; try exact xtI))))
  refine cond_i (fun h2 => ?_) (fun h2 => ?_)
  ·(try replace h2 := xhh h2)
   simp at h2
  ·(try replace h2 := xhh h2)
   (iterate 2 ((try simp (etaStruct := .none) only [push_cast, DrawG, Int.cast_ofNat_Int, seval, lnkA, evtA, aggL, blkL, cellL, frS, frI, rowS, rowI]); (try (refine xsu ?_; try exact xtI))))
   exact ret0 rfl (by repeat' (first | exact trivial | exact rfl | omega | refine ⟨?_, ?_⟩)) (Wk.refl _)
theorem Ddo5_a (l : Lnk) (x : Evt) (R : LnkR l) (hk : x.kind = 5) (hkeep : x.keep = true) (h : ¬ (x.at_ < 0 ∨ (l.acks.length : Int) ≤ x.at_)) : Spec Try.prog 26 [lnkA l, evtA x] [] (.tup [lnkA { l with acks := cutV l.acks x.at_.toNat }, I .i64 0]) [] := by
 have hl := lnkL_of R
 have hC := lcheck_s l hl
 rw [(lnkR_iff l).2 R] at hC
 refine spec_am Try.func26 rfl rfl mix 26 rfl [.cell 4 57, .tmp 5] Try.results26 (Nat.le_of_ble_eq_true rfl) ?_
 (iterate 2 ((try simp (etaStruct := .none) only [push_cast, DrawG, Int.cast_ofNat_Int, seval, lnkA, evtA, aggL, blkL, cellL, frS, frI, rowS, rowI]); (try (refine xsu ?_; try exact xtI))))
 refine caP (lown_s l hl) ?_
 (iterate 2 ((try simp (etaStruct := .none) only [push_cast, DrawG, Int.cast_ofNat_Int, seval, lnkA, evtA, aggL, blkL, cellL, frS, frI, rowS, rowI]); (try (refine xsu ?_; try exact xtI))))
 refine caP (hC) ?_
 (iterate 2 ((try simp (etaStruct := .none) only [push_cast, DrawG, Int.cast_ofNat_Int, seval, lnkA, evtA, aggL, blkL, cellL, frS, frI, rowS, rowI]); (try (refine xsu ?_; try exact xtI))))
 refine cond_i (fun h1 => ?_) (fun h1 => ?_)
 ·(try replace h1 := xhh h1)
  simp at h1
 ·(try replace h1 := xhh h1)
  (iterate 2 ((try simp (etaStruct := .none) only [push_cast, DrawG, Int.cast_ofNat_Int, seval, lnkA, evtA, aggL, blkL, cellL, frS, frI, rowS, rowI]); (try (refine xsu ?_; try exact xtI))))
  refine caM [] (own_a l hl) ?_
  (iterate 2 ((try simp (etaStruct := .none) only [push_cast, DrawG, Int.cast_ofNat_Int, seval, lnkA, evtA, aggL, blkL, cellL, frS, frI, rowS, rowI]); (try (refine xsu ?_; try exact xtI))))
  refine caM [0, 4] (do5_a l x R hk hkeep h) ?_
  (iterate 2 ((try simp (etaStruct := .none) only [push_cast, DrawG, Int.cast_ofNat_Int, seval, lnkA, evtA, aggL, blkL, cellL, frS, frI, rowS, rowI]); (try (refine xsu ?_; try exact xtI))))
  refine cond_i (fun h2 => ?_) (fun h2 => ?_)
  ·(try replace h2 := xhh h2)
   simp at h2
  ·(try replace h2 := xhh h2)
   (iterate 2 ((try simp (etaStruct := .none) only [push_cast, DrawG, Int.cast_ofNat_Int, seval, lnkA, evtA, aggL, blkL, cellL, frS, frI, rowS, rowI]); (try (refine xsu ?_; try exact xtI))))
   exact ret0 rfl (by repeat' (first | exact trivial | exact rfl | omega | refine ⟨?_, ?_⟩)) (Wk.refl _)
end Go.Proofs.Ytdkmndimmpilaaa
namespace Go.Proofs.Ytdkmndimmpilaaa
set_option linter.all false
open Go.RowKit
set_option maxRecDepth 100000
set_option maxHeartbeats 1000000
theorem Do_s (l : Lnk) (x : Evt) (R : LnkR l) : Spec Try.prog 26 [lnkA l, evtA x] [] (.tup [lnkA (lnkD l x).1, I .i64 (lnkD l x).2]) [] := by
 by_cases k1 : x.kind = 1
 ·by_cases h : l.sent.length = 200
  ·rw [show lnkD l x = (l, 6) by unfold lnkD; rw [if_pos k1, if_pos h]]
   exact Do_err l x R 6 (by decide) (do1_full l x R k1 h)
  ·rw [show lnkD l x = ({ l with sent := l.sent ++ [x.text] }, 0) by unfold lnkD; rw [if_pos k1, if_neg h]]
   exact Ddo1_ok l x R k1 h
 by_cases k2 : x.kind = 2
 ·by_cases h : 1000 < (l.way.length : Int) + sendTo l - l.base
  ·rw [show lnkD l x = (l, 6) by unfold lnkD; rw [if_neg k1, if_pos k2, if_pos h]]
   exact Do_err l x R 6 (by decide) (do2_full l x R k2 h)
  ·rw [show lnkD l x = ({ l with next := sendTo l, way := l.way ++ rngI l.base (sendTo l - l.base).toNat }, 0) by unfold lnkD; rw [if_neg k1, if_pos k2, if_neg h]]
   exact Ddo2_ok l x R k2 h
 by_cases k3 : x.kind = 3
 ·by_cases h : x.at_ < 0 ∨ (l.way.length : Int) ≤ x.at_
  ·rw [show lnkD l x = (l, 7) by unfold lnkD; rw [if_neg k1, if_neg k2, if_pos k3, if_pos h]]
   exact Do_err l x R 7 (by decide) (do3_none l x R k3 h)
  by_cases hf : l.acks.length = 1000
  ·rw [show lnkD l x = (l, 6) by unfold lnkD; rw [if_neg k1, if_neg k2, if_pos k3, if_neg h, if_pos hf]]
   exact Do_err l x R 6 (by decide) (do3_full l x R k3 h hf)
  have e : lnkD l x = ({ l with way := takeV l.way x.at_ x.keep, got := l.sent.take (comesV l.got.length l.held (l.way.getD x.at_.toNat default)).1.toNat, held := (comesV l.got.length l.held (l.way.getD x.at_.toNat default)).2, acks := l.acks ++ [(comesV l.got.length l.held (l.way.getD x.at_.toNat default)).1] }, 0) := by
   unfold lnkD; rw [if_neg k1, if_neg k2, if_pos k3, if_neg h, if_neg hf]; rfl
  rw [e]
  by_cases hc : l.way.getD x.at_.toNat default = (l.got.length : Int)
  ·rw [show comesV l.got.length l.held (l.way.getD x.at_.toNat default) = runUp (l.got.length + 1) l.held by unfold comesV; rw [if_pos hc]]
   cases hk : x.keep
   ·exact Ddo3_b_n l x R k3 hk h hf hc
   ·exact Ddo3_b_k l x R k3 hk h hf hc
  have hp : l.sent.take ((l.got.length : Int)).toNat = l.got := by rw [Int.toNat_natCast]; exact R.p.symm
  by_cases hc2 : (l.got.length : Int) < l.way.getD x.at_.toNat default ∧ l.way.getD x.at_.toNat default ∉ l.held
  ·rw [show comesV l.got.length l.held (l.way.getD x.at_.toNat default) = ((l.got.length : Int), putIn (l.way.getD x.at_.toNat default) l.held) by unfold comesV; rw [if_neg hc, if_pos hc2]]
   simp only [hp]
   cases hk : x.keep
   ·exact Ddo3_a_n l x R k3 hk h hf hc2
   ·exact Ddo3_a_k l x R k3 hk h hf hc2
  ·rw [show comesV l.got.length l.held (l.way.getD x.at_.toNat default) = ((l.got.length : Int), l.held) by unfold comesV; rw [if_neg hc, if_neg hc2]]
   simp only [hp]
   cases hk : x.keep
   ·exact Ddo3_c_n l x R k3 hk h hf hc hc2
   ·exact Ddo3_c_k l x R k3 hk h hf hc hc2
 by_cases k4 : x.kind = 4
 ·by_cases h : x.at_ < 0 ∨ (l.acks.length : Int) ≤ x.at_
  ·rw [show lnkD l x = (l, 7) by unfold lnkD; rw [if_neg k1, if_neg k2, if_neg k3, if_pos k4, if_pos h]]
   exact Do_err l x R 7 (by decide) (do4_none l x R k4 h)
  have e : lnkD l x = ({ l with acks := takeV l.acks x.at_ x.keep, base := max l.base (l.acks.getD x.at_.toNat default), next := max l.next (max l.base (l.acks.getD x.at_.toNat default)) }, 0) := by
   unfold lnkD; rw [if_neg k1, if_neg k2, if_neg k3, if_pos k4, if_neg h]; rfl
  rw [e]
  cases hk : x.keep
  ·exact Ddo4_n l x R k4 hk h
  ·exact Ddo4_k l x R k4 hk h
 by_cases k5 : x.kind = 5
 ·cases hk : x.keep
  ·by_cases h : x.at_ < 0 ∨ (l.way.length : Int) ≤ x.at_
   ·rw [show lnkD l x = (l, 7) by unfold lnkD; rw [if_neg k1, if_neg k2, if_neg k3, if_neg k4, if_pos k5, if_neg (by rw [hk]; simp), if_pos h]]
    exact Do_err l x R 7 (by decide) (do5_y_none l x R k5 hk h)
   ·rw [show lnkD l x = ({ l with way := cutV l.way x.at_.toNat }, 0) by unfold lnkD; rw [if_neg k1, if_neg k2, if_neg k3, if_neg k4, if_pos k5, if_neg (by rw [hk]; simp), if_neg h]]
    exact Ddo5_y l x R k5 hk h
  ·by_cases h : x.at_ < 0 ∨ (l.acks.length : Int) ≤ x.at_
   ·rw [show lnkD l x = (l, 7) by unfold lnkD; rw [if_neg k1, if_neg k2, if_neg k3, if_neg k4, if_pos k5, if_pos hk, if_pos h]]
    exact Do_err l x R 7 (by decide) (do5_a_none l x R k5 hk h)
   ·rw [show lnkD l x = ({ l with acks := cutV l.acks x.at_.toNat }, 0) by unfold lnkD; rw [if_neg k1, if_neg k2, if_neg k3, if_neg k4, if_pos k5, if_pos hk, if_neg h]]
    exact Ddo5_a l x R k5 hk h
 ·rw [show lnkD l x = (l, 1) by unfold lnkD; rw [if_neg k1, if_neg k2, if_neg k3, if_neg k4, if_neg k5]]
  exact Do_err l x R 1 (by decide) (do_arg l x R (by omega))
end Go.Proofs.Ytdkmndimmpilaaa
namespace Go.Proofs.Ytdkmndimmpilaaa
set_option linter.all false
open Go.RowKit
set_option maxRecDepth 100000
set_option maxHeartbeats 1000000
theorem int_index (l : List Int) (v : Int) (hl : l.length ≤ 9223372036854775807) : Spec Try.prog 92 [.c (.sl 1 (l.map i64P)), I .i64 v] [] (I .i64 (ixOf (fun x => decide (v = x)) l)) [] := by
 refine spec_am Try.func92 rfl rfl mix 19 rfl [.tmp 4] Try.results92 (Nat.le_of_ble_eq_true rfl) ?_
 (try (refine xst ?_; try exact xtI))
 refine loopI (fun k : Nat => ⟨[(8, I .i64 k), (7, I .i64 l.length), (1, I .i64 v), (0, .c (.sl 1 (l.map i64P)))], [], 0⟩) (fun k : Nat => k ≤ l.length ∧ ∀ j (hj : j < l.length), j < k → decide (v = l[j]) = false) (fun k : Nat => l.length - k) (0) (⟨Nat.zero_le _, fun j _ h => by omega⟩) (To.mk [] rfl rfl List.nodup_nil trivial ?_) ?_
 ·simp (etaStruct := .none) only [push_cast, DrawG, Int.cast_ofNat_Int, seval]
 rintro k ⟨hk, hn⟩
 (try (refine xst ?_; try exact xtI))
 refine cond_i (fun h1 => ?_) (fun h1 => ?_)
 ·(try replace h1 := xhh h1)
  have hlt : k < l.length := by omega
  (iterate 2 ((try simp (etaStruct := .none) only [push_cast, DrawG, Int.cast_ofNat_Int, seval, getD_in _ _ _ hlt, i64P]); (try (refine xsu ?_; try exact xtI))))
  refine cond_i (fun h2 => ?_) (fun h2 => ?_)
  ·(try replace h2 := xhh h2)
   (iterate 2 ((try simp (etaStruct := .none) only [push_cast, DrawG, Int.cast_ofNat_Int, seval, getD_in _ _ _ hlt, i64P]); (try (refine xsu ?_; try exact xtI))))
   exact ret0 rfl trivial (Wk.of (by rw [ixOf_hit (fun x => decide (v = x)) l k hlt (by rw [← getD_at _ _ hlt]; simpa using h2) hn]; rfl))
  ·(try replace h2 := xhh h2)
   (iterate 2 ((try simp (etaStruct := .none) only [push_cast, DrawG, Int.cast_ofNat_Int, seval, getD_in _ _ _ hlt, i64P]); (try (refine xsu ?_; try exact xtI))))
   refine ⟨k + 1, ⟨by omega, fun j hj hjk => by
 rcases Nat.lt_or_ge j k with h | h
 ·simpa using hn j hj h
 ·obtain rfl : j = k := by omega
  rw [← getD_at _ _ hj]; simpa using h2⟩, by omega, To.mk [] rfl rfl List.nodup_nil trivial ?_⟩
   ·(iterate 2 ((try simp (etaStruct := .none) only [push_cast, DrawG, Int.cast_ofNat_Int, seval, getD_in _ _ _ hlt, i64P]); (try (refine xsu ?_; try exact xtI))))
 ·(try replace h1 := xhh h1)
  (try (refine xst ?_; try exact xtI))
  exact ret0 rfl trivial (Wk.of (by rw [ixOf_miss (fun x => decide (v = x)) l (fun j hj => hn j hj (by omega))]; rfl))
theorem int_contains (l : List Int) (v : Int) (hl : l.length ≤ 9223372036854775807) : Spec Try.prog 67 [.c (.sl 1 (l.map i64P)), I .i64 v] [] (B (l.any (fun x => decide (v = x)))) [] := by
 refine spec_am Try.func67 rfl rfl mix 9 rfl [.tmp 4] Try.results67 (Nat.le_of_ble_eq_true rfl) ?_
 (iterate 2 ((try simp (etaStruct := .none) only [push_cast, DrawG, Int.cast_ofNat_Int, seval, ixOf_any]); (try (refine xsu ?_; try exact xtI))))
 refine caP (int_index l v hl) ?_
 (iterate 2 ((try simp (etaStruct := .none) only [push_cast, DrawG, Int.cast_ofNat_Int, seval, ixOf_any]); (try (refine xsu ?_; try exact xtI))))
 exact xrz rfl
theorem any_mem (l : List Int) (k : Int) : (l.any fun x => decide (k = x)) = decide (k ∈ l) := by
 rw [Bool.eq_iff_iff]; simp
theorem there_s (l : Lnk) (n k : Int) (R : LnkR l) : Spec Try.prog 66 ([] ++ [I .i64 k] ++ [.fel 8 [lnkP l] 0 0, .fel 1 [[pI n]] 0 0]) [] (B (thereV l.got.length l.held n k)) [] := by
 have hs := R.s
 have hg := R.g
 have hh := R.h
 refine spec_am Try.func66 rfl rfl mix 21 rfl [.tmp 4] Try.results66 (Nat.le_of_ble_eq_true rfl) ?_
 (iterate 2 ((try simp (etaStruct := .none) only [push_cast, DrawG, Int.cast_ofNat_Int, seval, lnkP]); (try (refine xsu ?_; try exact xtI))))
 refine gcP (fun hcc => int_contains l.held k (by omega)) ?_
 (iterate 2 ((try simp (etaStruct := .none) only [push_cast, DrawG, Int.cast_ofNat_Int, seval, lnkP]); (try (refine xsu ?_; try exact xtI))))
 (first | (refine retA rfl (Wk.of ?_); (try simp (etaStruct := .none) only [push_cast, DrawG, Int.cast_ofNat_Int, seval]); first | done | (simp [thereV, any_mem, *]; done) | (simp_all [thereV, any_mem]; done)) | (refine retA rfl ?_; (try simp (etaStruct := .none) only [push_cast, DrawG, Int.cast_ofNat_Int, seval]); (try simp [thereV, any_mem, *]); (try exact wkc)))
theorem cut_s (l : List Int) (p : Int) (hl : l.length ≤ 1000) (h : 0 ≤ p ∧ p < (l.length : Int)) : Spec Try.prog 65 [.c (.sl 1 (l.map i64P)), I .i64 p] [] (.c (.sl 1 ((cutV l p.toNat).map i64P))) [] := by
 obtain ⟨i, rfl⟩ : ∃ i : Nat, p = i := ⟨p.toNat, by omega⟩
 rw [Int.toNat_natCast]
 have e1 : List.take i (l.map i64P) = (l.take i).map i64P := by rw [List.map_take]
 refine spec_am Try.func65 rfl rfl mix 14 rfl [.tmp 4] Try.results65 (Nat.le_of_ble_eq_true rfl) ?_
 (iterate 2 ((try simp (etaStruct := .none) only [push_cast, DrawG, Int.cast_ofNat_Int, seval, e1]); (try (refine xsu ?_; try exact xtI))))
 refine caM [] (int_clone (l.take i) (by rw [List.length_take]; omega)) ?_
 (iterate 2 ((try simp (etaStruct := .none) only [push_cast, DrawG, Int.cast_ofNat_Int, seval, e1]); (try (refine xsu ?_; try exact xtI))))
 (try (refine ⟨by kernel_rfl, ?_⟩))
 (iterate 2 ((try simp (etaStruct := .none) only [push_cast, DrawG, Int.cast_ofNat_Int, seval, e1]); (try (refine xsu ?_; try exact xtI))))
 refine ret0 rfl (by repeat' (first | exact trivial | exact rfl | omega | refine ⟨?_, ?_⟩)) (Wk.of ?_)
 show AV.c (.sl 1 _) = _
 unfold cutV
 rw [List.map_append, List.map_drop, show ((i : Int) + 1).toNat = i + 1 by omega]
end Go.Proofs.Ytdkmndimmpilaaa
