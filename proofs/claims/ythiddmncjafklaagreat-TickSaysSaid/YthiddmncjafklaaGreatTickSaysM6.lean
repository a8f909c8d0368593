/- Lemmas for the proof of tickSays.proved. -/
import Derived.Test.YthiddmncjafklaaGreatTickSaysM5
namespace Go.Proofs.YthiddmncjafklaaGreat
set_option linter.all false
open Go.RowKit
set_option maxRecDepth 100000
set_option maxHeartbeats 1000000
def nodP (x : Nod) : List PV := [pI x.c.x, pI x.c.y, pI x.far, pI x.all]
abbrev nodA (x : Nod) : AV := .agg [I .i64 x.c.x, I .i64 x.c.y, I .i64 x.far, I .i64 x.all]
theorem olen_s (l : List Nod) : Spec Tryz.prog 174 [.c (.sl 4 (l.map nodP))] [] (I .i64 l.length) [] := by
 refine spec_am Tryz.func174 rfl rfl mix 5 rfl [.tmp 2] Tryz.results174 (Nat.le_of_ble_eq_true rfl) ?_
 (try (refine xst ?_; try exact xtI))
 exact xrz rfl
theorem oless_s (l : List Nod) (i j : Nat) (hi : i < l.length) (hj : j < l.length) : Spec Tryz.prog 200 [.c (.sl 4 (l.map nodP)), I .i64 i, I .i64 j] [] (B (decide ((l.getD i default).all < (l.getD j default).all))) [] := by
 refine spec_am Tryz.func200 rfl rfl mix 18 rfl [.tmp 6] Tryz.results200 (Nat.le_of_ble_eq_true rfl) ?_
 (iterate 2 ((try simp (etaStruct := .none) only [push_cast, DrawG, Int.cast_ofNat_Int, seval, getD_in _ _ _ hi, getD_in _ _ _ hj, nodP]); (try (refine xsu ?_; try exact xtI))))
 (try (refine ⟨by kernel_rfl, ?_⟩))
 (iterate 2 ((try simp (etaStruct := .none) only [push_cast, DrawG, Int.cast_ofNat_Int, seval, getD_in _ _ _ hi, getD_in _ _ _ hj, nodP]); (try (refine xsu ?_; try exact xtI))))
 exact xrz rfl
theorem oswap_s (l : List Nod) (i j : Nat) (hi : i < l.length) (hj : j < l.length) : Spec Tryz.prog 201 [.own 0, I .i64 i, I .i64 j] [.row 241 4 (l.map nodP)] (.tup []) [.row 241 4 ((swapL l i j).map nodP)] := by
 have hj2 : j < (l.set i (l.getD j default)).length := by rw [List.length_set]; exact hj
 refine spec_am Tryz.func201 rfl rfl mix 20 rfl [] Tryz.results201 (Nat.le_of_ble_eq_true rfl) ?_
 (iterate 2 ((try simp (etaStruct := .none) only [push_cast, DrawG, Int.cast_ofNat_Int, seval, getD_in _ _ _ hi, getD_in _ _ _ hj, nodP]); (try (refine xsu ?_; try exact xtI))))
 (try (refine ⟨by kernel_rfl, ?_⟩))
 (iterate 2 ((try simp (etaStruct := .none) only [push_cast, DrawG, Int.cast_ofNat_Int, seval, getD_in _ _ _ hi, getD_in _ _ _ hj, nodP]); (try (refine xsu ?_; try exact xtI))))
 refine retM [0] rfl rfl (by decide) ⟨?_, trivial⟩ trivial ?_ <;> simp (etaStruct := .none) only [push_cast, DrawG, Int.cast_ofNat_Int, seval, swapL, ← List.map_set, List.length_map, List.map_set, nodP]
theorem oqpush_s (f : Fld) (b : Cel) (far : List Int)(l : List Nod) (x : Nod) (hl : l.length ≤ 1000000) : Spec Tryz.prog 205 [.ptr 0 0 6, .ifc 241 (nodA x)] [.blk 197 [I .i64 f.w, I .i64 f.h, .c (.sl 1 (f.p.map i64P)), I .i64 b.x, I .i64 b.y, .own 1, .own 2], .row 3 1 (far.map i64P),.row 241 4 (l.map nodP)] (.tup []) [.blk 197 [I .i64 f.w, I .i64 f.h, .c (.sl 1 (f.p.map i64P)), I .i64 b.x, I .i64 b.y, .own 1, .own 3], .row 3 1 (far.map i64P),.dead, .row 241 4 ((l ++ [x]).map nodP)] := by
 refine spec_am Tryz.func205 rfl rfl mix 13 rfl [] Tryz.results205 (Nat.le_of_ble_eq_true rfl) ?_
 (try (refine xst ?_; try exact xtI))
 (try (refine ⟨by kernel_rfl, ?_⟩))
 (try (refine xst ?_; try exact xtI))
 refine retM [0, 1, 2, 31] rfl rfl (by decide) ⟨?_, ?_, ?_, ?_, trivial⟩ trivial ?_ <;> simp (etaStruct := .none) only [push_cast, DrawG, Int.cast_ofNat_Int, seval, List.map_append, nodP]
theorem oqpop_s (f : Fld) (b : Cel) (far : List Int)(l : List Nod) (n : Nat) (hn : l.length = n + 1) (hl : l.length ≤ 1000001) : Spec Tryz.prog 204 [.ptr 0 0 6] [.blk 197 [I .i64 f.w, I .i64 f.h, .c (.sl 1 (f.p.map i64P)), I .i64 b.x, I .i64 b.y, .own 1, .own 2], .row 3 1 (far.map i64P),.row 241 4 (l.map nodP)] (.ifc 241 (nodA (l.getD n default))) [.blk 197 [I .i64 f.w, I .i64 f.h, .c (.sl 1 (f.p.map i64P)), I .i64 b.x, I .i64 b.y, .own 1, .own 3], .row 3 1 (far.map i64P),.dead, .row 241 4 ((l.take n).map nodP)] := by
 have hlt : n < l.length := by omega
 have e1 : IntKind.i64.wrap ((l.length : Int) - 1) = (n : Int) := by rw [wrap_in _ (by omega) (by omega)]; omega
 refine spec_am Tryz.func204 rfl rfl mix 23 rfl [.tmp 2] Tryz.results204 (Nat.le_of_ble_eq_true rfl) ?_
 (iterate 2 ((try simp (etaStruct := .none) only [push_cast, DrawG, Int.cast_ofNat_Int, seval, e1, getD_in _ _ _ hlt, nodP]); (try (refine xsu ?_; try exact xtI))))
 refine retTo (To.cutC 0 6 2 n 241 4 197 _ (l.map nodP) rfl rfl rfl (by rw [List.length_map]; omega)) ?_
 refine retM [0, 1, 2, 4] rfl rfl (by decide) ⟨?_, ?_, ?_, ?_, trivial⟩ trivial ?_ <;> simp (etaStruct := .none) only [push_cast, DrawG, Int.cast_ofNat_Int, seval, List.map_take, List.set_cons_zero, List.set_cons_succ]
theorem oup_s (f : Fld) (b : Cel) (far : List Int)(l : List Nod) (j : Nat) (hj : j < l.length) (hl : l.length ≤ 1000001) : Spec Tryz.prog 181 [.ifc 239 (.ptr 0 0 6), I .i64 j] [.blk 197 [I .i64 f.w, I .i64 f.h, .c (.sl 1 (f.p.map i64P)), I .i64 b.x, I .i64 b.y, .own 1, .own 2], .row 3 1 (far.map i64P),.row 241 4 (l.map nodP)] (.tup []) [.blk 197 [I .i64 f.w, I .i64 f.h, .c (.sl 1 (f.p.map i64P)), I .i64 b.x, I .i64 b.y, .own 1, .own 2], .row 3 1 (far.map i64P),.row 241 4 ((hup Nod.all l j).map nodP)] := by
 refine spec_am Tryz.func181 rfl rfl mix 23 rfl [] Tryz.results181 (Nat.le_of_ble_eq_true rfl) ?_
 (iterate 2 ((try simp (etaStruct := .none) only [push_cast, DrawG, Int.cast_ofNat_Int, seval, par_tdiv]); (try (refine xsu ?_; try exact xtI))))
 refine loopI (fun x : List Nod × Nat => ⟨[(1, I .i64 x.2), (0, .ifc 239 (.ptr 0 0 6))], [(0, .blk 197 [I .i64 f.w, I .i64 f.h, .c (.sl 1 (f.p.map i64P)), I .i64 b.x, I .i64 b.y, .own 1, .own 2]), (1, .row 3 1 (far.map i64P)),(2, .row 241 4 (x.1.map nodP))], 3⟩) (fun x : List Nod × Nat => x.2 < x.1.length ∧ x.1.length ≤ 1000001 ∧ hup Nod.all x.1 x.2 = hup Nod.all l j) (fun x : List Nod × Nat => x.2) ((l, j)) (⟨hj, hl, rfl⟩) (To.mk [0, 1, 2] rfl rfl (by decide) ?_ ?_) ?_
 ·simp (etaStruct := .none) only [push_cast, DrawG, Int.cast_ofNat_Int, seval]
 ·simp (etaStruct := .none) only [push_cast, DrawG, Int.cast_ofNat_Int, seval]
 rintro ⟨m, i⟩ ⟨hi, hm, hu⟩
 simp only at hi hm hu
 have lp : par i ≤ i := by simp only [par]; omega
 have hp : par i < m.length := by omega
 (iterate 2 ((try simp (etaStruct := .none) only [push_cast, DrawG, Int.cast_ofNat_Int, seval, par_tdiv]); (try (refine xsu ?_; try exact xtI))))
 refine gcallB (fun hcc => oless_s m i (par i) hi hp) (WkL.refl _) rfl (by intro hc; (try simp (etaStruct := .none) only [push_cast, DrawG, Int.cast_ofNat_Int, seval]); (try simp_all)) ?_
 (iterate 2 ((try simp (etaStruct := .none) only [push_cast, DrawG, Int.cast_ofNat_Int, seval, par_tdiv]); (try (refine xsu ?_; try exact xtI))))
 refine cond_i (fun h1 => ?_) (fun h1 => ?_)
 ·(try replace h1 := xhh h1)
  have e : hup Nod.all m i = m := by
   rw [hup, if_pos]
   rcases h1 with h | h
   ·exact .inl (by omega)
   ·exact .inr (by omega)
  rw [← hu, e]
  (iterate 2 ((try simp (etaStruct := .none) only [push_cast, DrawG, Int.cast_ofNat_Int, seval, par_tdiv]); (try (refine xsu ?_; try exact xtI))))
  refine retM [0, 1, 2] rfl rfl (by decide) ⟨?_, ?_, ?_, trivial⟩ trivial ?_ <;> simp (etaStruct := .none) only [push_cast, DrawG, Int.cast_ofNat_Int, seval]
 ·(try replace h1 := xhh h1)
  have e : hup Nod.all m i = hup Nod.all (swapL m (par i) i) (par i) := by rw [hup, if_neg]; rintro (h | h) <;> omega
  have lt : par i < i := by omega
  (iterate 2 ((try simp (etaStruct := .none) only [push_cast, DrawG, Int.cast_ofNat_Int, seval, par_tdiv]); (try (refine xsu ?_; try exact xtI))))
  refine caM [2] (oswap_s m (par i) i hp hi) ?_
  (iterate 2 ((try simp (etaStruct := .none) only [push_cast, DrawG, Int.cast_ofNat_Int, seval, par_tdiv]); (try (refine xsu ?_; try exact xtI))))
  refine ⟨(swapL m (par i) i, par i), ⟨by rw [swapL_len]; exact hp, by rw [swapL_len]; exact hm, by rw [← hu, e]⟩, lt, To.mk [0, 1, 2] rfl rfl (by decide) ?_ ?_⟩
  ·(iterate 2 ((try simp (etaStruct := .none) only [push_cast, DrawG, Int.cast_ofNat_Int, seval, par_tdiv]); (try (refine xsu ?_; try exact xtI))))
  ·(iterate 2 ((try simp (etaStruct := .none) only [push_cast, DrawG, Int.cast_ofNat_Int, seval, par_tdiv]); (try (refine xsu ?_; try exact xtI))))
theorem ohpush_s (f : Fld) (b : Cel) (far : List Int)(l : List Nod) (x : Nod) (hl : l.length ≤ 1000000) : Spec Tryz.prog 173 [.ifc 239 (.ptr 0 0 6), .ifc 241 (nodA x)] [.blk 197 [I .i64 f.w, I .i64 f.h, .c (.sl 1 (f.p.map i64P)), I .i64 b.x, I .i64 b.y, .own 1, .own 2], .row 3 1 (far.map i64P),.row 241 4 (l.map nodP)] (.tup []) [.blk 197 [I .i64 f.w, I .i64 f.h, .c (.sl 1 (f.p.map i64P)), I .i64 b.x, I .i64 b.y, .own 1, .own 3], .row 3 1 (far.map i64P),.dead, .row 241 4 ((hpush Nod.all l x).map nodP)] := by
 have hlen : (l ++ [x]).length = l.length + 1 := by simp
 have e1 : IntKind.i64.wrap (((l ++ [x]).length : Int) - 1) = (l.length : Int) := by rw [wrap_in _ (by omega) (by omega)]; omega
 refine spec_am Tryz.func173 rfl rfl mix 12 rfl [] Tryz.results173 (Nat.le_of_ble_eq_true rfl) ?_
 (iterate 2 ((try simp (etaStruct := .none) only [push_cast, DrawG, Int.cast_ofNat_Int, seval, e1]); (try (refine xsu ?_; try exact xtI))))
 refine caM [0, 1, 2] (oqpush_s f b far l x hl) ?_
 (iterate 2 ((try simp (etaStruct := .none) only [push_cast, DrawG, Int.cast_ofNat_Int, seval, e1]); (try (refine xsu ?_; try exact xtI))))
 refine callB (olen_s (l ++ [x])) (WkL.refl _) rfl ?_
 (iterate 2 ((try simp (etaStruct := .none) only [push_cast, DrawG, Int.cast_ofNat_Int, seval, e1]); (try (refine xsu ?_; try exact xtI))))
 refine caM [0, 1, 3] (oup_s f b far (l ++ [x]) l.length (by omega) (by omega)) ?_
 (iterate 2 ((try simp (etaStruct := .none) only [push_cast, DrawG, Int.cast_ofNat_Int, seval, e1]); (try (refine xsu ?_; try exact xtI))))
 refine retM [0, 1, 2, 3] rfl rfl (by decide) ⟨?_, ?_, ?_, ?_, trivial⟩ trivial ?_ <;> simp (etaStruct := .none) only [push_cast, DrawG, Int.cast_ofNat_Int, seval, hpush]
theorem odown_s (f : Fld) (b : Cel) (far : List Int)(l : List Nod) (n : Nat) (hn : n ≤ l.length) (hl : l.length ≤ 1000001) : Spec Tryz.prog 182 [.ifc 239 (.ptr 0 0 6), I .i64 0, I .i64 n] [.blk 197 [I .i64 f.w, I .i64 f.h, .c (.sl 1 (f.p.map i64P)), I .i64 b.x, I .i64 b.y, .own 1, .own 2], .row 3 1 (far.map i64P),.row 241 4 (l.map nodP)] .undef [.blk 197 [I .i64 f.w, I .i64 f.h, .c (.sl 1 (f.p.map i64P)), I .i64 b.x, I .i64 b.y, .own 1, .own 2], .row 3 1 (far.map i64P),.row 241 4 ((hdn Nod.all l 0 n).map nodP)] := by
 refine spec_am Tryz.func182 rfl rfl mix 48 rfl [.tmp 6] Tryz.results182 (Nat.le_of_ble_eq_true rfl) ?_
 (try (refine xst ?_; try exact xtI))
 refine loopI (fun x : List Nod × Nat => ⟨[(7, I .i64 x.2), (2, I .i64 n), (1, I .i64 0), (0, .ifc 239 (.ptr 0 0 6))], [(0, .blk 197 [I .i64 f.w, I .i64 f.h, .c (.sl 1 (f.p.map i64P)), I .i64 b.x, I .i64 b.y, .own 1, .own 2]), (1, .row 3 1 (far.map i64P)),(2, .row 241 4 (x.1.map nodP))], 3⟩) (fun x : List Nod × Nat => x.2 ≤ n ∧ n ≤ x.1.length ∧ x.1.length ≤ 1000001 ∧ hdn Nod.all x.1 x.2 n = hdn Nod.all l 0 n) (fun x : List Nod × Nat => n - x.2) ((l, 0)) (⟨Nat.zero_le _, hn, hl, rfl⟩) (To.mk [0, 1, 2] rfl rfl (by decide) ?_ ?_) ?_
 ·simp (etaStruct := .none) only [push_cast, DrawG, Int.cast_ofNat_Int, seval]
 ·simp (etaStruct := .none) only [push_cast, DrawG, Int.cast_ofNat_Int, seval]
 rintro ⟨m, i⟩ ⟨hi, hm, hm2, hu⟩
 simp only at hi hm hm2 hu
 obtain ⟨a, ha⟩ : ∃ a : Nat, a = 2 * i + 1 := ⟨_, rfl⟩
 obtain ⟨b, hb⟩ : ∃ b : Nat, b = 2 * i + 2 := ⟨_, rfl⟩
 have e1 : IntKind.i64.wrap (IntKind.i64.wrap (2 * (i : Int)) + 1) = (a : Int) := by rw [wrap_in (2 * _) (by omega) (by omega), wrap_in _ (by omega) (by omega)]; omega
 have e2 : IntKind.i64.wrap ((a : Int) + 1) = (b : Int) := by rw [wrap_in _ (by omega) (by omega)]; omega
 simp (etaStruct := .none) only [push_cast, DrawG, Int.cast_ofNat_Int, seval, e1, e2]
 (try (refine xst ?_; try exact xtI))
 refine cond_i (fun h1 => ?_) (fun h1 => ?_)
 ·(try replace h1 := xhh h1)
  have e : hdn Nod.all m i n = m := by rw [hdn, if_pos]; exact .inl (by omega)
  rw [← hu, e]
  (try (refine xst ?_; try exact xtI))
  refine retM [0, 1, 2] rfl rfl (by decide) ⟨?_, ?_, ?_, trivial⟩ trivial (Wk.undef _) <;> simp (etaStruct := .none) only [push_cast, DrawG, Int.cast_ofNat_Int, seval]
 ·(try replace h1 := xhh h1)
  (iterate 2 ((try simp (etaStruct := .none) only [push_cast, DrawG, Int.cast_ofNat_Int, seval, e1, e2]); (try (refine xsu ?_; try exact xtI))))
  refine gcallB (fun hcc => oless_s m b a (by simp only [decide_eq_true_eq] at hcc; omega) (by omega)) (WkL.refl _) rfl (by intro hc; (try simp (etaStruct := .none) only [push_cast, DrawG, Int.cast_ofNat_Int, seval]); (try simp_all)) ?_
  (iterate 2 ((try simp (etaStruct := .none) only [push_cast, DrawG, Int.cast_ofNat_Int, seval, e1, e2]); (try (refine xsu ?_; try exact xtI))))
  refine cond_i (fun h2 => ?_) (fun h2 => ?_)
  ·(try replace h2 := xhh h2)
   have ek : kid Nod.all m i n = b := by unfold kid; rw [← ha, ← hb, if_pos ⟨by omega, h2.2⟩]
   (iterate 2 ((try simp (etaStruct := .none) only [push_cast, DrawG, Int.cast_ofNat_Int, seval, e1, e2]); (try (refine xsu ?_; try exact xtI))))
   refine callB (oless_s m b i (by omega) (by omega)) (WkL.refl _) rfl ?_
   (iterate 2 ((try simp (etaStruct := .none) only [push_cast, DrawG, Int.cast_ofNat_Int, seval, e1, e2]); (try (refine xsu ?_; try exact xtI))))
   refine cond_i (fun h3 => ?_) (fun h3 => ?_)
   ·(try replace h3 := xhh h3)
    have e : hdn Nod.all m i n = m := by rw [hdn, if_pos]; rw [ek]; exact .inr (by omega)
    rw [← hu, e]
    (iterate 2 ((try simp (etaStruct := .none) only [push_cast, DrawG, Int.cast_ofNat_Int, seval, e1, e2]); (try (refine xsu ?_; try exact xtI))))
    refine retM [0, 1, 2] rfl rfl (by decide) ⟨?_, ?_, ?_, trivial⟩ trivial (Wk.undef _) <;> simp (etaStruct := .none) only [push_cast, DrawG, Int.cast_ofNat_Int, seval]
   ·(try replace h3 := xhh h3)
    have e : hdn Nod.all m i n = hdn Nod.all (swapL m i b) b n := by rw [hdn, if_neg, ek]; rw [ek]; rintro (h | h) <;> omega
    (iterate 2 ((try simp (etaStruct := .none) only [push_cast, DrawG, Int.cast_ofNat_Int, seval, e1, e2]); (try (refine xsu ?_; try exact xtI))))
    refine caM [2] (oswap_s m i b (by omega) (by omega)) ?_
    (iterate 2 ((try simp (etaStruct := .none) only [push_cast, DrawG, Int.cast_ofNat_Int, seval, e1, e2]); (try (refine xsu ?_; try exact xtI))))
    refine ⟨(swapL m i b, b), ⟨by simp only; omega, by rw [swapL_len]; exact hm, by rw [swapL_len]; exact hm2, by rw [← hu, e]⟩, by simp only; omega, To.mk [0, 1, 2] rfl rfl (by decide) ?_ ?_⟩
    ·(iterate 2 ((try simp (etaStruct := .none) only [push_cast, DrawG, Int.cast_ofNat_Int, seval, e1, e2]); (try (refine xsu ?_; try exact xtI))))
    ·(iterate 2 ((try simp (etaStruct := .none) only [push_cast, DrawG, Int.cast_ofNat_Int, seval, e1, e2]); (try (refine xsu ?_; try exact xtI))))
  ·(try replace h2 := xhh h2)
   have ek : kid Nod.all m i n = a := by unfold kid; rw [← ha, ← hb, if_neg (fun h => by have := h.1; have := h.2; omega)]
   (iterate 2 ((try simp (etaStruct := .none) only [push_cast, DrawG, Int.cast_ofNat_Int, seval, e1, e2]); (try (refine xsu ?_; try exact xtI))))
   refine callB (oless_s m a i (by omega) (by omega)) (WkL.refl _) rfl ?_
   (iterate 2 ((try simp (etaStruct := .none) only [push_cast, DrawG, Int.cast_ofNat_Int, seval, e1, e2]); (try (refine xsu ?_; try exact xtI))))
   refine cond_i (fun h4 => ?_) (fun h4 => ?_)
   ·(try replace h4 := xhh h4)
    have e : hdn Nod.all m i n = m := by rw [hdn, if_pos]; rw [ek]; exact .inr (by omega)
    rw [← hu, e]
    (iterate 2 ((try simp (etaStruct := .none) only [push_cast, DrawG, Int.cast_ofNat_Int, seval, e1, e2]); (try (refine xsu ?_; try exact xtI))))
    refine retM [0, 1, 2] rfl rfl (by decide) ⟨?_, ?_, ?_, trivial⟩ trivial (Wk.undef _) <;> simp (etaStruct := .none) only [push_cast, DrawG, Int.cast_ofNat_Int, seval]
   ·(try replace h4 := xhh h4)
    have e : hdn Nod.all m i n = hdn Nod.all (swapL m i a) a n := by rw [hdn, if_neg, ek]; rw [ek]; rintro (h | h) <;> omega
    (iterate 2 ((try simp (etaStruct := .none) only [push_cast, DrawG, Int.cast_ofNat_Int, seval, e1, e2]); (try (refine xsu ?_; try exact xtI))))
    refine caM [2] (oswap_s m i a (by omega) (by omega)) ?_
    (iterate 2 ((try simp (etaStruct := .none) only [push_cast, DrawG, Int.cast_ofNat_Int, seval, e1, e2]); (try (refine xsu ?_; try exact xtI))))
    refine ⟨(swapL m i a, a), ⟨by simp only; omega, by rw [swapL_len]; exact hm, by rw [swapL_len]; exact hm2, by rw [← hu, e]⟩, by simp only; omega, To.mk [0, 1, 2] rfl rfl (by decide) ?_ ?_⟩
    ·(iterate 2 ((try simp (etaStruct := .none) only [push_cast, DrawG, Int.cast_ofNat_Int, seval, e1, e2]); (try (refine xsu ?_; try exact xtI))))
    ·(iterate 2 ((try simp (etaStruct := .none) only [push_cast, DrawG, Int.cast_ofNat_Int, seval, e1, e2]); (try (refine xsu ?_; try exact xtI))))
theorem ohpop_s (f : Fld) (b : Cel) (far : List Int)(l : List Nod) (h0 : 0 < l.length) (hl : l.length ≤ 1000001) : Spec Tryz.prog 175 [.ifc 239 (.ptr 0 0 6)] [.blk 197 [I .i64 f.w, I .i64 f.h, .c (.sl 1 (f.p.map i64P)), I .i64 b.x, I .i64 b.y, .own 1, .own 2], .row 3 1 (far.map i64P),.row 241 4 (l.map nodP)] (.ifc 241 (nodA (l.getD 0 default))) [.blk 197 [I .i64 f.w, I .i64 f.h, .c (.sl 1 (f.p.map i64P)), I .i64 b.x, I .i64 b.y, .own 1, .own 3], .row 3 1 (far.map i64P),.dead, .row 241 4 ((hpop Nod.all l).map nodP)] := by
 obtain ⟨n, hn⟩ : ∃ n, l.length = n + 1 := ⟨l.length - 1, by omega⟩
 have e1 : IntKind.i64.wrap ((l.length : Int) - 1) = (n : Int) := by rw [wrap_in _ (by omega) (by omega)]; omega
 have e2 := hpop_last Nod.all l h0
 have e3 : hpop Nod.all l = (hdn Nod.all (swapL l 0 n) 0 n).take n := by unfold hpop; rw [hn]; rfl
 rw [hn, Nat.add_sub_cancel] at e2
 rw [← e2, e3]
 refine spec_am Tryz.func175 rfl rfl mix 15 rfl [.tmp 2] Tryz.results175 (Nat.le_of_ble_eq_true rfl) ?_
 (iterate 2 ((try simp (etaStruct := .none) only [push_cast, DrawG, Int.cast_ofNat_Int, seval, e1]); (try (refine xsu ?_; try exact xtI))))
 refine callB (olen_s l) (WkL.refl _) rfl ?_
 (iterate 2 ((try simp (etaStruct := .none) only [push_cast, DrawG, Int.cast_ofNat_Int, seval, e1]); (try (refine xsu ?_; try exact xtI))))
 refine caM [2] (oswap_s l 0 n h0 (by omega)) ?_
 (iterate 2 ((try simp (etaStruct := .none) only [push_cast, DrawG, Int.cast_ofNat_Int, seval, e1]); (try (refine xsu ?_; try exact xtI))))
 refine caM [0, 1, 2] (odown_s f b far (swapL l 0 n) n (by rw [swapL_len]; omega) (by rw [swapL_len]; omega)) ?_
 (iterate 2 ((try simp (etaStruct := .none) only [push_cast, DrawG, Int.cast_ofNat_Int, seval, e1]); (try (refine xsu ?_; try exact xtI))))
 refine caM [0, 1, 2] (oqpop_s f b far (hdn Nod.all (swapL l 0 n) 0 n) n (by rw [hdn_len, swapL_len]; exact hn) (by rw [hdn_len, swapL_len]; exact hl)) ?_
 (iterate 2 ((try simp (etaStruct := .none) only [push_cast, DrawG, Int.cast_ofNat_Int, seval, e1]); (try (refine xsu ?_; try exact xtI))))
 refine retM [0, 1, 2, 3] rfl rfl (by decide) ⟨?_, ?_, ?_, ?_, trivial⟩ trivial ?_ <;> simp (etaStruct := .none) only [push_cast, DrawG, Int.cast_ofNat_Int, seval]
end Go.Proofs.YthiddmncjafklaaGreat
namespace Go.Proofs.YthiddmncjafklaaGreat
set_option linter.all false
open Go.RowKit
set_option maxRecDepth 100000
set_option maxHeartbeats 1000000
theorem wrap_u64_nat (n : Nat) (h : n < 18446744073709551616) : IntKind.u64.wrap (n : Int) = n := by rw [IntKind.wrap_u64]; omega
theorem u64_and_low (n : Nat) (h : n < 4294967296) : bits .and .u64 (n : Int) 4294967295 = (n : Int) := by
 show IntKind.u64.wrap ((BitVec.ofInt 64 (n : Int) &&& BitVec.ofInt 64 ((4294967295 : Nat) : Int)).toNat : Nat) = _
 rw [BitVec.toNat_and, BitVec.ofInt_natCast, BitVec.ofInt_natCast, BitVec.toNat_ofNat, BitVec.toNat_ofNat, Nat.mod_eq_of_lt (show n < 2 ^ 64 by omega), Nat.mod_eq_of_lt (show 4294967295 < 2 ^ 64 by decide)]
 have : n &&& 4294967295 = n := by rw [show (4294967295 : Nat) = 2 ^ 32 - 1 from rfl, Nat.and_two_pow_sub_one_eq_mod, Nat.mod_eq_of_lt (by omega)]
 rw [this]
 exact wrap_u64_nat n (by omega)
theorem mul64_s (n : Nat) (h : n ≤ 1600) : Spec Tryz.prog 180 [.c (.v (.int .u64 1)), .c (.v (.int .u64 n))] [] (.tup [.c (.v (.int .u64 0)), .c (.v (.int .u64 n))]) [] := by
 have a1 := u64_and_low n (by omega)
 have a2 : bits .and .u64 1 4294967295 = 1 := u64_and_low 1 (by decide)
 have a3 : bits .and .u64 0 4294967295 = 0 := u64_and_low 0 (by decide)
 have w1 : ∀ x : Int, 0 ≤ x → x ≤ 1600 → IntKind.u64.wrap x = x := fun x h1 h2 => by
  obtain ⟨k, rfl⟩ := Int.eq_ofNat_of_zero_le h1
  exact wrap_u64_nat k (by omega)
 have d1 : (n : Int).fdiv 4294967296 = 0 := by rw [Int.fdiv_eq_ediv_of_nonneg _ (by decide)]; omega
 have d2 : (1 : Int).fdiv 4294967296 = 0 := rfl
 have d3 : (0 : Int).fdiv 4294967296 = 0 := rfl
 have e1 : IntKind.u64.wrap (n : Int) = n := w1 _ (by omega) (by omega)
 have e0 : IntKind.u64.wrap 0 = 0 := rfl
 have hm : (2 : Int) ^ min 32 IntKind.u64.bits = 4294967296 := rfl
 refine spec_am Tryz.func180 rfl rfl mix 51 rfl [.tmp 4, .tmp 5] Tryz.results180 (Nat.le_of_ble_eq_true rfl) ?_
 (iterate 2 ((try simp (etaStruct := .none) only [push_cast, DrawG, Int.cast_ofNat_Int, seval, hm, a1, a2, a3, d1, d2, d3, e1, e0, Int.mul_zero, Int.zero_mul, Int.one_mul, Int.add_zero, Int.zero_add]); (try (refine xsu ?_; try exact xtI))))
 exact xrz rfl
theorem mul_s (n : Nat) (h : n ≤ 1600) : Spec Tryz.prog 172 [.c (.v (.int .u64 1)), .c (.v (.int .u64 n))] [] (.tup [.c (.v (.int .u64 0)), .c (.v (.int .u64 n))]) [] := by
 refine spec_am Tryz.func172 rfl rfl mix 30 rfl [.tmp 4, .tmp 5] Tryz.results172 (Nat.le_of_ble_eq_true rfl) ?_
 (try (refine xst ?_; try exact xtI))
 refine cond_i (fun h1 => ?_) (fun h1 => ?_)
 ·(try replace h1 := xhh h1)
  exact absurd h1 (by decide)
 ·(try replace h1 := xhh h1)
  (try (refine xst ?_; try exact xtI))
  refine caP (mul64_s n h) ?_
  (try (refine xst ?_; try exact xtI))
  exact xrz rfl
def rp (k n : Nat) : List Int := List.replicate k (-1) ++ List.replicate (n - k) 0
theorem rp_len {k n : Nat} (h : k ≤ n) : (rp k n).length = n := by unfold rp; simp; omega
theorem rp_take {k n : Nat} (h : k ≤ n) : (rp k n).take k = List.replicate k (-1) := by unfold rp; rw [List.take_append_of_le_length (by simp)]; simp
theorem splice_map {α β : Type} (f : α → β) (l : List α) (o : Nat) (m : List α) : splice (l.map f) o (m.map f) = (splice l o m).map f := by
 unfold splice
 rw [List.map_append, List.map_append, List.map_take, List.map_drop, List.length_map]
theorem rp_copy {k n : Nat} (h : k ≤ n) : splice (rp k n) k ((List.replicate k (-1)).take (n - k)) = rp (k + min k (n - k)) n := by
 rw [List.take_replicate]
 unfold splice
 rw [rp_take h, List.length_replicate]
 unfold rp
 rw [List.drop_append, List.length_replicate, List.drop_of_length_le (by simp), List.nil_append, show k + min (n - k) k - k = min (n - k) k from by omega, List.drop_replicate, ← List.append_assoc, List.replicate_append_replicate, Nat.min_comm (n - k) k, show n - k - min k (n - k) = n - (k + min k (n - k)) from by omega]
theorem rp_first {n : Nat} (h : 1 ≤ n) : splice (List.replicate n (0 : Int)) 0 ([(-1 : Int)].take n) = rp 1 n := by
 obtain ⟨m, rfl⟩ : ∃ m, n = m + 1 := ⟨n - 1, by omega⟩
 unfold splice rp
 simp
theorem repeat_s (n : Nat) (hpos : 1 ≤ n) (h : n ≤ 1600) : Spec Tryz.prog 161 [.own 0, I .i64 n] [.row 3 1 [[pI (-1)]]] (.own 1) [.row 3 1 [[pI (-1)]], .row 3 1 ((List.replicate n (-1 : Int)).map i64P)] := by
 have e1 : IntKind.u64.wrap (n : Int) = n := wrap_u64_nat n (by omega)
 have e2 : IntKind.u64.wrap 1 = 1 := rfl
 have e3 : IntKind.i64.wrap (n : Int) = n := wrap_in _ (by omega) (by omega)
 have hf := rp_first hpos
 have hf2 : splice (List.replicate n [pI 0]) 0 (([[pI (-1)]] : List (List PV)).take n) = (rp 1 n).map i64P := by rw [← hf, ← splice_map]; simp [i64P]
 have hmn : min 1 n = 1 := by omega
 refine spec_am Tryz.func161 rfl rfl mix 48 rfl [.tmp 4] Tryz.results161 (Nat.le_of_ble_eq_true rfl) ?_
 (iterate 2 ((try simp (etaStruct := .none) only [push_cast, DrawG, Int.cast_ofNat_Int, seval, e1, e2, e3]); (try (refine xsu ?_; try exact xtI))))
 refine cond_i (fun h1 => ?_) (fun h1 => ?_)
 ·(try replace h1 := xhh h1)
  exfalso; omega
 ·(try replace h1 := xhh h1)
  (iterate 2 ((try simp (etaStruct := .none) only [push_cast, DrawG, Int.cast_ofNat_Int, seval, e1, e2, e3]); (try (refine xsu ?_; try exact xtI))))
  refine caP (mul_s n h) ?_
  (iterate 2 ((try simp (etaStruct := .none) only [push_cast, DrawG, Int.cast_ofNat_Int, seval, e1, e2, e3]); (try (refine xsu ?_; try exact xtI))))
  refine cond_i (fun h2 => ?_) (fun h2 => ?_)
  ·(try replace h2 := xhh h2)
   exfalso; omega
  ·(try replace h2 := xhh h2)
   (iterate 2 ((try simp (etaStruct := .none) only [push_cast, DrawG, Int.cast_ofNat_Int, seval, e1, e2, e3]); (try (refine xsu ?_; try exact xtI))))
   refine loopI (fun k : Nat => ⟨[(8, I .i64 k), (7, .own 1)], [(0, .row 3 1 [[pI (-1)]]), (1, .row 3 1 ((rp k n).map i64P))], 2⟩) (fun k : Nat => 1 ≤ k ∧ k ≤ n) (fun k : Nat => n - k) (1) (⟨Nat.le_refl _, hpos⟩) (To.mk [0, 1] rfl rfl (by decide) ?_ ?_) ?_
   ·simp (etaStruct := .none) only [push_cast, DrawG, Int.cast_ofNat_Int, seval, List.length_replicate]
    simpa only [splice, List.take_zero, List.nil_append, Nat.zero_add] using hf2
   ·simp (etaStruct := .none) only [push_cast, DrawG, Int.cast_ofNat_Int, seval, List.length_replicate, hmn]
   rintro k ⟨hk1, hk⟩
   have hrl := rp_len hk
   have hrc := rp_copy hk
   have htk : ((rp k n).map i64P).take k = (List.replicate k (-1 : Int)).map i64P := by rw [← List.map_take, rp_take hk]
   have hs2 : splice ((rp k n).map i64P) k ((((rp k n).map i64P).take k).take (n - k)) = (rp (k + min k (n - k)) n).map i64P := by rw [htk, ← List.map_take, splice_map, hrc]
   have hl2 : (((rp k n).map i64P).take k).length = k := by rw [List.length_take, List.length_map, hrl]; omega
   unfold splice at hs2
   (iterate 2 ((try simp (etaStruct := .none) only [push_cast, DrawG, Int.cast_ofNat_Int, seval, e1, e2, e3]); (try (refine xsu ?_; try exact xtI))))
   refine cond_i (fun h3 => ?_) (fun h3 => ?_)
   ·(try replace h3 := xhh h3)
    skip
    (iterate 2 ((try simp (etaStruct := .none) only [push_cast, DrawG, Int.cast_ofNat_Int, seval, e1, e2, e3]); (try (refine xsu ?_; try exact xtI))))
    (try (refine ⟨by kernel_rfl, ?_⟩))
    (iterate 2 ((try simp (etaStruct := .none) only [push_cast, DrawG, Int.cast_ofNat_Int, seval, e1, e2, e3]); (try (refine xsu ?_; try exact xtI))))
    refine ⟨k + min k (n - k), ⟨by omega, by omega⟩, by omega, To.mk [0, 1] rfl rfl (by decide) ?_ ?_⟩
    ·(iterate 2 ((try simp (etaStruct := .none) only [push_cast, DrawG, Int.cast_ofNat_Int, seval, hrl]); (try (refine xsu ?_; try exact xtI))))
     exact hs2
    ·(iterate 2 ((try simp (etaStruct := .none) only [push_cast, DrawG, Int.cast_ofNat_Int, seval, hl2, hrl]); (try (refine xsu ?_; try exact xtI))))
   ·(try replace h3 := xhh h3)
    obtain rfl : k = n := by omega
    have hrn : rp k k = List.replicate k (-1) := by unfold rp; simp
    (iterate 2 ((try simp (etaStruct := .none) only [push_cast, DrawG, Int.cast_ofNat_Int, seval, e1, e2, e3]); (try (refine xsu ?_; try exact xtI))))
    refine retM [0, 1] rfl rfl (by decide) ⟨?_, ?_, trivial⟩ trivial ?_ <;> simp (etaStruct := .none) only [push_cast, DrawG, Int.cast_ofNat_Int, seval, hrn]
end Go.Proofs.YthiddmncjafklaaGreat
namespace Go.Proofs.YthiddmncjafklaaGreat
set_option linter.all false
open Go.RowKit
set_option maxRecDepth 100000
set_option maxHeartbeats 1000000
abbrev srPV (f : Fld) (b : Cel) (far : List Int) (q : List Nod) : List PV := [pI f.w, pI f.h, .sl 1 (f.p.map i64P), pI b.x, pI b.y, .sl 1 (far.map i64P), .sl 4 (q.map nodP)]
theorem pindex_s (f : Fld) (b : Cel) (far : List Int) (q : List Nod) (c : Cel) (hf : fldE f = 0) (hc : inF f c = true) : Spec Tryz.prog 137 [.fel 7 [srPV f b far q] 0 0, celA c] [] (I .i64 (idxN f c)) [] := by
 obtain ⟨i1, i2, i3, i4, i5⟩ := place_ix hf hc
 have hci := inF_iff.1 hc
 have e1 : IntKind.i64.wrap (IntKind.i64.wrap (c.y * f.w) + c.x) = (idxN f c : Int) := by rw [wrap_in (c.y * f.w) (by omega) (by omega), wrap_in _ (by omega) (by omega)]; unfold idxN; omega
 refine spec_am Tryz.func137 rfl rfl mix 16 rfl [.tmp 4] Tryz.results137 (Nat.le_of_ble_eq_true rfl) ?_
 (iterate 2 ((try simp (etaStruct := .none) only [push_cast, DrawG, Int.cast_ofNat_Int, seval, e1]); (try (refine xsu ?_; try exact xtI))))
 (try (refine ⟨by kernel_rfl, ?_⟩))
 (iterate 2 ((try simp (etaStruct := .none) only [push_cast, DrawG, Int.cast_ofNat_Int, seval, e1]); (try (refine xsu ?_; try exact xtI))))
 exact xrz rfl
def costC (f : Fld) (c : Cel) : Int × Bool := if inF f c then (if placeV f c = 1 then (0, false) else (kV (placeV f c), true)) else (0, false)
theorem pcost_s (f : Fld) (b : Cel) (far : List Int) (q : List Nod) (c : Cel) (hf : fldE f = 0) : Spec Tryz.prog 135 [.fel 7 [srPV f b far q] 0 0, celA c] [] (.tup [I .i64 (costC f c).1, B (costC f c).2]) [] := by
 have hfo := fldE_ok hf
 have hav : atV f c = if inF f c then (placeV f c, 0) else (0, 7) := by unfold atV; rw [if_neg (by simp [hf])]
 have hm : f.w * f.h ≤ 40 * 40 := Int.mul_le_mul hfo.1.2 hfo.2.1.2 (by omega) (by omega)
 refine spec_am Tryz.func135 rfl rfl mix 28 rfl [.tmp 4, .tmp 5] Tryz.results135 (Nat.le_of_ble_eq_true rfl) ?_
 (try (refine xst ?_; try exact xtI))
 refine caP (at_s f c (by omega)) ?_
 rw [hav]
 (try (refine xst ?_; try exact xtI))
 (try (refine ⟨by kernel_rfl, ?_⟩))
 (try (refine xst ?_; try exact xtI))
 refine cond_i (fun h1 => ?_) (fun h1 => ?_)
 ·(try replace h1 := xhh h1)
  have hin : inF f c = false := by
   cases hc : inF f c with
   | false => rfl
   | true => rw [hc] at h1; simp at h1
  have e : costC f c = (0, false) := by unfold costC; rw [if_neg (by simp [hin])]
  rw [e]
  (try (refine xst ?_; try exact xtI))
  exact xrz rfl
 ·(try replace h1 := xhh h1)
  have hin : inF f c = true := by
   cases hc : inF f c with
   | true => rfl
   | false => rw [hc] at h1; simp at h1
  rw [if_pos hin]
  (try (refine xst ?_; try exact xtI))
  refine caP (cost_s (placeV f c)) ?_
  have hpl := hfo.2.2.2 _ (getD_mem f.p _ (show (c.y * f.w + c.x).toNat < f.p.length by have := place_ix hf hin; omega))
  have hcv := costV_ok (q := placeV f c) hpl
  have e : costC f c = if placeV f c = 1 then (0, false) else (kV (placeV f c), true) := by unfold costC; rw [if_pos hin]
  have e3 : (costC f c).1 = (costV (placeV f c)).1 ∧ (costC f c).2 = decide ((costV (placeV f c)).2 = 0) := by
   rw [e]
   rcases hcv with h | h
   ·rw [if_pos h.1, h.2]; exact ⟨rfl, rfl⟩
   ·rw [if_neg h.1, h.2]; exact ⟨rfl, rfl⟩
  rw [e3.1, e3.2]
  (try (refine xst ?_; try exact xtI))
  exact xrz rfl
theorem psides_s (c : Cel) (hx : -1000000 ≤ c.x ∧ c.x ≤ 1000000) (hy : -1000000 ≤ c.y ∧ c.y ≤ 1000000) : Spec Tryz.prog 136 [celA c] [] (.agg [I .i64 c.x, I .i64 (c.y - 1), I .i64 (c.x - 1), I .i64 c.y, I .i64 (c.x + 1), I .i64 c.y, I .i64 c.x, I .i64 (c.y + 1)]) [] := by
 refine spec_am Tryz.func136 rfl rfl mix 28 rfl [.cell 2 192] Tryz.results136 (Nat.le_of_ble_eq_true rfl) ?_
 (try (refine xst ?_; try exact xtI))
 exact xrz rfl
def leftH (b c : Cel) : Int := 2 * (((b.x - c.x).natAbs + (b.y - c.y).natAbs : Nat) : Int)
end Go.Proofs.YthiddmncjafklaaGreat
namespace Go.Proofs.YthiddmncjafklaaGreat
set_option linter.all false
open Go.RowKit
set_option maxRecDepth 100000
def lk (f : Fld) (b : Cel) (far : List Int) (d : Int) (q : List Nod) (c : Cel) : List Nod := if (costC f c).2 = true ∧ far.getD (idxN f c) default < 0 then hpush Nod.all q ⟨c, d + (costC f c).1, d + (costC f c).1 + leftH b c⟩ else q
def lookF (f : Fld) (b : Cel) (far : List Int) (d : Int) (q : List Nod) (l : List Cel) : List Nod := l.foldl (lk f b far d) q
theorem lookF_snoc (f : Fld) (b : Cel) (far : List Int) (d : Int) (q : List Nod) (l : List Cel) (c : Cel) : lookF f b far d q (l ++ [c]) = lk f b far d (lookF f b far d q l) c := by unfold lookF; rw [List.foldl_append]; rfl
theorem lk_len (f : Fld) (b : Cel) (far : List Int) (d : Int) (q : List Nod) (c : Cel) : (lk f b far d q c).length ≤ q.length + 1 := by
 unfold lk; split
 ·rw [hpush_len]; exact Nat.le_refl _
 ·omega
theorem lookF_len (f : Fld) (b : Cel) (far : List Int) (d : Int) (l : List Cel) : ∀ q : List Nod, (lookF f b far d q l).length ≤ q.length + l.length := by
 induction l with
 | nil => intro q; exact Nat.le_refl _
 | cons c r ih => intro q; have h1 := ih (lk f b far d q c); have h2 := lk_len f b far d q c; simp only [lookF, List.foldl_cons, List.length_cons] at *; omega
def goB (f : Fld) (b : Cel) (far : List Int) (q : List Nod) : Prop := 0 < q.length ∧ (far.getD (idxN f b) default < 0 ∨ (q.getD 0 default).all ≤ far.getD (idxN f b) default)
def runF (f : Fld) (b : Cel) : Nat → List Int → List Nod → List Int × List Nod
 | 0, far, q => (far, q)
 | N + 1, far, q => if 0 < q.length ∧ (far.getD (idxN f b) default < 0 ∨ (q.getD 0 default).all ≤ far.getD (idxN f b) default) then
  (if 0 ≤ far.getD (idxN f (q.getD 0 default).c) default then runF f b N far (hpop Nod.all q)
   else runF f b N (far.set (idxN f (q.getD 0 default).c) (q.getD 0 default).far) (lookF f b (far.set (idxN f (q.getD 0 default).c) (q.getD 0 default).far) (q.getD 0 default).far (hpop Nod.all q) (sidesC (q.getD 0 default).c)))
  else (far, q)
section
variable {f : Fld} {W H : Nat}
theorem celW_in (hw : f.w = (W : Int)) (hh : f.h = (H : Int)) (hW : 0 < W) {p : Nat} (hp : p < W * H) : inF f (celW W p) = true ∧ idxN f (celW W p) = p := by
 have h1 := Nat.div_add_mod p W
 have h2 := Nat.mod_lt p hW
 have h3 : p / W < H := by rw [Nat.div_lt_iff_lt_mul hW, Nat.mul_comm]; exact hp
 unfold celW idxN
 refine ⟨inF_iff.2 ⟨⟨Int.natCast_nonneg _, by simp only; rw [hw]; exact Int.ofNat_lt.2 h2⟩, Int.natCast_nonneg _, by simp only; rw [hh]; exact Int.ofNat_lt.2 h3⟩, ?_⟩
 simp only
 rw [hw, show ((p / W : Nat) : Int) * (W : Int) = ((W * (p / W) : Nat) : Int) from by rw [Nat.mul_comm, Int.natCast_mul]]
 omega
theorem in_celW (hw : f.w = (W : Int)) (hh : f.h = (H : Int)) (hW : 0 < W) (hf : fldE f = 0) {c : Cel} (hc : inF f c = true) : c = celW W (idxN f c) ∧ idxN f c < f.p.length := by
 obtain ⟨i1, i2, i3, i4, i5⟩ := place_ix hf hc
 have hci := inF_iff.1 hc
 obtain ⟨x, hx⟩ : ∃ x : Nat, c.x = (x : Int) := Int.eq_ofNat_of_zero_le hci.1.1
 obtain ⟨y, hy⟩ : ∃ y : Nat, c.y = (y : Int) := Int.eq_ofNat_of_zero_le hci.2.1
 have e : idxN f c = W * y + x := by
  unfold idxN
  rw [hx, hy, hw, show (y : Int) * (W : Int) = ((W * y : Nat) : Int) from by rw [Nat.mul_comm, Int.natCast_mul]]
  omega
 have hxW : x < W := by omega
 refine ⟨?_, by unfold idxN; omega⟩
 rw [e]
 unfold celW
 rw [Nat.mul_add_mod, Nat.mod_eq_of_lt hxW, Nat.mul_add_div hW, Nat.div_eq_of_lt hxW, Nat.add_zero, ← hx, ← hy]
theorem hh_cons (hw : f.w = (W : Int)) (hh : f.h = (H : Int)) (hW : 0 < W) (b : Cel) : Cons W (W * H) fun p => leftH b (celW W p) := by
 intro p n hp hn ha
 have key : ∀ c c' : Cel, (c.x = c'.x ∧ (c.y = c'.y + 1 ∨ c'.y = c.y + 1)) ∨ (c.y = c'.y ∧ (c.x = c'.x + 1 ∨ c'.x = c.x + 1)) → leftH b c ≤ leftH b c' + 2 := by
  intro c c' h; unfold leftH; omega
 refine key _ _ ?_
 have h1 := Nat.div_add_mod p W
 have h2 := Nat.div_add_mod n W
 have m1 := Nat.mod_lt p hW
 have m2 := Nat.mod_lt n hW
 unfold celW
 simp only
 have up : ∀ m : Nat, (m + W) % W = m % W ∧ (m + W) / W = m / W + 1 := fun m => ⟨Nat.add_mod_right m W, Nat.add_div_right m hW⟩
 have side : ∀ m : Nat, 0 < (m + 1) % W → (m + 1) % W = m % W + 1 ∧ (m + 1) / W = m / W := fun m h => by
  have hs := succ_mod hW m
  have hl := Nat.mod_lt m hW
  have hd := Nat.div_add_mod m W
  split at hs
  ·omega
  ·rename_i hne
   refine ⟨hs, ?_⟩
   have hlt : m % W + 1 < W := by omega
   have : m + 1 = W * (m / W) + (m % W + 1) := by rw [← Nat.add_assoc, Nat.div_add_mod]
   rw [this, Nat.mul_add_div hW, Nat.div_eq_of_lt hlt, Nat.add_zero]
 rcases ha with h | ⟨h, h'⟩ | ⟨h, h'⟩ | h
 ·obtain ⟨u1, u2⟩ := up n; rw [h] at u1 u2; exact .inl ⟨by omega, .inl (by omega)⟩
 ·obtain ⟨u1, u2⟩ := side n (by rw [h]; exact h'); rw [h] at u1 u2; exact .inr ⟨by omega, .inl (by omega)⟩
 ·obtain ⟨u1, u2⟩ := side p (by rw [h]; exact h'); rw [h] at u1 u2; exact .inr ⟨by omega, .inr (by omega)⟩
 ·obtain ⟨u1, u2⟩ := up p; rw [h] at u1 u2; exact .inl ⟨by omega, .inr (by omega)⟩
theorem look_step (hw : f.w = (W : Int)) (hh : f.h = (H : Int)) (hW : 0 < W) (hf : fldE f = 0) (hL : f.p.length = W * H) (b : Cel) {a p : Nat} {far : List Int} {q : List Nod} {done : Nat → Nat → Prop} {d : Int} (h : As W f.p a (fun n => leftH b (celW W n)) far q done) (hp : p < f.p.length) (hd : far.getD p default = d) (h0 : 0 ≤ d)
 (top : ∀ m, m < f.p.length → 0 ≤ far.getD m default → far.getD m default + leftH b (celW W m) ≤ d + leftH b (celW W p)) (hb : d + 3 ≤ 3 * sumL one0 far) (c : Cel) (hc : inF f c = true → Adj W p (idxN f c)) :
 As W f.p a (fun n => leftH b (celW W n)) far (lk f b far d q c) fun x n => done x n ∨ (x = p ∧ inF f c = true ∧ n = idxN f c) := by
 have hcons := hh_cons hw hh hW b
 rw [← hL] at hcons
 cases hin : inF f c with
 | false =>
  have e : lk f b far d q c = q := by unfold lk costC; rw [if_neg (by rw [hin]; simp)]
  rw [e]
  refine ⟨h.len, h.low, h.heap, h.itm, h.src, h.why, h.top, fun u v h1 h2 h3 h4 => h.all u v h1 h2 h3 ?_⟩
  rcases h4 with h4 | h4
  ·exact h4
  ·exact absurd h4.2.1 (by decide)
 | true =>
  obtain ⟨e1, e2⟩ := in_celW hw hh hW hf hin
  have epl : placeV f c = f.p.getD (idxN f c) default := rfl
  refine h.look hcons (n := idxN f c) e2 hp (hc hin) (by rw [hd]; exact h0) (fun m h1 h2 => by rw [hd]; exact top m h1 h2) (by rw [hd]; exact hb) _ (fun x y h4 => by
   rcases h4 with h4 | h4
   ·exact .inl h4
   ·exact .inr ⟨h4.1, h4.2.2⟩) ?_
  unfold lk costC
  rw [if_pos hin, epl, hd]
  by_cases hr : f.p.getD (idxN f c) default = 1
  ·rw [if_pos hr, if_neg (by simp)]
   exact .inl ⟨.inl hr, rfl⟩
  ·rw [if_neg hr]
   by_cases hn : far.getD (idxN f c) default < 0
   ·rw [if_pos ⟨rfl, hn⟩, ← e1]
    exact .inr ⟨hr, hn, rfl⟩
   ·rw [if_neg (fun h => hn h.2)]
    exact .inl ⟨.inr (by omega), rfl⟩
theorem sides_adj (hw : f.w = (W : Int)) (hh : f.h = (H : Int)) (hW : 0 < W) {p : Nat} (hp : p < W * H) {c : Cel} (hc : c ∈ sidesC (celW W p)) (hin : inF f c = true) : Adj W p (idxN f c) := by
 obtain ⟨bm, _⟩ := besideC_ok f hw hh hW hp
 have : idxN f c ∈ besideN W H p := by rw [← bm]; exact List.mem_map_of_mem (List.mem_filter.2 ⟨hc, hin⟩)
 exact ((mem_beside hW hp).1 this).2
theorem adj_sides (hw : f.w = (W : Int)) (hh : f.h = (H : Int)) (hW : 0 < W) {p n : Nat} (hp : p < W * H) (hn : n < W * H) (ha : Adj W p n) : ∃ c ∈ sidesC (celW W p), inF f c = true ∧ n = idxN f c := by
 obtain ⟨bm, _⟩ := besideC_ok f hw hh hW hp
 have := (mem_beside hW hp).2 ⟨hn, ha⟩
 rw [← bm] at this
 obtain ⟨c, hc, e⟩ := List.mem_map.1 this
 obtain ⟨h1, h2⟩ := List.mem_filter.1 hc
 exact ⟨c, h1, h2, e.symm⟩
def doneK (f : Fld) (W p k : Nat) (x n : Nat) : Prop := x ≠ p ∨ ∃ c ∈ (sidesC (celW W p)).take k, inF f c = true ∧ n = idxN f c
theorem look_k (hw : f.w = (W : Int)) (hh : f.h = (H : Int)) (hW : 0 < W) (hf : fldE f = 0) (hL : f.p.length = W * H) (b : Cel) {a p : Nat} {far : List Int} {q : List Nod} {d : Int} (h : As W f.p a (fun n => leftH b (celW W n)) far q (fun x _ => x ≠ p)) (hp : p < f.p.length) (hd : far.getD p default = d) (h0 : 0 ≤ d)
 (top : ∀ m, m < f.p.length → 0 ≤ far.getD m default → far.getD m default + leftH b (celW W m) ≤ d + leftH b (celW W p)) (hb : d + 3 ≤ 3 * sumL one0 far) : ∀ k, k ≤ 4 → As W f.p a (fun n => leftH b (celW W n)) far (lookF f b far d q ((sidesC (celW W p)).take k)) (doneK f W p k) := by
 intro k
 induction k with
 | zero =>
  intro _
  refine ⟨h.len, h.low, h.heap, h.itm, h.src, h.why, h.top, fun u v h1 h2 h3 h4 => h.all u v h1 h2 h3 ?_⟩
  rcases h4 with h4 | ⟨c, hc, _⟩
  ·exact h4
  ·simp at hc
 | succ k ih =>
  intro hk
  have hlt : k < (sidesC (celW W p)).length := by rw [show (sidesC (celW W p)).length = 4 from rfl]; omega
  rw [take_snoc _ _ hlt, lookF_snoc]
  have := look_step hw hh hW hf hL b (ih (by omega)) hp hd h0 top hb ((sidesC (celW W p)).getD k default) (fun hin => sides_adj hw hh hW (by omega) (getD_mem _ _ hlt) hin)
  refine ⟨this.len, this.low, this.heap, this.itm, this.src, this.why, this.top, fun u v h1 h2 h3 h4 => this.all u v h1 h2 h3 ?_⟩
  rcases h4 with h4 | ⟨c, hc, h5, h6⟩
  ·exact .inl (.inl h4)
  ·rw [take_snoc _ _ hlt, List.mem_append, List.mem_singleton] at hc
   by_cases hu : u = p
   ·rcases hc with hc | hc
    ·exact .inl (.inr ⟨c, hc, h5, h6⟩)
    ·subst hc; exact .inr ⟨hu, h5, h6⟩
   ·exact .inl (.inl hu)
theorem look_all (hw : f.w = (W : Int)) (hh : f.h = (H : Int)) (hW : 0 < W) (hL : f.p.length = W * H) {a p : Nat} {hf2 : Nat → Int} {far : List Int} {q : List Nod} (hp : p < f.p.length) (h : As W f.p a hf2 far q (doneK f W p 4)) : As W f.p a hf2 far q fun _ _ => True := by
 refine ⟨h.len, h.low, h.heap, h.itm, h.src, h.why, h.top, fun u v h1 h2 h3 _ => h.all u v h1 h2 h3 ?_⟩
 by_cases hu : u = p
 ·subst hu; exact .inr (adj_sides hw hh hW (by omega) (by omega) h3)
 ·exact .inl hu
end
def muS (f : Fld) (far : List Int) (q : List Nod) : Nat := 5 * (f.p.length - sumL one0 far) + q.length
section
variable {f : Fld} {W H : Nat}
theorem close_ok (hw : f.w = (W : Int)) (hh : f.h = (H : Int)) (hW : 0 < W) (hf : fldE f = 0) (hL : f.p.length = W * H) (b : Cel) {a : Nat} {far : List Int} {q : List Nod} (h : As W f.p a (fun n => leftH b (celW W n)) far q fun _ _ => True) (hq : 0 < q.length) (h0 : far.getD (idxN f (q.getD 0 default).c) default < 0) :
 ∃ p, (q.getD 0 default).c = celW W p ∧ idxN f (q.getD 0 default).c = p ∧ p < f.p.length ∧ 0 ≤ (q.getD 0 default).far ∧ As W f.p a (fun n => leftH b (celW W n)) (far.set p (q.getD 0 default).far) (hpop Nod.all q) (fun x _ => x ≠ p) ∧ (far.set p (q.getD 0 default).far).getD p default = (q.getD 0 default).far ∧ sumL one0 (far.set p (q.getD 0 default).far) = sumL one0 far + 1 ∧
  (∀ m, m < f.p.length → 0 ≤ (far.set p (q.getD 0 default).far).getD m default → (far.set p (q.getD 0 default).far).getD m default + leftH b (celW W m) ≤ (q.getD 0 default).far + leftH b (celW W p)) ∧ (q.getD 0 default).far + 3 ≤ 3 * sumL one0 (far.set p (q.getD 0 default).far) := by
 obtain ⟨p, e1, hp, j0, jb, ja, jm, jw⟩ := h.itm _ ((hpop_mem Nod.all q hq _).2 (.inl rfl))
 have hidx : idxN f (q.getD 0 default).c = p := by rw [e1]; exact (celW_in hw hh hW (by omega)).2
 rw [hidx] at h0
 obtain ⟨_, hA⟩ := h.close hW hq e1 h0
 have hpL : p < far.length := by rw [h.len]; exact hp
 have G := fun k => set_get (q.getD 0 default).far k hpL
 have cnt : sumL one0 (far.set p (q.getD 0 default).far) = sumL one0 far + 1 := by
  have := sumL_set one0 far p (q.getD 0 default).far hpL
  simp only [one0, if_neg (show ¬ 0 ≤ far.getD p default by omega), if_pos j0] at this; simpa [one0] using this
 refine ⟨p, e1, hidx, hp, j0, hA, by rw [G, if_pos rfl], cnt, fun m hm hm0 => ?_, by rw [cnt]; omega⟩
 rw [G] at hm0 ⊢
 split
 ·rename_i e; subst e; exact Int.le_refl _
 ·rename_i e
  rw [if_neg e] at hm0
  have := jm m hm hm0
  omega
theorem run_ok (hw : f.w = (W : Int)) (hh : f.h = (H : Int)) (hW : 0 < W) (hf : fldE f = 0) (hL : f.p.length = W * H) (b : Cel) {a : Nat} : ∀ (N : Nat) (far : List Int) (q : List Nod), As W f.p a (fun n => leftH b (celW W n)) far q (fun _ _ => True) → muS f far q ≤ N →
 As W f.p a (fun n => leftH b (celW W n)) (runF f b N far q).1 (runF f b N far q).2 (fun _ _ => True) ∧ ¬ goB f b (runF f b N far q).1 (runF f b N far q).2 := by
 intro N
 induction N with
 | zero =>
  intro far q h hm
  refine ⟨h, fun hg => ?_⟩
  have := hg.1
  simp only [runF] at this
  unfold muS at hm; omega
 | succ N ih =>
  intro far q h hm
  rw [runF]
  split
  ·rename_i hg
   have hcl := sumL_le one0 1 one0_le far
   rw [h.len] at hcl
   split
   ·rename_i h0
    obtain ⟨p, e1, hp, _⟩ := h.itm _ ((hpop_mem Nod.all q hg.1 _).2 (.inl rfl))
    have hidx : idxN f (q.getD 0 default).c = p := by rw [e1]; exact (celW_in hw hh hW (by omega)).2
    rw [hidx] at h0
    exact ih _ _ (h.skip hg.1 e1 h0) (by unfold muS at *; rw [hpop_len]; omega)
   ·rename_i h0
    obtain ⟨p, e1, hidx, hp, j0, hA, hself, cnt, top, hb⟩ := close_ok hw hh hW hf hL b h hg.1 (by omega)
    have h4 := look_k hw hh hW hf hL b hA hp hself j0 top hb 4 (Nat.le_refl _)
    rw [show (sidesC (celW W p)).take 4 = sidesC (celW W p) from rfl] at h4
    have h5 := look_all hw hh hW hL hp h4
    rw [hidx, e1]
    refine ih _ _ h5 ?_
    have hll := lookF_len f b (far.set p (q.getD 0 default).far) (q.getD 0 default).far (sidesC (celW W p)) (hpop Nod.all q)
    have hcl2 := sumL_le one0 1 one0_le (far.set p (q.getD 0 default).far)
    rw [List.length_set, h.len] at hcl2
    rw [hpop_len, show (sidesC (celW W p)).length = 4 from rfl] at hll
    unfold muS at *
    rw [cnt]; omega
  ·rename_i hg
   exact ⟨h, hg⟩
end
end Go.Proofs.YthiddmncjafklaaGreat
namespace Go.Proofs.YthiddmncjafklaaGreat
set_option linter.all false
open Go.RowKit
set_option maxRecDepth 100000
set_option maxHeartbeats 1000000
theorem ppush_s (f : Fld) (b : Cel) (far : List Int) (l : List Nod) (c : Cel) (d : Int) (hl : l.length ≤ 1000000) (hx : -1000 ≤ c.x ∧ c.x ≤ 1000) (hy : -1000 ≤ c.y ∧ c.y ≤ 1000) (hbx : 0 ≤ b.x ∧ b.x ≤ 40) (hby : 0 ≤ b.y ∧ b.y ≤ 40) (hd : 0 ≤ d ∧ d ≤ 1000000) : Spec Tryz.prog 162 [.ptr 0 0 0, celA c, I .i64 d] [.blk 197 [I .i64 f.w, I .i64 f.h, .c (.sl 1 (f.p.map i64P)), I .i64 b.x, I .i64 b.y, .own 1, .own 2], .row 3 1 (far.map i64P), .row 241 4 (l.map nodP)] (.tup []) [.blk 197 [I .i64 f.w, I .i64 f.h, .c (.sl 1 (f.p.map i64P)), I .i64 b.x, I .i64 b.y, .own 1, .own 3], .row 3 1 (far.map i64P), .dead, .row 241 4 ((hpush Nod.all l ⟨c, d, d + leftH b c⟩).map nodP)] := by
 have e1 : IntKind.i64.wrap (d + IntKind.i64.wrap (2 * (((b.x - c.x).natAbs + (b.y - c.y).natAbs : Nat) : Int))) = d + leftH b c := by unfold leftH; rw [wrap_in (2 * _) (by omega) (by omega), wrap_in _ (by omega) (by omega)]
 refine spec_am Tryz.func162 rfl rfl mix 32 rfl [] Tryz.results162 (Nat.le_of_ble_eq_true rfl) ?_
 (iterate 2 ((try simp (etaStruct := .none) only [push_cast, DrawG, Int.cast_ofNat_Int, seval, e1]); (try (refine xsu ?_; try exact xtI))))
 refine caP (lapart_s c b (by simp [nearB]; omega) (by simp [nearB]; omega)) ?_
 (iterate 2 ((try simp (etaStruct := .none) only [push_cast, DrawG, Int.cast_ofNat_Int, seval, e1]); (try (refine xsu ?_; try exact xtI))))
 (try (refine ⟨by kernel_rfl, ?_⟩))
 (iterate 2 ((try simp (etaStruct := .none) only [push_cast, DrawG, Int.cast_ofNat_Int, seval, e1]); (try (refine xsu ?_; try exact xtI))))
 refine callM [0, 1, 2] (ohpush_s f b far l ⟨c, d, d + leftH b c⟩ hl) (WkL.refl _) rfl (by decide) (by simp [lookC_c, onlyC, memN]) ?_
 (iterate 2 ((try simp (etaStruct := .none) only [push_cast, DrawG, Int.cast_ofNat_Int, seval, e1]); (try (refine xsu ?_; try exact xtI))))
 (try (refine ⟨by kernel_rfl, ?_⟩))
 (iterate 2 ((try simp (etaStruct := .none) only [push_cast, DrawG, Int.cast_ofNat_Int, seval, e1]); (try (refine xsu ?_; try exact xtI))))
 refine retM [0, 1, 2, 104] rfl rfl (by decide) ⟨?_, ?_, ?_, ?_, trivial⟩ trivial ?_ <;> simp (etaStruct := .none) only [push_cast, DrawG, Int.cast_ofNat_Int, seval]
end Go.Proofs.YthiddmncjafklaaGreat
namespace Go.Proofs.YthiddmncjafklaaGreat
set_option linter.all false
open Go.RowKit
set_option maxRecDepth 100000
def nxtP (R : List Int) (f : Fld) (c n : Cel) : Bool := decide (0 ≤ R.getD (idxN f n) default) && decide (R.getD (idxN f n) default + kV (placeV f c) = R.getD (idxN f c) default)
def nxtC (R : List Int) (f : Fld) (c : Cel) : Cel := ((besideC f c).find? (nxtP R f c)).getD default
def wayL (R : List Int) (f : Fld) (a : Cel) : Nat → Cel → List Cel
 | 0, _ => []
 | N + 1, c => if c = a then [] else nxtC R f c :: wayL R f a N (nxtC R f c)
def wayV (R : List Int) (f : Fld) (a b : Cel) : List Cel := (b :: wayL R f a (R.getD (idxN f b) default).toNat b).reverse
def wayE (R : List Int) (f : Fld) (a b : Cel) : Int := if fldE f ≠ 0 then fldE f else if ¬ (inF f a = true ∧ inF f b = true) then 7 else if placeV f a = 1 ∨ placeV f b = 1 then 9 else if R.getD (idxN f b) default < 0 then 6 else 0
theorem besideC_near {f : Fld} {W H : Nat} (hw : f.w = (W : Int)) (hh : f.h = (H : Int)) (hW : 0 < W) (hf : fldE f = 0) (hL : f.p.length = W * H) {c n : Cel} (hc : inF f c = true) (hn : n ∈ besideC f c) : inF f n = true ∧ Adj W (idxN f c) (idxN f n) ∧ idxN f n < f.p.length := by
 obtain ⟨h1, h2⟩ := List.mem_filter.1 hn
 obtain ⟨e1, e2⟩ := in_celW hw hh hW hf hc
 rw [e1] at h1
 exact ⟨h2, sides_adj hw hh hW (by omega) h1 h2, (in_celW hw hh hW hf h2).2⟩
theorem nxt_ex {f : Fld} {W H : Nat} (hw : f.w = (W : Int)) (hh : f.h = (H : Int)) (hW : 0 < W) (hf : fldE f = 0) (hL : f.p.length = W * H) {a c : Cel} {R : List Int} (hR : Flood W f.p [idxN f a] R) (ha : inF f a = true) (hc : inF f c = true) (hca : c ≠ a) (h0 : 0 ≤ R.getD (idxN f c) default) :
 ∃ n ∈ besideC f c, nxtP R f c n = true := by
 obtain ⟨e1, e2⟩ := in_celW hw hh hW hf hc
 rcases hR.why _ e2 h0 with ⟨h1, h2⟩ | ⟨m, hm, hadj, hr, h3, h4⟩
 ·rw [List.mem_singleton] at h1
  have := (in_celW hw hh hW hf ha).1
  rw [← h1, ← e1] at this
  exact absurd this.symm hca
 ·have hp := hR.all m _ hm e2 hadj.symm h3 hr
  obtain ⟨n, hn, hin, rfl⟩ := adj_sides hw hh hW (by omega) (by omega) hadj
  rw [← e1] at hn
  refine ⟨n, List.mem_filter.2 ⟨hn, hin⟩, ?_⟩
  unfold nxtP
  have epl : placeV f c = f.p.getD (idxN f c) default := rfl
  rw [epl, Bool.and_eq_true, decide_eq_true_eq, decide_eq_true_eq]
  exact ⟨h3, by omega⟩
theorem nxt_ok {f : Fld} {W H : Nat} (hw : f.w = (W : Int)) (hh : f.h = (H : Int)) (hW : 0 < W) (hf : fldE f = 0) (hL : f.p.length = W * H) {a c : Cel} {R : List Int} (hR : Flood W f.p [idxN f a] R) (ha : inF f a = true) (hc : inF f c = true) (hca : c ≠ a) (h0 : 0 ≤ R.getD (idxN f c) default) :
 (besideC f c).find? (nxtP R f c) = some (nxtC R f c) ∧ nxtC R f c ∈ besideC f c ∧ inF f (nxtC R f c) = true ∧ Adj W (idxN f c) (idxN f (nxtC R f c)) ∧ 0 ≤ R.getD (idxN f (nxtC R f c)) default ∧ R.getD (idxN f (nxtC R f c)) default + kV (placeV f c) = R.getD (idxN f c) default := by
 obtain ⟨n, hn, hp⟩ := nxt_ex hw hh hW hf hL hR ha hc hca h0
 cases hfi : (besideC f c).find? (nxtP R f c) with
 | none => exact absurd hp (by simpa using List.find?_eq_none.1 hfi n hn)
 | some m =>
  have e : nxtC R f c = m := by unfold nxtC; rw [hfi]; rfl
  have hm := List.mem_of_find?_eq_some hfi
  have hq := List.find?_some hfi
  unfold nxtP at hq
  rw [Bool.and_eq_true, decide_eq_true_eq, decide_eq_true_eq] at hq
  obtain ⟨b1, b2, _⟩ := besideC_near hw hh hW hf hL hc hm
  rw [e]
  exact ⟨rfl, hm, b1, b2, hq.1, hq.2⟩
theorem prog_ok {f : Fld} {W H : Nat} (hw : f.w = (W : Int)) (hh : f.h = (H : Int)) (hW : 0 < W) (hf : fldE f = 0) (hL : f.p.length = W * H) {a b c : Cel} {R far : List Int} {q : List Nod} (hR : Flood W f.p [idxN f a] R) (ha : inF f a = true) (hpa : placeV f a ≠ 1) (hc : inF f c = true) (h0 : 0 ≤ R.getD (idxN f c) default)
 (hA : As W f.p (idxN f a) (fun n => leftH b (celW W n)) far q fun _ _ => True) (hcb : R.getD (idxN f c) default + leftH b c ≤ R.getD (idxN f b) default) (hq : ∀ x ∈ q, R.getD (idxN f b) default < x.all) (hfc : far.getD (idxN f c) default = R.getD (idxN f c) default) {n : Cel} (hn : n ∈ sidesC c) :
 ((costC f n).2 = true ∧ 0 ≤ far.getD (idxN f n) default ∧ far.getD (idxN f n) default + kV (placeV f c) = far.getD (idxN f c) default) ↔ (inF f n = true ∧ nxtP R f c n = true) := by
 have hcons := hh_cons hw hh hW b
 rw [← hL] at hcons
 have haL := (in_celW hw hh hW hf ha).2
 obtain ⟨ec, hcL⟩ := in_celW hw hh hW hf hc
 have hkv := kV_b (placeV f c)
 have epl : ∀ n, placeV f n = f.p.getD (idxN f n) default := fun _ => rfl
 unfold nxtP costC
 rw [Bool.and_eq_true, decide_eq_true_eq, decide_eq_true_eq, hfc]
 constructor
 ·rintro ⟨h1, h2, h3⟩
  have hin : inF f n = true := by
   cases hi : inF f n with
   | true => rfl
   | false => rw [hi] at h1; simp at h1
  have := hA.same hcons haL hR (in_celW hw hh hW hf hin).2 h2
  rw [this] at h2 h3
  exact ⟨hin, h2, h3⟩
 ·rintro ⟨hin, h2, h3⟩
  obtain ⟨en, hnL⟩ := in_celW hw hh hW hf hin
  have hadj : Adj W (idxN f c) (idxN f n) := by rw [ec] at hn; exact sides_adj hw hh hW (by omega) hn hin
  have hle := hcons _ _ hnL hcL hadj.symm
  simp only at hle
  rw [← en, ← ec] at hle
  have hk := hA.known hcons haL hR hnL h2 (fun x hx => by have := hq x hx; rw [← en]; omega)
  rw [hk]
  refine ⟨?_, h2, h3⟩
  rw [if_pos hin, if_neg]
  rw [epl]
  rcases hR.why _ hnL h2 with ⟨w1, _⟩ | ⟨_, _, _, hr, _⟩
  ·rw [List.mem_singleton] at w1; rw [w1]; exact hpa
  ·exact hr
theorem find_sides {f : Fld} {R : List Int} {c : Cel} {p : Cel → Bool} (hp : ∀ n ∈ sidesC c, p n = (inF f n && nxtP R f c n)) : (sidesC c).find? p = (besideC f c).find? (nxtP R f c) := by
 unfold besideC
 rw [List.find?_filter]
 have key : ∀ l : List Cel, (∀ n ∈ l, p n = (inF f n && nxtP R f c n)) → l.find? p = l.find? (fun n => inF f n && nxtP R f c n) := by
  intro l
  induction l with
  | nil => intro _; rfl
  | cons x r ih => intro h; rw [List.find?_cons, List.find?_cons, h x (by simp), ih fun n hn => h n (by simp [hn])]
 have := key _ hp
 simpa using this
end Go.Proofs.YthiddmncjafklaaGreat
namespace Go.Proofs.YthiddmncjafklaaGreat
set_option linter.all false
open Go.RowKit
theorem To.moveC {k : Nat} {s : St} (bid j id e sz tt : Nat) (cs : List AV) (xs : List (List PV)) (hc : lookC s.h bid = .blk tt cs) (hj : cs[j]? = some (.own id)) (hr : lookC s.h id = .row e sz xs) :
 ToK k s ⟨s.t, (s.n, .row e sz xs) :: (id, .dead) :: (bid, .blk tt (cs.set j (.own s.n))) :: s.h, s.n + 1⟩ := by
 intro H F β a w hk C
 obtain ⟨bd0, hb1, hb2⟩ := C.m.ch bid (by rw [hc]; simp)
 obtain ⟨bd1, hr1, hr2⟩ := C.m.ch id (by rw [hr]; simp)
 have hbn : bid ≠ s.n := fun h => absurd (C.m.used _ _ hb1) (by rw [h]; exact Nat.lt_irrefl _)
 have hin : id ≠ s.n := fun h => absurd (C.m.used _ _ hr1) (by rw [h]; exact Nat.lt_irrefl _)
 have hbi : bid ≠ id := fun h => by rw [h, hr] at hc; simp at hc
 have hb2' := hb2
 rw [hc] at hb2'
 obtain ⟨q1, q2, g0, vs, q3, q4, q5, q6, q7⟩ := hb2'
 obtain ⟨u, hu, hv⟩ := q6.at j _ hj
 simp only [RelA] at hv
 obtain ⟨_, hone, hv⟩ := hv
 obtain rfl := hv bd1 hr1
 obtain ⟨M, E⟩ := C.m.step (w' := w) (h' := lookC ((s.n, .row e sz xs) :: (id, .dead) :: (bid, .blk tt (cs.set j (.own s.n))) :: s.h)) (β' := updB (updB β id none) s.n (some bd1)) (F' := F) (U' := (· < s.n + 1)) (fun i => i = s.n ∨ i = id ∨ i = bid)
  (fun i hi => by simp only [not_or] at hi; simp [updB, Ne.symm hi.1, Ne.symm hi.2.1]) (fun i hi => by simp only [not_or] at hi; simp [lookC, Ne.symm hi.1, Ne.symm hi.2.1, Ne.symm hi.2.2]) rfl rfl rfl (Nat.le_refl _) (fun _ _ _ => rfl) (fun i hi => Nat.lt_succ_of_lt hi) (fun b hb => hb)
  (fun b hb => ⟨C.m.fin b hb, .inl hb⟩)
  (fun i bd' hi hu hb => by
   rcases hi with rfl | rfl | rfl
   ·exact absurd hu (Nat.lt_irrefl _)
   ·simp [updB, Ne.symm hin] at hb
   ·simpa [updB, Ne.symm hbn, Ne.symm hbi] using hb)
  (fun i bd' hi hb => by
   rcases hi with rfl | rfl | rfl
   ·simp only [updB, if_true, Option.some.injEq] at hb
    subst hb
    refine ⟨Nat.lt_succ_self _, fun b hbb => ?_⟩
    obtain ⟨r1, r2, r3⟩ := C.m.off _ _ _ hr1 hbb
    exact ⟨r2, r1, .inr ⟨id, bd1, .inr (.inl rfl), hr1, hbb⟩⟩
   ·simp [updB, Ne.symm hin] at hb
   ·have hb' : β i = some bd' := by simpa [updB, Ne.symm hbn, Ne.symm hbi] using hb
    refine ⟨Nat.lt_succ_of_lt (C.m.used _ _ hb'), fun b hbb => ?_⟩
    obtain ⟨p1, p2, p3⟩ := C.m.off _ _ _ hb' hbb
    exact ⟨p2, p1, .inr ⟨i, bd', .inr (.inr rfl), hb', hbb⟩⟩)
  (fun i j' bi bj b hi hj' hbi2 hbj h1 h2 => by
   have old : ∀ i' bd', i' = bid → (updB (updB β id none) s.n (some bd1)) i' = some bd' → β bid = some bd' := by
    intro i' bd' h hb; subst h; simpa [updB, Ne.symm hbn, Ne.symm hbi] using hb
   rcases hi with rfl | rfl | rfl <;> rcases hj' with rfl | rfl | rfl
   ·rfl
   ·simp [updB, Ne.symm hin] at hbj
   ·simp only [updB, if_true, Option.some.injEq] at hbi2; subst hbi2
    have := C.m.dis id j' bd1 bj b hr1 (old _ _ rfl hbj) h1 h2
    exact absurd this.symm hbi
   ·simp [updB, Ne.symm hin] at hbi2
   ·rfl
   ·simp [updB, Ne.symm hin] at hbi2
   ·simp only [updB, if_true, Option.some.injEq] at hbj; subst hbj
    have := C.m.dis i id bi bd1 b (old _ _ rfl hbi2) hr1 h1 h2
    exact absurd this hbi
   ·simp [updB, Ne.symm hin] at hbj
   ·rfl)
  (fun E i hi hd => by
   rcases hi with rfl | rfl | rfl
   ·refine ⟨bd1, by simp [updB], ?_⟩
    have hr3 := ChOk.mono E (fun g _ => rfl) hr2
    rw [hr] at hr3
    simp only [lookC, if_true]
    exact hr3
   ·simp [lookC, Ne.symm hin] at hd
   ·refine ⟨bd0, by simpa [updB, Ne.symm hbn, Ne.symm hbi] using hb1, ?_⟩
    have hb3 := ChOk.mono E (fun g _ => rfl) hb2
    rw [hc] at hb3
    simp only [lookC, if_true, Ne.symm hbn, Ne.symm hbi, if_false]
    obtain ⟨q1, q2, g, vs', q3', q4, q5', q6', q7⟩ := hb3
    have hg : g = g0 := by rw [q3] at q3'; exact (Option.some.inj q3').symm
    subst hg
    have hvs : vs' = vs := by rw [q5] at q5'; simpa using q5'.symm
    subst hvs
    refine ⟨by rw [List.length_set]; exact q1, q2, g, vs', q3', q4, q5', RelL.setAt j q6' (fun u hu2 => ?_), q7⟩
    rw [hu] at hu2
    obtain rfl := Option.some.inj hu2
    simp only [RelA]
    refine ⟨Nat.lt_succ_self _, hone, fun bd hb => ?_⟩
    simp only [updB, if_true, Option.some.injEq] at hb
    subst hb; rfl)
 refine ⟨F, _, fun t' => RelA.mono E _ _ (C.t t'), M, C.nt, C.d, C.f, C.g, fun i bd' hi hb => ?_, Nat.le_succ_of_le C.k⟩
 have h1 : s.n ≠ i := by have := C.k; omega
 by_cases h2 : id = i
 ·subst h2; simp [updB, h1] at hb
 ·exact C.e i bd' hi (by simpa [updB, h1, h2] using hb)
end Go.Proofs.YthiddmncjafklaaGreat
namespace Go.Proofs.YthiddmncjafklaaGreat
set_option linter.all false
open Go.RowKit
def endG (ops : Array Oper) (n : Nat) (K : St → Prop) (acc : List (List Nat × List Nat)) (s' : St) : Prop := drawOk ops acc = true ∧ K ⟨s'.t, s'.h, n + 4 * ops.size⟩
theorem drawG_w {P : Program} {nt : Nat} {ops : Array Oper} {K : St → Prop} {t : List (Nat × AV)} {h : List (Nat × Chunk)} {n : Nat} (ds : List (Option Tmp)) (hds : ops.toList.map (fun o : Oper => o.dst) = ds)
 (G : ∀ (O : Array Oper) (l : List Oper) (R : List (List Nat × List Nat) → St → Prop), l = ops.toList → (∀ j : Nat, (O[j]?).bind (fun o : Oper => o.dst) = (ds[j]?).bind id) → R = endG ops n K → drawL P nt O n 0 l [] R ⟨t, h, n⟩) : DrawG P nt ops K ⟨t, h, n⟩ := by
 refine G ops ops.toList _ rfl (fun j => ?_) rfl
 rw [← hds, List.getElem?_map, Array.getElem?_toList]
 cases ops[j]? <;> rfl
theorem peelD {P : Program} {nt : Nat} {O : Array Oper} {n i : Nat} {o : Oper} {r0 : List Oper} {acc : List (List Nat × List Nat)} {R : List (List Nat × List Nat) → St → Prop} {s : St}
 (G : ∀ r, r = r0 → drawL P nt O n i (o :: r) acc R s) : drawL P nt O n i (o :: r0) acc R s := G r0 rfl
theorem endD {P : Program} {nt : Nat} {O : Array Oper} {n i : Nat} {acc : List (List Nat × List Nat)} {R : List (List Nat × List Nat) → St → Prop} {t : List (Nat × AV)} {h : List (Nat × Chunk)} {m : Nat} (G : R acc ⟨t, h, m⟩) : drawL P nt O n i [] acc R ⟨t, h, m⟩ := G
theorem endE {ops : Array Oper} {n : Nat} {K : St → Prop} {acc : List (List Nat × List Nat)} {t : List (Nat × AV)} {h : List (Nat × Chunk)} {m : Nat} (G1 : drawOk ops acc = true) (G2 : K ⟨t, h, n + 4 * ops.size⟩) : endG ops n K acc ⟨t, h, m⟩ := ⟨G1, G2⟩
end Go.Proofs.YthiddmncjafklaaGreat
namespace Go.Proofs.YthiddmncjafklaaGreat
set_option linter.all false
open Go.RowKit
set_option maxRecDepth 100000
set_option maxHeartbeats 2000000
def idxG (f : Fld) (c : Cel) : Nat := if inF f c = true then idxN f c else 0
theorem idxG_in {f : Fld} {c : Cel} (h : inF f c = true) : idxG f c = idxN f c := if_pos h
theorem idxG_lt {f : Fld} (hf : fldE f = 0) (c : Cel) : idxG f c < f.p.length := by
 have hfo := fldE_ok hf
 unfold idxG
 split
 ·rename_i h
  have := place_ix hf h
  unfold idxN; omega
 ·have h1 : 0 < f.w * f.h := Int.mul_pos (by omega) (by omega)
  omega
theorem pindexG_s (f : Fld) (b : Cel) (far : List Int) (q : List Nod) (c : Cel) (hf : fldE f = 0) (hc : (costC f c).2 = true) : Spec Tryz.prog 137 [.fel 7 [srPV f b far q] 0 0, celA c] [] (I .i64 (idxG f c)) [] := by
 have hin : inF f c = true := by
  cases hi : inF f c with
  | true => rfl
  | false => unfold costC at hc; rw [hi] at hc; simp at hc
 rw [idxG_in hin]; exact pindex_s f b far q c hf hin
theorem sides_cells (c : Cel) (k : Nat) (hk : k < 4) : List.take 2 (List.drop (k * 2) ([I .i64 c.x, I .i64 (c.y - 1), I .i64 (c.x - 1), I .i64 c.y, I .i64 (c.x + 1), I .i64 c.y, I .i64 c.x, I .i64 (c.y + 1)] : List AV)) = [I .i64 ((sidesC c).getD k default).x, I .i64 ((sidesC c).getD k default).y] := by
 have : k = 0 ∨ k = 1 ∨ k = 2 ∨ k = 3 := by omega
 rcases this with rfl | rfl | rfl | rfl <;> rfl
theorem side_near {f : Fld} {c : Cel} (hf : fldE f = 0) (hc : inF f c = true) (k : Nat) (hk : k < 4) : (-1000 ≤ ((sidesC c).getD k default).x ∧ ((sidesC c).getD k default).x ≤ 1000) ∧ -1000 ≤ ((sidesC c).getD k default).y ∧ ((sidesC c).getD k default).y ≤ 1000 := by
 have h1 := inF_iff.1 hc
 have h2 := fldE_ok hf
 have : k = 0 ∨ k = 1 ∨ k = 2 ∨ k = 3 := by omega
 rcases this with rfl | rfl | rfl | rfl <;> simp only [sidesC, List.getD_cons_zero, List.getD_cons_succ] <;> omega
theorem runF_go {f : Fld} {b : Cel} {fr : List Int} {m : List Nod} (h : 0 < m.length ∧ (fr.getD (idxN f b) default < 0 ∨ (m.getD 0 default).all ≤ fr.getD (idxN f b) default)) (M : Nat) : runF f b (M + 1) fr m = if 0 ≤ fr.getD (idxN f (m.getD 0 default).c) default then runF f b M fr (hpop Nod.all m)
 else runF f b M (fr.set (idxN f (m.getD 0 default).c) (m.getD 0 default).far) (lookF f b (fr.set (idxN f (m.getD 0 default).c) (m.getD 0 default).far) (m.getD 0 default).far (hpop Nod.all m) (sidesC (m.getD 0 default).c)) := by
 rw [runF, if_pos h]
theorem runF_no {f : Fld} {b : Cel} {fr : List Int} {m : List Nod} (h : ¬ (0 < m.length ∧ (fr.getD (idxN f b) default < 0 ∨ (m.getD 0 default).all ≤ fr.getD (idxN f b) default))) (M : Nat) : runF f b M fr m = (fr, m) := by
 cases M with
 | zero => rfl
 | succ M => rw [runF, if_neg h]
theorem prun_s (f : Fld) (b : Cel) {W H : Nat} (hw : f.w = (W : Int)) (hh : f.h = (H : Int)) (hW : 0 < W) (hf : fldE f = 0) (hL : f.p.length = W * H) (hb : inF f b = true) (a N : Nat) (far : List Int) (q : List Nod) (hA : As W f.p a (fun n => leftH b (celW W n)) far q (fun _ _ => True)) (hm : muS f far q ≤ N) (hN : N ≤ 100000) : Spec Tryz.prog 163 [.ptr 0 0 0] [.blk 197 [I .i64 f.w, I .i64 f.h, .c (.sl 1 (f.p.map i64P)), I .i64 b.x, I .i64 b.y, .own 1, .own 2], .row 3 1 (far.map i64P), .row 241 4 (q.map nodP)] (.tup []) [.blk 197 [I .i64 f.w, I .i64 f.h, .c (.sl 1 (f.p.map i64P)), I .i64 b.x, I .i64 b.y, .own 1, .own 3], .row 3 1 ((runF f b N far q).1.map i64P), .dead, .row 241 4 ((runF f b N far q).2.map nodP)] := by
 have hbW : idxN f b < f.p.length := (in_celW hw hh hW hf hb).2
 have hbi := inF_iff.1 hb
 have hfo := fldE_ok hf
 have hpl := (place_ix hf hb).2.2.2.2
 refine spec_am Tryz.func163 rfl rfl mix 108 rfl [] Tryz.results163 (Nat.le_of_ble_eq_true rfl) ?_
 (iterate 2 ((try simp (etaStruct := .none) only [push_cast, Int.cast_ofNat_Int, seval]); (try (refine xsu ?_; try exact xtI))))
 refine callB (pindex_s f b far q b hf hb) (WkL.refl _) rfl ?_
 (iterate 2 ((try simp (etaStruct := .none) only [push_cast, Int.cast_ofNat_Int, seval]); (try (refine xsu ?_; try exact xtI))))
 refine loopI (fun x : Nat × List Int × List Nod => ⟨[(2, I .i64 (idxN f b)), (0, .ptr 0 0 0)], [(0, .blk 197 [I .i64 f.w, I .i64 f.h, .c (.sl 1 (f.p.map i64P)), I .i64 b.x, I .i64 b.y, .own 1, .own 3]), (1, .row 3 1 (x.2.1.map i64P)), (2, .dead), (3, .row 241 4 (x.2.2.map nodP))], 4⟩) (fun x : Nat × List Int × List Nod => As W f.p a (fun n => leftH b (celW W n)) x.2.1 x.2.2 (fun _ _ => True) ∧ muS f x.2.1 x.2.2 ≤ x.1 ∧ x.1 ≤ N ∧ runF f b x.1 x.2.1 x.2.2 = runF f b N far q) (fun x : Nat × List Int × List Nod => x.1) ((N, far, q)) (⟨hA, hm, Nat.le_refl _, rfl⟩) ((To.moveC 0 6 2 241 4 197 _ (q.map nodP) rfl rfl rfl).trans (To.mk [0, 1, 2, 3] rfl rfl (by decide) ?_ ?_)) ?_
 ·simp (etaStruct := .none) only [push_cast, DrawG, Int.cast_ofNat_Int, seval, List.set_cons_zero, List.set_cons_succ]
 ·simp (etaStruct := .none) only [push_cast, DrawG, Int.cast_ofNat_Int, seval]
 rintro ⟨M, fr, m⟩ ⟨hA, hm, hMN, hu⟩
 simp only at hA hm hMN hu
 have hbF : idxN f b < fr.length := by rw [hA.len]; exact hbW
 rcases Nat.eq_zero_or_pos m.length with hz | hz
 ·obtain rfl := List.length_eq_zero_iff.1 hz
  have e : runF f b M fr [] = (fr, []) := by
   cases M with
   | zero => rfl
   | succ M => rw [runF, if_neg (fun h => by simp at h)]
  simp only [awp, seqK]
  refine drawG_w _ rfl ?_
  intro O l R hl hd hR
  subst hl
  iterate 4 (refine peelD fun r hr => ?_; simp (etaStruct := .none) only [push_cast, DrawG, Int.cast_ofNat_Int, seval, hd]; subst hr)
  refine peelD fun r hr => ?_
  simp (etaStruct := .none) only [push_cast, DrawG, Int.cast_ofNat_Int, seval, hd]
  refine callB (olen_s []) (WkL.refl _) rfl ?_
  simp (etaStruct := .none) only [push_cast, DrawG, Int.cast_ofNat_Int, seval, hd, List.length_nil, Int.ofNat_zero, Int.lt_irrefl]
  subst hr
  iterate 28 (refine peelD fun r hr => ?_; simp (etaStruct := .none) only [push_cast, DrawG, Int.cast_ofNat_Int, seval, hd, getD_in _ _ _ hbF, i64P, List.length_nil, Int.ofNat_zero, Int.lt_irrefl, id]; (try refine ⟨fun h => absurd h (by decide), ?_⟩); (try refine ⟨fun h => h.elim, ?_⟩); subst hr)
  refine endD ?_
  subst hR
  refine endE (by kernel_rfl) ?_
  simp (etaStruct := .none) only [push_cast, DrawG, Int.cast_ofNat_Int, seval]
  refine cond_i (fun h1 => ?_) (fun h1 => ?_)
  ·exact absurd h1 (by decide)
  ·rw [← hu, e]
   (try (refine xst ?_; try exact xtI))
   refine retM [0, 1, 2, 3] rfl rfl (by decide) ⟨?_, ?_, ?_, ?_, trivial⟩ trivial ?_ <;> simp (etaStruct := .none) only [push_cast, DrawG, Int.cast_ofNat_Int, seval]
 have hzd : (0 < (m.length : Int)) = True := eq_true (by omega)
 have hmu5 : m.length ≤ 100000 := by unfold muS at hm; omega
 (iterate 2 ((try simp (etaStruct := .none) only [push_cast, Int.cast_ofNat_Int, seval, hzd, getD_in _ _ _ hbF, getD_in _ _ _ hz, i64P, nodP]); (try (refine xsu ?_; try exact xtI))))
 refine drawG_w [some 14, some 15, some 16, some 17, some 18, some 19, some 20, some 21, some 22, some 23, some 24, some 25, some 26, some 27, some 28, some 29, some 30, some 31, some 32, some 33, some 34, some 35, some 36, some 37, some 38, some 39, some 40, some 41, some 42, some 43, some 44, some 45, some 46] rfl ?_
 intro Oq lq Rq hlq hdq hRq
 subst hlq
 iterate 4 (refine peelD fun rq hrq => ?_; (iterate 2 ((try simp (etaStruct := .none) only [push_cast, Int.cast_ofNat_Int, seval, hdq, id, hzd, getD_in _ _ _ hbF, getD_in _ _ _ hz, i64P, nodP]); (try (refine xsu ?_; try exact xtI)))); subst hrq)
 refine peelD fun rq hrq => ?_
 (iterate 2 ((try simp (etaStruct := .none) only [push_cast, Int.cast_ofNat_Int, seval, hdq, id, hzd, getD_in _ _ _ hbF, getD_in _ _ _ hz, i64P, nodP]); (try (refine xsu ?_; try exact xtI))))
 refine callB (olen_s m) (WkL.refl _) rfl ?_
 (iterate 2 ((try simp (etaStruct := .none) only [push_cast, Int.cast_ofNat_Int, seval, hdq, id, hzd, getD_in _ _ _ hbF, getD_in _ _ _ hz, i64P, nodP]); (try (refine xsu ?_; try exact xtI))))
 subst hrq
 iterate 28 (refine peelD fun rq hrq => ?_; (iterate 2 ((try simp (etaStruct := .none) only [push_cast, Int.cast_ofNat_Int, seval, hdq, id, hzd, getD_in _ _ _ hbF, getD_in _ _ _ hz, i64P, nodP]); (try (refine xsu ?_; try exact xtI)))); subst hrq)
 refine endD ?_
 subst hRq
 clear hdq Oq
 refine endE (by kernel_rfl) ?_
 (iterate 2 ((try simp (etaStruct := .none) only [push_cast, Int.cast_ofNat_Int, seval, hzd, getD_in _ _ _ hbF, getD_in _ _ _ hz, i64P, nodP]); (try (refine xsu ?_; try exact xtI))))
 refine cond_i (fun h1 => ?_) (fun h1 => ?_)
 ·(try replace h1 := xhh h1)
  have hg : goB f b fr m := ⟨hz, h1⟩
  obtain ⟨p, e1, hp, j0, jb, _⟩ := hA.itm _ ((hpop_mem Nod.all m hz _).2 (.inl rfl))
  obtain ⟨hin, hidx⟩ := celW_in (f := f) hw hh hW (p := p) (by omega)
  rw [← e1] at hin hidx
  have hpF : idxN f (m.getD 0 default).c < fr.length := by rw [hidx, hA.len]; exact hp
  have hci := inF_iff.1 hin
  have hcl := sumL_le one0 1 one0_le fr
  rw [hA.len] at hcl
  obtain ⟨M', rfl⟩ : ∃ M', M = M' + 1 := ⟨M - 1, by unfold muS at hm; omega⟩
  have hrun := runF_go hg M'
  (iterate 2 ((try simp (etaStruct := .none) only [push_cast, Int.cast_ofNat_Int, seval, hzd, getD_in _ _ _ hbF, getD_in _ _ _ hz, i64P, nodP, getD_in _ _ _ hpF]); (try (refine xsu ?_; try exact xtI))))
  refine caM [0, 1, 3] (ohpop_s f b fr m hz (by omega)) ?_
  (iterate 2 ((try simp (etaStruct := .none) only [push_cast, Int.cast_ofNat_Int, seval, hzd, getD_in _ _ _ hbF, getD_in _ _ _ hz, i64P, nodP, getD_in _ _ _ hpF]); (try (refine xsu ?_; try exact xtI))))
  refine drawG_w [some 53, some 54, some 55, some 56, some 57, some 58, some 59, some 60, some 61, some 62, some 63] rfl ?_
  intro Oq lq Rq hlq hdq hRq
  subst hlq
  iterate 7 (refine peelD fun rq hrq => ?_; (iterate 2 ((try simp (etaStruct := .none) only [push_cast, Int.cast_ofNat_Int, seval, hdq, id, hzd, getD_in _ _ _ hbF, getD_in _ _ _ hz, i64P, nodP, getD_in _ _ _ hpF]); (try (refine xsu ?_; try exact xtI)))); subst hrq)
  refine peelD fun rq hrq => ?_
  (iterate 2 ((try simp (etaStruct := .none) only [push_cast, Int.cast_ofNat_Int, seval, hdq, id, hzd, getD_in _ _ _ hbF, getD_in _ _ _ hz, i64P, nodP, getD_in _ _ _ hpF]); (try (refine xsu ?_; try exact xtI))))
  refine callB (pindex_s f b fr (hpop Nod.all m) (m.getD 0 default).c hf hin) (WkL.refl _) rfl ?_
  (iterate 2 ((try simp (etaStruct := .none) only [push_cast, Int.cast_ofNat_Int, seval, hdq, id, hzd, getD_in _ _ _ hbF, getD_in _ _ _ hz, i64P, nodP, getD_in _ _ _ hpF]); (try (refine xsu ?_; try exact xtI))))
  subst hrq
  iterate 3 (refine peelD fun rq hrq => ?_; (iterate 2 ((try simp (etaStruct := .none) only [push_cast, Int.cast_ofNat_Int, seval, hdq, id, hzd, getD_in _ _ _ hbF, getD_in _ _ _ hz, i64P, nodP, getD_in _ _ _ hpF]); (try (refine xsu ?_; try exact xtI)))); subst hrq)
  refine endD ?_
  subst hRq
  clear hdq Oq
  refine endE (by kernel_rfl) ?_
  (iterate 2 ((try simp (etaStruct := .none) only [push_cast, Int.cast_ofNat_Int, seval, hzd, getD_in _ _ _ hbF, getD_in _ _ _ hz, i64P, nodP, getD_in _ _ _ hpF]); (try (refine xsu ?_; try exact xtI))))
  refine cond_i (fun h2 => ?_) (fun h2 => ?_)
  ·(try replace h2 := xhh h2)
   skip
   (iterate 2 ((try simp (etaStruct := .none) only [push_cast, Int.cast_ofNat_Int, seval, hzd, getD_in _ _ _ hbF, getD_in _ _ _ hz, i64P, nodP, getD_in _ _ _ hpF]); (try (refine xsu ?_; try exact xtI))))
   refine ⟨(M', fr, hpop Nod.all m), ⟨hA.skip hz e1 (by rw [← hidx]; exact h2), by simp only; unfold muS at hm ⊢; rw [hpop_len]; omega, by simp only; omega, by rw [← hu, hrun, if_pos h2]⟩, by simp only; omega, To.mk [0, 1, 2, 136] rfl rfl (by decide) ?_ ?_⟩
   ·(iterate 2 ((try simp (etaStruct := .none) only [push_cast, Int.cast_ofNat_Int, seval, hzd, getD_in _ _ _ hbF, getD_in _ _ _ hz, i64P, nodP, getD_in _ _ _ hpF]); (try (refine xsu ?_; try exact xtI))))
   ·(iterate 2 ((try simp (etaStruct := .none) only [push_cast, Int.cast_ofNat_Int, seval, hzd, getD_in _ _ _ hbF, getD_in _ _ _ hz, i64P, nodP, getD_in _ _ _ hpF]); (try (refine xsu ?_; try exact xtI))))
  ·(try replace h2 := xhh h2)
   obtain ⟨p', e1', _, _, _, hA2, hself, cnt, top, hb3⟩ := close_ok hw hh hW hf hL b hA hz (by omega)
   obtain rfl : p = p' := celW_inj (e1.symm.trans e1')
   obtain ⟨C, hC⟩ : ∃ C, C = (m.getD 0 default).c := ⟨_, rfl⟩
   obtain ⟨D, hD⟩ : ∃ D, D = (m.getD 0 default).far := ⟨_, rfl⟩
   rw [← hidx, ← hC, ← hD] at hA2 hself cnt top hb3
   rw [← hC, ← hD] at hrun
   rw [← hC] at hin hci e1 hidx hpF
   rw [← hD] at j0 jb
   obtain ⟨Fq, hFS⟩ : ∃ Fq, Fq = fr.set (idxN f C) D := ⟨_, rfl⟩
   rw [← hFS] at hA2 hself cnt top hb3 hrun
   have hFl : Fq.length = f.p.length := by rw [hFS, List.length_set]; exact hA.len
   (iterate 2 ((try simp (etaStruct := .none) only [push_cast, Int.cast_ofNat_Int, seval, hzd, getD_in _ _ _ hbF, getD_in _ _ _ hz, i64P, nodP, getD_in _ _ _ hpF, ← hC, ← hD]); (try (refine xsu ?_; try exact xtI))))
   refine drawG_w [some 64, some 65, some 66, some 67, some 68, some 69, some 70, some 71, some 72, some 73, some 74, none] rfl ?_
   intro Oq lq Rq hlq hdq hRq
   subst hlq
   iterate 7 (refine peelD fun rq hrq => ?_; (iterate 2 ((try simp (etaStruct := .none) only [push_cast, Int.cast_ofNat_Int, seval, hdq, id, hzd, getD_in _ _ _ hbF, getD_in _ _ _ hz, i64P, nodP, getD_in _ _ _ hpF, ← hC, ← hD]); (try (refine xsu ?_; try exact xtI)))); subst hrq)
   refine peelD fun rq hrq => ?_
   (iterate 2 ((try simp (etaStruct := .none) only [push_cast, Int.cast_ofNat_Int, seval, hdq, id, hzd, getD_in _ _ _ hbF, getD_in _ _ _ hz, i64P, nodP, getD_in _ _ _ hpF, ← hC, ← hD]); (try (refine xsu ?_; try exact xtI))))
   refine callB (pindex_s f b fr (hpop Nod.all m) C hf hin) (WkL.refl _) rfl ?_
   (iterate 2 ((try simp (etaStruct := .none) only [push_cast, Int.cast_ofNat_Int, seval, hdq, id, hzd, getD_in _ _ _ hbF, getD_in _ _ _ hz, i64P, nodP, getD_in _ _ _ hpF, ← hC, ← hD]); (try (refine xsu ?_; try exact xtI))))
   subst hrq
   iterate 4 (refine peelD fun rq hrq => ?_; (iterate 2 ((try simp (etaStruct := .none) only [push_cast, Int.cast_ofNat_Int, seval, hdq, id, hzd, getD_in _ _ _ hbF, getD_in _ _ _ hz, i64P, nodP, getD_in _ _ _ hpF, ← hC, ← hD]); (try (refine xsu ?_; try exact xtI)))); subst hrq)
   refine endD ?_
   subst hRq
   clear hdq Oq
   refine endE (by kernel_rfl) ?_
   (iterate 2 ((try simp (etaStruct := .none) only [push_cast, Int.cast_ofNat_Int, seval, hzd, getD_in _ _ _ hbF, getD_in _ _ _ hz, i64P, nodP, getD_in _ _ _ hpF, ← hC, ← hD]); (try (refine xsu ?_; try exact xtI))))
   refine caP (psides_s C (by omega) (by omega)) ?_
   (iterate 2 ((try simp (etaStruct := .none) only [push_cast, Int.cast_ofNat_Int, seval, hzd, getD_in _ _ _ hbF, getD_in _ _ _ hz, i64P, nodP, getD_in _ _ _ hpF, ← hC, ← hD]); (try (refine xsu ?_; try exact xtI))))
   refine loopI (fun k : Nat => ⟨[(78, I .i64 k), (77, .agg [I .i64 C.x, I .i64 (C.y - 1), I .i64 (C.x - 1), I .i64 C.y, I .i64 (C.x + 1), I .i64 C.y, I .i64 C.x, I .i64 (C.y + 1)]), (3, .ptr 4 0 0), (2, I .i64 (idxN f b)), (0, .ptr 0 0 0)], [(0, .blk 197 [I .i64 f.w, I .i64 f.h, .c (.sl 1 (f.p.map i64P)), I .i64 b.x, I .i64 b.y, .own 1, .own 3]), (1, .row 3 1 (Fq.map i64P)), (2, .dead), (3, .row 241 4 ((lookF f b Fq D (hpop Nod.all m) ((sidesC C).take k)).map nodP)), (4, .blk 241 [I .i64 C.x, I .i64 C.y, I .i64 D, I .i64 (m.getD 0 default).all])], 5⟩) (fun k : Nat => k ≤ 4) (fun k : Nat => 4 - k) (0) (Nat.zero_le _) (To.mk [0, 1, 2, 136, 137] rfl rfl (by decide) ?_ ?_) ?_
   ·simp (etaStruct := .none) only [push_cast, DrawG, Int.cast_ofNat_Int, seval, List.map_set, i64P, List.take_zero, lookF, List.foldl_nil, hFS]
   ·simp (etaStruct := .none) only [push_cast, DrawG, Int.cast_ofNat_Int, seval, Int.ofNat_zero]
   rintro k hk2
   (iterate 2 ((try simp (etaStruct := .none) only [push_cast, Int.cast_ofNat_Int, seval, hzd, getD_in _ _ _ hbF, getD_in _ _ _ hz, i64P, nodP, getD_in _ _ _ hpF, ← hC, ← hD]); (try (refine xsu ?_; try exact xtI))))
   refine cond_i (fun h3 => ?_) (fun h3 => ?_)
   ·(try replace h3 := xhh h3)
    have hlt : k < 4 := by omega
    have hsc := sides_cells C k hlt
    have hsn := side_near hf hin k hlt
    have hst : lookF f b Fq D (hpop Nod.all m) ((sidesC C).take (k + 1)) = lk f b Fq D (lookF f b Fq D (hpop Nod.all m) ((sidesC C).take k)) ((sidesC C).getD k default) := by rw [take_snoc _ _ (show k < (sidesC C).length from hlt), lookF_snoc]
    have hgG : idxG f ((sidesC C).getD k default) < Fq.length := by rw [hFl]; exact idxG_lt hf _
    have hcb : 0 ≤ (costC f ((sidesC C).getD k default)).1 ∧ (costC f ((sidesC C).getD k default)).1 ≤ 3 := by
     have := kV_b (placeV f ((sidesC C).getD k default))
     unfold costC
     split
     ·split <;> simp only <;> omega
     ·simp only; omega
    have hql : ((lookF f b Fq D (hpop Nod.all m) ((sidesC C).take k))).length ≤ 100004 := by
     have h1 := lookF_len f b Fq D ((sidesC C).take k) (hpop Nod.all m)
     rw [hpop_len, List.length_take] at h1
     omega
    (iterate 2 ((try simp (etaStruct := .none) only [push_cast, Int.cast_ofNat_Int, seval, hzd, getD_in _ _ _ hbF, getD_in _ _ _ hz, i64P, nodP, getD_in _ _ _ hpF, ← hC, ← hD, hsc, getD_in _ _ _ hgG, i64P]); (try (refine xsu ?_; try exact xtI))))
    refine callB (pcost_s f b Fq (lookF f b Fq D (hpop Nod.all m) ((sidesC C).take k)) ((sidesC C).getD k default) hf) (WkL.refl _) rfl ?_
    (iterate 2 ((try simp (etaStruct := .none) only [push_cast, Int.cast_ofNat_Int, seval, hzd, getD_in _ _ _ hbF, getD_in _ _ _ hz, i64P, nodP, getD_in _ _ _ hpF, ← hC, ← hD, hsc, getD_in _ _ _ hgG, i64P]); (try (refine xsu ?_; try exact xtI))))
    refine drawG_w [some 87, some 88, some 89, some 90, some 91, some 92, some 93, some 94, some 95, some 96, some 97, some 98, some 99] rfl ?_
    intro Oq lq Rq hlq hdq hRq
    subst hlq
    iterate 8 (refine peelD fun rq hrq => ?_; (iterate 2 ((try simp (etaStruct := .none) only [push_cast, Int.cast_ofNat_Int, seval, hdq, id, hzd, getD_in _ _ _ hbF, getD_in _ _ _ hz, i64P, nodP, getD_in _ _ _ hpF, ← hC, ← hD, hsc, getD_in _ _ _ hgG, i64P]); (try (refine xsu ?_; try exact xtI)))); subst hrq)
    refine peelD fun rq hrq => ?_
    (iterate 2 ((try simp (etaStruct := .none) only [push_cast, Int.cast_ofNat_Int, seval, hdq, id, hzd, getD_in _ _ _ hbF, getD_in _ _ _ hz, i64P, nodP, getD_in _ _ _ hpF, ← hC, ← hD, hsc, getD_in _ _ _ hgG, i64P]); (try (refine xsu ?_; try exact xtI))))
    refine gcallB (fun hcc => pindexG_s f b Fq (lookF f b Fq D (hpop Nod.all m) ((sidesC C).take k)) ((sidesC C).getD k default) hf hcc) (WkL.refl _) rfl (by intro hc; (try simp (etaStruct := .none) only [push_cast, DrawG, Int.cast_ofNat_Int, seval]); (try simp_all)) ?_
    (iterate 2 ((try simp (etaStruct := .none) only [push_cast, Int.cast_ofNat_Int, seval, hdq, id, hzd, getD_in _ _ _ hbF, getD_in _ _ _ hz, i64P, nodP, getD_in _ _ _ hpF, ← hC, ← hD, hsc, getD_in _ _ _ hgG, i64P]); (try (refine xsu ?_; try exact xtI))))
    subst hrq
    iterate 4 (refine peelD fun rq hrq => ?_; (iterate 2 ((try simp (etaStruct := .none) only [push_cast, Int.cast_ofNat_Int, seval, hdq, id, hzd, getD_in _ _ _ hbF, getD_in _ _ _ hz, i64P, nodP, getD_in _ _ _ hpF, ← hC, ← hD, hsc, getD_in _ _ _ hgG, i64P]); (try (refine xsu ?_; try exact xtI)))); subst hrq)
    refine endD ?_
    subst hRq
    clear hdq Oq
    refine endE (by kernel_rfl) ?_
    (iterate 2 ((try simp (etaStruct := .none) only [push_cast, Int.cast_ofNat_Int, seval, hzd, getD_in _ _ _ hbF, getD_in _ _ _ hz, i64P, nodP, getD_in _ _ _ hpF, ← hC, ← hD, hsc, getD_in _ _ _ hgG, i64P]); (try (refine xsu ?_; try exact xtI))))
    refine cond_i (fun h4 => ?_) (fun h4 => ?_)
    ·(try replace h4 := xhh h4)
     have hin2 : inF f ((sidesC C).getD k default) = true := by
      cases hi : inF f ((sidesC C).getD k default) with
      | true => rfl
      | false => have := h4.1; unfold costC at this; rw [hi] at this; simp at this
     have hlk : lk f b Fq D (lookF f b Fq D (hpop Nod.all m) ((sidesC C).take k)) ((sidesC C).getD k default) = hpush Nod.all (lookF f b Fq D (hpop Nod.all m) ((sidesC C).take k)) ⟨((sidesC C).getD k default), D + (costC f ((sidesC C).getD k default)).1, D + (costC f ((sidesC C).getD k default)).1 + leftH b ((sidesC C).getD k default)⟩ := by unfold lk; rw [if_pos ⟨h4.1, by rw [← idxG_in hin2]; exact h4.2⟩]
     rw [hlk] at hst
     (iterate 2 ((try simp (etaStruct := .none) only [push_cast, Int.cast_ofNat_Int, seval, hzd, getD_in _ _ _ hbF, getD_in _ _ _ hz, i64P, nodP, getD_in _ _ _ hpF, ← hC, ← hD, hsc, getD_in _ _ _ hgG, i64P, hst]); (try (refine xsu ?_; try exact xtI))))
     refine caM [0, 1, 3] (ppush_s f b Fq (lookF f b Fq D (hpop Nod.all m) ((sidesC C).take k)) ((sidesC C).getD k default) (D + (costC f ((sidesC C).getD k default)).1) (by omega) hsn.1 hsn.2 (by omega) (by omega) (by omega)) ?_
     (iterate 2 ((try simp (etaStruct := .none) only [push_cast, Int.cast_ofNat_Int, seval, hzd, getD_in _ _ _ hbF, getD_in _ _ _ hz, i64P, nodP, getD_in _ _ _ hpF, ← hC, ← hD, hsc, getD_in _ _ _ hgG, i64P, hst]); (try (refine xsu ?_; try exact xtI))))
     refine ⟨k + 1, by omega, by omega, To.mk [0, 1, 2, 58, 4] rfl rfl (by decide) ?_ ?_⟩
     ·(iterate 2 ((try simp (etaStruct := .none) only [push_cast, Int.cast_ofNat_Int, seval, hzd, getD_in _ _ _ hbF, getD_in _ _ _ hz, i64P, nodP, getD_in _ _ _ hpF, ← hC, ← hD, hsc, getD_in _ _ _ hgG, i64P, hst]); (try (refine xsu ?_; try exact xtI))))
     ·(iterate 2 ((try simp (etaStruct := .none) only [push_cast, Int.cast_ofNat_Int, seval, hzd, getD_in _ _ _ hbF, getD_in _ _ _ hz, i64P, nodP, getD_in _ _ _ hpF, ← hC, ← hD, hsc, getD_in _ _ _ hgG, i64P, hst]); (try (refine xsu ?_; try exact xtI))))
    ·(try replace h4 := xhh h4)
     have hlk : lk f b Fq D (lookF f b Fq D (hpop Nod.all m) ((sidesC C).take k)) ((sidesC C).getD k default) = (lookF f b Fq D (hpop Nod.all m) ((sidesC C).take k)) := by
      unfold lk
      rw [if_neg]
      rintro ⟨c1, c2⟩
      have hin2 : inF f ((sidesC C).getD k default) = true := by
       cases hi : inF f ((sidesC C).getD k default) with
       | true => rfl
       | false => unfold costC at c1; rw [hi] at c1; simp at c1
      rw [← idxG_in hin2] at c2
      rcases h4 with h4 | h4
      ·rw [c1] at h4; exact absurd h4 (by decide)
      ·omega
     rw [hlk] at hst
     (iterate 2 ((try simp (etaStruct := .none) only [push_cast, Int.cast_ofNat_Int, seval, hzd, getD_in _ _ _ hbF, getD_in _ _ _ hz, i64P, nodP, getD_in _ _ _ hpF, ← hC, ← hD, hsc, getD_in _ _ _ hgG, i64P, hst]); (try (refine xsu ?_; try exact xtI))))
     refine ⟨k + 1, by omega, by omega, To.mk [0, 1, 2, 3, 4] rfl rfl (by decide) ?_ ?_⟩
     ·(iterate 2 ((try simp (etaStruct := .none) only [push_cast, Int.cast_ofNat_Int, seval, hzd, getD_in _ _ _ hbF, getD_in _ _ _ hz, i64P, nodP, getD_in _ _ _ hpF, ← hC, ← hD, hsc, getD_in _ _ _ hgG, i64P, hst]); (try (refine xsu ?_; try exact xtI))))
     ·(iterate 2 ((try simp (etaStruct := .none) only [push_cast, Int.cast_ofNat_Int, seval, hzd, getD_in _ _ _ hbF, getD_in _ _ _ hz, i64P, nodP, getD_in _ _ _ hpF, ← hC, ← hD, hsc, getD_in _ _ _ hgG, i64P, hst]); (try (refine xsu ?_; try exact xtI))))
   ·(try replace h3 := xhh h3)
    obtain rfl : k = 4 := by omega
    have ht4 : (sidesC C).take 4 = sidesC C := rfl
    have hpc : idxN f C < f.p.length := by omega
    have h4 := look_k hw hh hW hf hL b hA2 hpc hself j0 top hb3 4 (Nat.le_refl _)
    rw [hidx, ← e1, ht4, ← hidx] at h4
    have h5 := look_all hw hh hW hL hpc h4
    have hll := lookF_len f b Fq D (sidesC C) (hpop Nod.all m)
    rw [hpop_len, show (sidesC C).length = 4 from rfl] at hll
    have hcl2 := sumL_le one0 1 one0_le Fq
    rw [hFl] at hcl2
    (iterate 2 ((try simp (etaStruct := .none) only [push_cast, Int.cast_ofNat_Int, seval, hzd, getD_in _ _ _ hbF, getD_in _ _ _ hz, i64P, nodP, getD_in _ _ _ hpF, ← hC, ← hD, ht4]); (try (refine xsu ?_; try exact xtI))))
    refine ⟨(M', Fq, lookF f b Fq D (hpop Nod.all m) (sidesC C)), ⟨h5, by simp only; unfold muS at hm ⊢; omega, by simp only; omega, by rw [← hu, hrun, if_neg (by rw [hC]; omega)]⟩, by simp only; omega, To.mk [0, 1, 2, 3] rfl rfl (by decide) ?_ ?_⟩
    ·(iterate 2 ((try simp (etaStruct := .none) only [push_cast, Int.cast_ofNat_Int, seval, hzd, getD_in _ _ _ hbF, getD_in _ _ _ hz, i64P, nodP, getD_in _ _ _ hpF, ← hC, ← hD, ht4]); (try (refine xsu ?_; try exact xtI))))
    ·(iterate 2 ((try simp (etaStruct := .none) only [push_cast, Int.cast_ofNat_Int, seval, hzd, getD_in _ _ _ hbF, getD_in _ _ _ hz, i64P, nodP, getD_in _ _ _ hpF, ← hC, ← hD, ht4]); (try (refine xsu ?_; try exact xtI))))
 ·(try replace h1 := xhh h1)
  rw [← hu, runF_no (fun h => by have := h.2; omega) M]
  (iterate 2 ((try simp (etaStruct := .none) only [push_cast, Int.cast_ofNat_Int, seval, hzd, getD_in _ _ _ hbF, getD_in _ _ _ hz, i64P, nodP]); (try (refine xsu ?_; try exact xtI))))
  refine retM [0, 1, 2, 3] rfl rfl (by decide) ⟨?_, ?_, ?_, ?_, trivial⟩ trivial ?_ <;> simp (etaStruct := .none) only [push_cast, DrawG, Int.cast_ofNat_Int, seval]
end Go.Proofs.YthiddmncjafklaaGreat
namespace Go.Proofs.YthiddmncjafklaaGreat
set_option linter.all false
open Go.RowKit
set_option maxRecDepth 100000
set_option maxHeartbeats 2000000
theorem oqpush0_s (f : Fld) (b : Cel) (far : List Int) (x : Nod) : Spec Tryz.prog 205 [.ptr 0 0 6, .ifc 241 (nodA x)] [.blk 197 [I .i64 f.w, I .i64 f.h, .c (.sl 1 (f.p.map i64P)), I .i64 b.x, I .i64 b.y, .own 1, .c (.v (.slice none 0 0))], .row 3 1 (far.map i64P)] (.tup []) [.blk 197 [I .i64 f.w, I .i64 f.h, .c (.sl 1 (f.p.map i64P)), I .i64 b.x, I .i64 b.y, .own 1, .own 2], .row 3 1 (far.map i64P), .row 241 4 ([x].map nodP)] := by
 refine spec_am Tryz.func205 rfl rfl mix 13 rfl [] Tryz.results205 (Nat.le_of_ble_eq_true rfl) ?_
 (try (refine xst ?_; try exact xtI))
 (try (refine ⟨by kernel_rfl, ?_⟩))
 (try (refine xst ?_; try exact xtI))
 refine retM [0, 1, 30] rfl rfl (by decide) ⟨?_, ?_, ?_, trivial⟩ trivial ?_ <;> simp (etaStruct := .none) only [push_cast, DrawG, Int.cast_ofNat_Int, seval, nodP]
theorem ohpush0_s (f : Fld) (b : Cel) (far : List Int) (x : Nod) : Spec Tryz.prog 173 [.ifc 239 (.ptr 0 0 6), .ifc 241 (nodA x)] [.blk 197 [I .i64 f.w, I .i64 f.h, .c (.sl 1 (f.p.map i64P)), I .i64 b.x, I .i64 b.y, .own 1, .c (.v (.slice none 0 0))], .row 3 1 (far.map i64P)] (.tup []) [.blk 197 [I .i64 f.w, I .i64 f.h, .c (.sl 1 (f.p.map i64P)), I .i64 b.x, I .i64 b.y, .own 1, .own 2], .row 3 1 (far.map i64P), .row 241 4 ((hpush Nod.all [] x).map nodP)] := by
 refine spec_am Tryz.func173 rfl rfl mix 12 rfl [] Tryz.results173 (Nat.le_of_ble_eq_true rfl) ?_
 (try (refine xst ?_; try exact xtI))
 refine caM [0, 1] (oqpush0_s f b far x) ?_
 (try (refine xst ?_; try exact xtI))
 refine callB (olen_s [x]) (WkL.refl _) rfl ?_
 (try (refine xst ?_; try exact xtI))
 refine caM [0, 1, 2] (oup_s f b far [x] 0 (by simp) (by simp)) ?_
 (try (refine xst ?_; try exact xtI))
 refine retM [0, 1, 2] rfl rfl (by decide) ⟨?_, ?_, ?_, trivial⟩ trivial ?_ <;> simp (etaStruct := .none) only [push_cast, DrawG, Int.cast_ofNat_Int, seval, hpush]
abbrev srB (f : Fld) (b : Cel) (x y : AV) : Chunk := .blk 197 [I .i64 f.w, I .i64 f.h, .c (.sl 1 (f.p.map i64P)), I .i64 b.x, I .i64 b.y, x, y]
theorem ppush0_s (f : Fld) (b : Cel) (far : List Int) (c : Cel) (d : Int) (hx : -1000 ≤ c.x ∧ c.x ≤ 1000) (hy : -1000 ≤ c.y ∧ c.y ≤ 1000) (hbx : 0 ≤ b.x ∧ b.x ≤ 40) (hby : 0 ≤ b.y ∧ b.y ≤ 40) (hd : 0 ≤ d ∧ d ≤ 1000000) : Spec Tryz.prog 162 [.ptr 0 0 0, celA c, I .i64 d] [.blk 197 [I .i64 f.w, I .i64 f.h, .c (.sl 1 (f.p.map i64P)), I .i64 b.x, I .i64 b.y, .own 1, .c (.v (.slice none 0 0))], .row 3 1 (far.map i64P)] (.tup []) [.blk 197 [I .i64 f.w, I .i64 f.h, .c (.sl 1 (f.p.map i64P)), I .i64 b.x, I .i64 b.y, .own 1, .own 2], .row 3 1 (far.map i64P), .row 241 4 ((hpush Nod.all [] ⟨c, d, d + leftH b c⟩).map nodP)] := by
 have e1 : IntKind.i64.wrap (d + IntKind.i64.wrap (2 * (((b.x - c.x).natAbs + (b.y - c.y).natAbs : Nat) : Int))) = d + leftH b c := by unfold leftH; rw [wrap_in (2 * _) (by omega) (by omega), wrap_in _ (by omega) (by omega)]
 refine spec_am Tryz.func162 rfl rfl mix 32 rfl [] Tryz.results162 (Nat.le_of_ble_eq_true rfl) ?_
 (iterate 2 ((try simp (etaStruct := .none) only [push_cast, DrawG, Int.cast_ofNat_Int, seval, e1]); (try (refine xsu ?_; try exact xtI))))
 refine caP (lapart_s c b (by simp [nearB]; omega) (by simp [nearB]; omega)) ?_
 (iterate 2 ((try simp (etaStruct := .none) only [push_cast, DrawG, Int.cast_ofNat_Int, seval, e1]); (try (refine xsu ?_; try exact xtI))))
 (try (refine ⟨by kernel_rfl, ?_⟩))
 (iterate 2 ((try simp (etaStruct := .none) only [push_cast, DrawG, Int.cast_ofNat_Int, seval, e1]); (try (refine xsu ?_; try exact xtI))))
 refine callM [0, 1] (ohpush0_s f b far ⟨c, d, d + leftH b c⟩) (WkL.refl _) rfl (by decide) (by simp [lookC_c, onlyC, memN]) ?_
 (iterate 2 ((try simp (etaStruct := .none) only [push_cast, DrawG, Int.cast_ofNat_Int, seval, e1]); (try (refine xsu ?_; try exact xtI))))
 (try (refine ⟨by kernel_rfl, ?_⟩))
 (iterate 2 ((try simp (etaStruct := .none) only [push_cast, DrawG, Int.cast_ofNat_Int, seval, e1]); (try (refine xsu ?_; try exact xtI))))
 refine retM [0, 1, 103] rfl rfl (by decide) ⟨?_, ?_, ?_, trivial⟩ trivial ?_ <;> simp (etaStruct := .none) only [push_cast, DrawG, Int.cast_ofNat_Int, seval]
theorem atV_at {f : Fld} {c : Cel} (hf : fldE f = 0) : atV f c = if inF f c then (placeV f c, 0) else (0, 7) := by unfold atV; rw [if_neg (by simp [hf])]
theorem searched_no (f : Fld) (a b : Cel) (hl : f.p.length ≤ 9223372036854775807) (hE : fldE f ≠ 0 ∨ ¬ (inF f a = true ∧ inF f b = true) ∨ placeV f a = 1 ∨ placeV f b = 1) (R : List Int) : Spec Tryz.prog 134 [fldA f, celA a, celA b] [] (.tup [.c (.v (.pointer none)), I .i64 (wayE R f a b)]) [] := by
 have key : (atV f a).2 ≠ 0 ∧ wayE R f a b = (atV f a).2 ∨ (atV f a).2 = 0 ∧ (atV f b).2 ≠ 0 ∧ wayE R f a b = (atV f b).2 ∨ (atV f a).2 = 0 ∧ (atV f b).2 = 0 ∧ wayE R f a b = 9 ∧ ((atV f a).1 = 1 ∨ (atV f b).1 = 1) := by
  by_cases hf : fldE f = 0
  ·rw [atV_at hf, atV_at hf]
   unfold wayE
   cases ha : inF f a with
   | false => exact .inl ⟨by simp [ha], by simp [ha, hf]⟩
   | true =>
    cases hb : inF f b with
    | false => exact .inr (.inl ⟨by simp [ha], by simp [hb], by simp [hb, hf]⟩)
    | true =>
     rcases hE with h | h | h
     ·exact absurd hf h
     ·exact absurd ⟨ha, hb⟩ h
     ·exact .inr (.inr ⟨by simp [ha], by simp [hb], by simp [ha, hb, hf, h], by simpa [ha, hb] using h⟩)
  ·have e : ∀ c, atV f c = (0, fldE f) := fun c => by unfold atV; rw [if_pos hf]
   rw [e]
   unfold wayE
   rw [if_pos hf]
   exact .inl ⟨hf, rfl⟩
 refine spec_am Tryz.func134 rfl rfl mix 61 rfl [.tmp 6, .tmp 7] Tryz.results134 (Nat.le_of_ble_eq_true rfl) ?_
 (try (refine xst ?_; try exact xtI))
 refine caP (at_s f a hl) ?_
 (try (refine xst ?_; try exact xtI))
 refine cond_i (fun h1 => ?_) (fun h1 => ?_)
 ·(try replace h1 := xhh h1)
  have e : wayE R f a b = (atV f a).2 := by
   rcases key with k | k | k
   ·exact k.2
   ·exact absurd k.1 h1
   ·exact absurd k.1 h1
  (try (refine xst ?_; try exact xtI))
  (first | (refine retA rfl (Wk.of ?_); (try simp (etaStruct := .none) only [push_cast, DrawG, Int.cast_ofNat_Int, seval]); first | done | (simp [e, *]; done) | (simp_all [e]; done)) | (refine retA rfl ?_; (try simp (etaStruct := .none) only [push_cast, DrawG, Int.cast_ofNat_Int, seval]); (try simp [e, *]); (try exact wkc)))
 ·(try replace h1 := xhh h1)
  (try (refine xst ?_; try exact xtI))
  refine caP (at_s f b hl) ?_
  (try (refine xst ?_; try exact xtI))
  refine cond_i (fun h2 => ?_) (fun h2 => ?_)
  ·(try replace h2 := xhh h2)
   have e : wayE R f a b = (atV f b).2 := by
    rcases key with k | k | k
    ·exact absurd h1 k.1
    ·exact k.2.2
    ·exact absurd k.2.1 h2
   (try (refine xst ?_; try exact xtI))
   (first | (refine retA rfl (Wk.of ?_); (try simp (etaStruct := .none) only [push_cast, DrawG, Int.cast_ofNat_Int, seval]); first | done | (simp [e, *]; done) | (simp_all [e]; done)) | (refine retA rfl ?_; (try simp (etaStruct := .none) only [push_cast, DrawG, Int.cast_ofNat_Int, seval]); (try simp [e, *]); (try exact wkc)))
  ·(try replace h2 := xhh h2)
   (try (refine xst ?_; try exact xtI))
   refine cond_i (fun h3 => ?_) (fun h3 => ?_)
   ·(try replace h3 := xhh h3)
    have e : wayE R f a b = 9 := by
     rcases key with k | k | k
     ·exact absurd h1 k.1
     ·exact absurd h2 k.2.1
     ·exact k.2.2.1
    (try (refine xst ?_; try exact xtI))
    (first | (refine retA rfl (Wk.of ?_); (try simp (etaStruct := .none) only [push_cast, DrawG, Int.cast_ofNat_Int, seval]); first | done | (simp [e, *]; done) | (simp_all [e]; done)) | (refine retA rfl ?_; (try simp (etaStruct := .none) only [push_cast, DrawG, Int.cast_ofNat_Int, seval]); (try simp [e, *]); (try exact wkc)))
   ·(try replace h3 := xhh h3)
    exfalso
    rcases key with k | k | k
    ·exact absurd h1 k.1
    ·exact absurd h2 k.2.1
    ·have := k.2.2.2; omega
def runS (f : Fld) (a b : Cel) : List Int × List Nod := runF f b 8001 (List.replicate f.p.length (-1)) (hpush Nod.all [] ⟨a, 0, 0 + leftH b a⟩)
theorem muS0 (f : Fld) (x : Nod) (h : f.p.length ≤ 1600) : muS f (List.replicate f.p.length (-1)) (hpush Nod.all [] x) ≤ 8001 := by
 unfold muS; rw [hpush_len]; simp only [List.length_nil]; omega
theorem As0 {f : Fld} {W H : Nat} (hw : f.w = (W : Int)) (hh : f.h = (H : Int)) (hW : 0 < W) (hf : fldE f = 0) (b : Cel) {a : Cel} (ha : inF f a = true) : As W f.p (idxN f a) (fun n => leftH b (celW W n)) (List.replicate f.p.length (-1)) (hpush Nod.all [] ⟨a, 0, 0 + leftH b a⟩) fun _ _ => True := by
 obtain ⟨e, hlt⟩ := in_celW hw hh hW hf ha
 have := As.start (W := W) (pl := f.p) (a := idxN f a) (hh := fun n => leftH b (celW W n)) hlt
 rw [← e] at this
 exact this
theorem fld_nat {f : Fld} (hf : fldE f = 0) : ∃ W H : Nat, f.w = (W : Int) ∧ f.h = (H : Int) ∧ 0 < W ∧ f.p.length = W * H := by
 obtain ⟨⟨w1, w2⟩, ⟨w3, w4⟩, wl, wp⟩ := fldE_ok hf
 obtain ⟨W, hW⟩ : ∃ W : Nat, f.w = (W : Int) := Int.eq_ofNat_of_zero_le (by omega)
 obtain ⟨H, hH⟩ : ∃ H : Nat, f.h = (H : Int) := Int.eq_ofNat_of_zero_le (by omega)
 exact ⟨W, H, hW, hH, by omega, by rw [hW, hH] at wl; exact_mod_cast wl⟩
structure Srch (f : Fld) (a b : Cel) (R : List Int) (W H : Nat) : Prop where
 w : f.w = (W : Int)
 h : f.h = (H : Int)
 w0 : 0 < W
 l : f.p.length = W * H
 r : Flood W f.p [idxN f a] R
 ass : As W f.p (idxN f a) (fun n => leftH b (celW W n)) (runS f a b).1 (runS f a b).2 fun _ _ => True
 no : ¬ goB f b (runS f a b).1 (runS f a b).2
theorem srch {f : Fld} {a b : Cel} {R : List Int} (hf : fldE f = 0) (ha : inF f a = true) (hpa : placeV f a ≠ 1) (hR : FloodIs f [a] R) : ∃ W H, Srch f a b R W H := by
 obtain ⟨W, H, hw, hh, hW, hL⟩ := fld_nat hf
 have hA := run_ok hw hh hW hf hL b 8001 _ _ (As0 hw hh hW hf b ha) (muS0 f _ (place_ix hf ha).2.2.2.2)
 have hlt := (in_celW hw hh hW hf ha).2
 obtain ⟨F, hF⟩ := flood_ex (W := W) (pl := f.p) (s := [idxN f a]) hW (place_ix hf ha).2.2.2.2 (by intro p hp; rw [List.mem_singleton] at hp; rw [hp]; exact hlt)
 have e : floodE f [a] = 0 := by
  unfold floodE srcE srcE
  rw [if_neg (by simp [hf]), if_neg (by simp), if_pos ha, if_neg hpa]
 have := hR.1 e F (by rw [hw, Int.toNat_natCast]; exact hF)
 subst this
 exact ⟨W, H, hw, hh, hW, hL, hF, hA.1, hA.2⟩
theorem Srch.end {f : Fld} {a b : Cel} {R : List Int} {W H : Nat} (s : Srch f a b R W H) (hf : fldE f = 0) (ha : inF f a = true) (hb : inF f b = true) : ((runS f a b).1.getD (idxN f b) default < 0 ↔ R.getD (idxN f b) default < 0) ∧ (0 ≤ R.getD (idxN f b) default → (runS f a b).1.getD (idxN f b) default = R.getD (idxN f b) default ∧ ∀ x ∈ (runS f a b).2, R.getD (idxN f b) default < x.all) := by
 have hcons := hh_cons s.w s.h s.w0 b
 rw [← s.l] at hcons
 have haL := (in_celW s.w s.h s.w0 hf ha).2
 have hbL := (in_celW s.w s.h s.w0 hf hb).2
 have h1 : ∀ h : 0 ≤ (runS f a b).1.getD (idxN f b) default, (runS f a b).1.getD (idxN f b) default = R.getD (idxN f b) default := fun h => s.ass.same hcons haL s.r hbL h
 have h2 : (runS f a b).1.getD (idxN f b) default < 0 → R.getD (idxN f b) default < 0 := fun h => by
  rcases Int.lt_or_le (R.getD (idxN f b) default) 0 with h3 | h3
  ·exact h3
  ·have hq : (runS f a b).2 = [] := by
    have := s.no
    unfold goB at this
    cases hq : (runS f a b).2 with
    | nil => rfl
    | cons x r => exact absurd ⟨by rw [hq]; simp, .inl h⟩ this
   have := s.ass.known hcons haL s.r hbL h3 (by rw [hq]; intro x hx; simp at hx)
   omega
 refine ⟨⟨h2, fun h => ?_⟩, fun h => ?_⟩
 ·rcases Int.lt_or_le ((runS f a b).1.getD (idxN f b) default) 0 with h3 | h3
  ·exact h3
  ·have := h1 h3; omega
 ·have h3 : 0 ≤ (runS f a b).1.getD (idxN f b) default := by
   rcases Int.lt_or_le ((runS f a b).1.getD (idxN f b) default) 0 with h3 | h3
   ·have := h2 h3; omega
   ·exact h3
  have h4 := h1 h3
  refine ⟨h4, fun x hx => ?_⟩
  obtain ⟨k, hk, rfl⟩ := mem_getD.1 hx
  have hle := heap_min _ s.ass.heap k hk
  have := s.no
  unfold goB at this
  rw [h4] at this
  rcases Int.lt_or_le (R.getD (idxN f b) default) ((runS f a b).2.getD k default).all with h5 | h5
  ·exact h5
  ·exact absurd ⟨by omega, .inr (by omega)⟩ this
theorem searched_six (f : Fld) (a b : Cel) (hl : f.p.length ≤ 9223372036854775807) {R : List Int} (hf : fldE f = 0) (ha : inF f a = true) (hb : inF f b = true) (hpa : placeV f a ≠ 1) (hpb : placeV f b ≠ 1) (hR : FloodIs f [a] R) (h0 : R.getD (idxN f b) default < 0) : Spec Tryz.prog 134 [fldA f, celA a, celA b] [] (.tup [.c (.v (.pointer none)), I .i64 6]) [] := by
 obtain ⟨W, H, s⟩ := srch (b := b) hf ha hpa hR
 have hend := s.end hf ha hb
 obtain ⟨hw, hh, hW, hL, hFl, hAe, _⟩ := s
 have hA0 := As0 hw hh hW hf b ha
 have hmu0 := muS0 f ⟨a, 0, 0 + leftH b a⟩ (place_ix hf ha).2.2.2.2
 have hai := inF_iff.1 ha
 have hbi := inF_iff.1 hb
 have hfo := fldE_ok hf
 have hpx := place_ix hf ha
 have hrunS : runF f b 8001 (List.replicate f.p.length (-1)) (hpush Nod.all [] ⟨a, 0, 0 + leftH b a⟩) = runS f a b := rfl
 have hbF : idxN f b < (runS f a b).1.length := by rw [hAe.len]; exact (in_celW hw hh hW hf hb).2
 refine spec_am Tryz.func134 rfl rfl mix 61 rfl [.tmp 6, .tmp 7] Tryz.results134 (Nat.le_of_ble_eq_true rfl) ?_
 (iterate 2 ((try simp (etaStruct := .none) only [push_cast, DrawG, Int.cast_ofNat_Int, seval, Int.ofNat_zero, hrunS, getD_in _ _ _ hbF, i64P]); (try (refine xsu ?_; try exact xtI))))
 refine caP (at_s f a hl) ?_
 rw [atV_at hf, if_pos ha]
 (iterate 2 ((try simp (etaStruct := .none) only [push_cast, DrawG, Int.cast_ofNat_Int, seval, Int.ofNat_zero, hrunS, getD_in _ _ _ hbF, i64P]); (try (refine xsu ?_; try exact xtI))))
 refine cond_i (fun h1 => ?_) (fun h1 => ?_)
 ·(try replace h1 := xhh h1)
  exact absurd h1 (by decide)
 ·(try replace h1 := xhh h1)
  (iterate 2 ((try simp (etaStruct := .none) only [push_cast, DrawG, Int.cast_ofNat_Int, seval, Int.ofNat_zero, hrunS, getD_in _ _ _ hbF, i64P]); (try (refine xsu ?_; try exact xtI))))
  refine caP (at_s f b hl) ?_
  rw [atV_at hf, if_pos hb]
  (iterate 2 ((try simp (etaStruct := .none) only [push_cast, DrawG, Int.cast_ofNat_Int, seval, Int.ofNat_zero, hrunS, getD_in _ _ _ hbF, i64P]); (try (refine xsu ?_; try exact xtI))))
  refine cond_i (fun h2 => ?_) (fun h2 => ?_)
  ·(try replace h2 := xhh h2)
   exact absurd h2 (by decide)
  ·(try replace h2 := xhh h2)
   (iterate 2 ((try simp (etaStruct := .none) only [push_cast, DrawG, Int.cast_ofNat_Int, seval, Int.ofNat_zero, hrunS, getD_in _ _ _ hbF, i64P]); (try (refine xsu ?_; try exact xtI))))
   refine cond_i (fun h3 => ?_) (fun h3 => ?_)
   ·(try replace h3 := xhh h3)
    rcases h3 with h3 | h3
    ·exact absurd h3 hpa
    ·exact absurd h3 hpb
   ·(try replace h3 := xhh h3)
    (iterate 2 ((try simp (etaStruct := .none) only [push_cast, DrawG, Int.cast_ofNat_Int, seval, Int.ofNat_zero, hrunS, getD_in _ _ _ hbF, i64P]); (try (refine xsu ?_; try exact xtI))))
    refine callM [11] (repeat_s f.p.length (by omega) (by omega)) (WkL.refl _) rfl (by decide) (by simp [lookC_c, onlyC, memN]) ?_
    (iterate 2 ((try simp (etaStruct := .none) only [push_cast, DrawG, Int.cast_ofNat_Int, seval, Int.ofNat_zero, hrunS, getD_in _ _ _ hbF, i64P]); (try (refine xsu ?_; try exact xtI))))
    (try (refine ⟨by kernel_rfl, ?_⟩))
    (iterate 2 ((try simp (etaStruct := .none) only [push_cast, DrawG, Int.cast_ofNat_Int, seval, Int.ofNat_zero, hrunS, getD_in _ _ _ hbF, i64P]); (try (refine xsu ?_; try exact xtI))))
    refine caM [35, 27] (ppush0_s f b (List.replicate f.p.length (-1)) a 0 (by omega) (by omega) (by omega) (by omega) (by omega)) ?_
    (iterate 2 ((try simp (etaStruct := .none) only [push_cast, DrawG, Int.cast_ofNat_Int, seval, Int.ofNat_zero, hrunS, getD_in _ _ _ hbF, i64P]); (try (refine xsu ?_; try exact xtI))))
    refine caM [35, 27, 43] (prun_s f b hw hh hW hf hL hb (idxN f a) 8001 (List.replicate f.p.length (-1)) (hpush Nod.all [] ⟨a, 0, 0 + leftH b a⟩) hA0 hmu0 (by decide)) ?_
    (iterate 2 ((try simp (etaStruct := .none) only [push_cast, DrawG, Int.cast_ofNat_Int, seval, Int.ofNat_zero, hrunS, getD_in _ _ _ hbF, i64P]); (try (refine xsu ?_; try exact xtI))))
    refine callB (pindex_s f b (runS f a b).1 (runS f a b).2 b hf hb) (WkL.refl _) rfl ?_
    (iterate 2 ((try simp (etaStruct := .none) only [push_cast, DrawG, Int.cast_ofNat_Int, seval, Int.ofNat_zero, hrunS, getD_in _ _ _ hbF, i64P]); (try (refine xsu ?_; try exact xtI))))
    (try (refine ⟨by kernel_rfl, ?_⟩))
    (iterate 2 ((try simp (etaStruct := .none) only [push_cast, DrawG, Int.cast_ofNat_Int, seval, Int.ofNat_zero, hrunS, getD_in _ _ _ hbF, i64P]); (try (refine xsu ?_; try exact xtI))))
    refine cond_i (fun h4 => ?_) (fun h4 => ?_)
    ·(try replace h4 := xhh h4)
     (iterate 2 ((try simp (etaStruct := .none) only [push_cast, DrawG, Int.cast_ofNat_Int, seval, Int.ofNat_zero, hrunS, getD_in _ _ _ hbF, i64P]); (try (refine xsu ?_; try exact xtI))))
     exact xrz rfl
    ·(try replace h4 := xhh h4)
     exact absurd (hend.1.2 h0) (by omega)
theorem searched_ok (f : Fld) (a b : Cel) (hl : f.p.length ≤ 9223372036854775807) {R : List Int} (hf : fldE f = 0) (ha : inF f a = true) (hb : inF f b = true) (hpa : placeV f a ≠ 1) (hpb : placeV f b ≠ 1) (hR : FloodIs f [a] R) (h0 : 0 ≤ R.getD (idxN f b) default) : Spec Tryz.prog 134 [fldA f, celA a, celA b] [] (.tup [.ptr 0 0 0, I .i64 0]) [srB f b (.own 1) (.own 2), .row 3 1 ((runS f a b).1.map i64P), .row 241 4 ((runS f a b).2.map nodP)] := by
 obtain ⟨W, H, s⟩ := srch (b := b) hf ha hpa hR
 have hend := s.end hf ha hb
 obtain ⟨hw, hh, hW, hL, hFl, hAe, _⟩ := s
 have hA0 := As0 hw hh hW hf b ha
 have hmu0 := muS0 f ⟨a, 0, 0 + leftH b a⟩ (place_ix hf ha).2.2.2.2
 have hai := inF_iff.1 ha
 have hbi := inF_iff.1 hb
 have hfo := fldE_ok hf
 have hpx := place_ix hf ha
 have hrunS : runF f b 8001 (List.replicate f.p.length (-1)) (hpush Nod.all [] ⟨a, 0, 0 + leftH b a⟩) = runS f a b := rfl
 have hbF : idxN f b < (runS f a b).1.length := by rw [hAe.len]; exact (in_celW hw hh hW hf hb).2
 refine spec_am Tryz.func134 rfl rfl mix 61 rfl [.tmp 6, .tmp 7] Tryz.results134 (Nat.le_of_ble_eq_true rfl) ?_
 (iterate 2 ((try simp (etaStruct := .none) only [push_cast, DrawG, Int.cast_ofNat_Int, seval, Int.ofNat_zero, hrunS, getD_in _ _ _ hbF, i64P]); (try (refine xsu ?_; try exact xtI))))
 refine caP (at_s f a hl) ?_
 rw [atV_at hf, if_pos ha]
 (iterate 2 ((try simp (etaStruct := .none) only [push_cast, DrawG, Int.cast_ofNat_Int, seval, Int.ofNat_zero, hrunS, getD_in _ _ _ hbF, i64P]); (try (refine xsu ?_; try exact xtI))))
 refine cond_i (fun h1 => ?_) (fun h1 => ?_)
 ·(try replace h1 := xhh h1)
  exact absurd h1 (by decide)
 ·(try replace h1 := xhh h1)
  (iterate 2 ((try simp (etaStruct := .none) only [push_cast, DrawG, Int.cast_ofNat_Int, seval, Int.ofNat_zero, hrunS, getD_in _ _ _ hbF, i64P]); (try (refine xsu ?_; try exact xtI))))
  refine caP (at_s f b hl) ?_
  rw [atV_at hf, if_pos hb]
  (iterate 2 ((try simp (etaStruct := .none) only [push_cast, DrawG, Int.cast_ofNat_Int, seval, Int.ofNat_zero, hrunS, getD_in _ _ _ hbF, i64P]); (try (refine xsu ?_; try exact xtI))))
  refine cond_i (fun h2 => ?_) (fun h2 => ?_)
  ·(try replace h2 := xhh h2)
   exact absurd h2 (by decide)
  ·(try replace h2 := xhh h2)
   (iterate 2 ((try simp (etaStruct := .none) only [push_cast, DrawG, Int.cast_ofNat_Int, seval, Int.ofNat_zero, hrunS, getD_in _ _ _ hbF, i64P]); (try (refine xsu ?_; try exact xtI))))
   refine cond_i (fun h3 => ?_) (fun h3 => ?_)
   ·(try replace h3 := xhh h3)
    rcases h3 with h3 | h3
    ·exact absurd h3 hpa
    ·exact absurd h3 hpb
   ·(try replace h3 := xhh h3)
    (iterate 2 ((try simp (etaStruct := .none) only [push_cast, DrawG, Int.cast_ofNat_Int, seval, Int.ofNat_zero, hrunS, getD_in _ _ _ hbF, i64P]); (try (refine xsu ?_; try exact xtI))))
    refine callM [11] (repeat_s f.p.length (by omega) (by omega)) (WkL.refl _) rfl (by decide) (by simp [lookC_c, onlyC, memN]) ?_
    (iterate 2 ((try simp (etaStruct := .none) only [push_cast, DrawG, Int.cast_ofNat_Int, seval, Int.ofNat_zero, hrunS, getD_in _ _ _ hbF, i64P]); (try (refine xsu ?_; try exact xtI))))
    (try (refine ⟨by kernel_rfl, ?_⟩))
    (iterate 2 ((try simp (etaStruct := .none) only [push_cast, DrawG, Int.cast_ofNat_Int, seval, Int.ofNat_zero, hrunS, getD_in _ _ _ hbF, i64P]); (try (refine xsu ?_; try exact xtI))))
    refine caM [35, 27] (ppush0_s f b (List.replicate f.p.length (-1)) a 0 (by omega) (by omega) (by omega) (by omega) (by omega)) ?_
    (iterate 2 ((try simp (etaStruct := .none) only [push_cast, DrawG, Int.cast_ofNat_Int, seval, Int.ofNat_zero, hrunS, getD_in _ _ _ hbF, i64P]); (try (refine xsu ?_; try exact xtI))))
    refine caM [35, 27, 43] (prun_s f b hw hh hW hf hL hb (idxN f a) 8001 (List.replicate f.p.length (-1)) (hpush Nod.all [] ⟨a, 0, 0 + leftH b a⟩) hA0 hmu0 (by decide)) ?_
    (iterate 2 ((try simp (etaStruct := .none) only [push_cast, DrawG, Int.cast_ofNat_Int, seval, Int.ofNat_zero, hrunS, getD_in _ _ _ hbF, i64P]); (try (refine xsu ?_; try exact xtI))))
    refine callB (pindex_s f b (runS f a b).1 (runS f a b).2 b hf hb) (WkL.refl _) rfl ?_
    (iterate 2 ((try simp (etaStruct := .none) only [push_cast, DrawG, Int.cast_ofNat_Int, seval, Int.ofNat_zero, hrunS, getD_in _ _ _ hbF, i64P]); (try (refine xsu ?_; try exact xtI))))
    (try (refine ⟨by kernel_rfl, ?_⟩))
    (iterate 2 ((try simp (etaStruct := .none) only [push_cast, DrawG, Int.cast_ofNat_Int, seval, Int.ofNat_zero, hrunS, getD_in _ _ _ hbF, i64P]); (try (refine xsu ?_; try exact xtI))))
    refine cond_i (fun h4 => ?_) (fun h4 => ?_)
    ·(try replace h4 := xhh h4)
     exact absurd (hend.1.1 h4) (by omega)
    ·(try replace h4 := xhh h4)
     (iterate 2 ((try simp (etaStruct := .none) only [push_cast, DrawG, Int.cast_ofNat_Int, seval, Int.ofNat_zero, hrunS, getD_in _ _ _ hbF, i64P]); (try (refine xsu ?_; try exact xtI))))
     refine retM [35, 27, 44] rfl rfl (by decide) ⟨?_, ?_, ?_, trivial⟩ trivial ?_ <;> simp (etaStruct := .none) only [push_cast, DrawG, Int.cast_ofNat_Int, seval]
end Go.Proofs.YthiddmncjafklaaGreat
namespace Go.Proofs.YthiddmncjafklaaGreat
set_option linter.all false
open Go.RowKit
set_option maxRecDepth 100000
set_option maxHeartbeats 1000000
def dropS (l : List Sea) (T : List Nat) : List Sea := (List.range l.length).map fun i => ⟨(l.getD i default).waits.drop (T.getD i default), (lateS (l.getD i default)).late, (l.getD i default).gone⟩
theorem dropS_len (l : List Sea) (T : List Nat) : (dropS l T).length = l.length := by simp [dropS]
theorem dropS_at (l : List Sea) (T : List Nat) (i : Nat) (h : i < l.length) : (dropS l T).getD i default = ⟨(l.getD i default).waits.drop (T.getD i default), (lateS (l.getD i default)).late, (l.getD i default).gone⟩ := by
 rw [getD_at _ _ (by rw [dropS_len]; exact h)]
 simp [dropS]
theorem ext_getD {α : Type} [Inhabited α] {l m : List α} (h : l.length = m.length) (h2 : ∀ i, i < l.length → l.getD i default = m.getD i default) : l = m := by
 refine List.ext_getElem h fun i i1 i2 => ?_
 have := h2 i i1
 rwa [getD_at _ _ i1, getD_at _ _ i2] at this
theorem set_getD {α : Type} [Inhabited α] (l : List α) (i j : Nat) (x : α) (h : i < l.length) : (l.set i x).getD j default = if i = j then x else l.getD j default := by
 by_cases e : i = j
 ·subst e; rw [if_pos rfl, getD_at _ _ (by simpa using h)]; simp
 ·rw [if_neg e, List.getD_eq_getElem?_getD, List.getElem?_set_ne e, List.getD_eq_getElem?_getD]
def TkQ (most : Int) (l : List Sea) (k i : Nat) (o : List Ord) (U : List Nat) : Prop :=
 U.length = l.length ∧ o.length ≤ 100 ∧ (∀ j, j < l.length → U.getD j default ≤ (l.getD j default).waits.length) ∧
 ((o.length : Int) < most → ∀ j, j < l.length → U.getD j default = if j < i then min (k + 1) (l.getD j default).waits.length else min k (l.getD j default).waits.length)
theorem TkQ.t {most : Int} {l : List Sea} {k i : Nat} {o : List Ord} {U : List Nat} (h : TkQ most l k i o U) (hi : i < l.length) (hk : k < (l.getD i default).waits.length) (hm : (o.length : Int) < most) (hm2 : most ≤ 100) (x : Ord) :
 U.getD i default = k ∧ TkQ most l k (i + 1) (o ++ [x]) (U.set i (k + 1)) := by
 obtain ⟨h1, h2, h3, h4⟩ := h
 have e := h4 hm i hi
 rw [if_neg (by omega), Nat.min_eq_left (by omega)] at e
 refine ⟨e, by simp [h1], by simp; omega, fun j hj => ?_, fun hm' j hj => ?_⟩
 ·rw [set_getD _ _ _ _ (by omega)]
  split
  ·rename_i e'; subst e'; omega
  ·exact h3 j hj
 ·have := h4 hm j hj
  rw [set_getD _ _ _ _ (by omega)]
  by_cases e' : i = j
  ·subst e'; rw [if_pos rfl, if_pos (by omega)]; omega
  ·rw [if_neg e', this]
   by_cases e2 : j < i
   ·rw [if_pos e2, if_pos (by omega)]
   ·rw [if_neg e2, if_neg (by omega)]
theorem TkQ.f {most : Int} {l : List Sea} {k i : Nat} {o : List Ord} {U : List Nat} (h : TkQ most l k i o U) (hi : i < l.length) (hc : ¬ (k < (l.getD i default).waits.length ∧ (o.length : Int) < most)) : TkQ most l k (i + 1) o U ∧ ¬ (0 < ((dropS l U).getD i default).waits.length ∧ (o.length : Int) < most) := by
 obtain ⟨h1, h2, h3, h4⟩ := h
 refine ⟨⟨h1, h2, h3, fun hm j hj => ?_⟩, ?_⟩
 ·rw [h4 hm j hj]
  by_cases e : j = i
  ·subst e; rw [if_neg (by omega), if_pos (by omega)]; omega
  ·by_cases e2 : j < i
   ·rw [if_pos e2, if_pos (by omega)]
   ·rw [if_neg e2, if_neg (by omega)]
 ·rw [dropS_at _ _ _ hi]
  simp only [List.length_drop]
  rintro ⟨h5, h6⟩
  have := h4 h6 i hi
  rw [if_neg (by omega)] at this
  omega
theorem TkQ.next {most : Int} {l : List Sea} {k : Nat} {o : List Ord} {U : List Nat} (h : TkQ most l k l.length o U) : TkQ most l (k + 1) 0 o U := by
 obtain ⟨h1, h2, h3, h4⟩ := h
 refine ⟨h1, h2, h3, fun hm j hj => ?_⟩
 rw [h4 hm j hj, if_pos hj, if_neg (by omega)]
theorem TkQ.zero (most : Int) (l : List Sea) : TkQ most l 0 0 [] (List.replicate l.length 0) := by
 refine ⟨by simp, by simp, fun j hj => ?_, fun _ j hj => ?_⟩ <;> rw [getD_at _ _ (by simpa using hj)] <;> simp
end Go.Proofs.YthiddmncjafklaaGreat
namespace Go.Proofs.YthiddmncjafklaaGreat
set_option linter.all false
open Go.RowKit
set_option maxRecDepth 100000
set_option maxHeartbeats 2000000
def revK {α : Type} [Inhabited α] (k : Nat) (l : List α) : List α := (List.range l.length).map fun i => if i < k ∨ l.length - k ≤ i then l.getD (l.length - 1 - i) default else l.getD i default
theorem revK_len {α : Type} [Inhabited α] (k : Nat) (l : List α) : (revK k l).length = l.length := by simp [revK]
theorem revK_get {α : Type} [Inhabited α] (k : Nat) (l : List α) (i : Nat) (hi : i < l.length) : (revK k l).getD i default = if i < k ∨ l.length - k ≤ i then l.getD (l.length - 1 - i) default else l.getD i default := by
 rw [getD_at _ _ (by rw [revK_len]; exact hi)]; simp [revK]
theorem revK_zero {α : Type} [Inhabited α] (l : List α) : revK 0 l = l := by
 refine ext_getD (revK_len 0 l) fun i hi => ?_
 rw [revK_len] at hi
 rw [revK_get 0 l i hi, if_neg (by omega)]
theorem revK_succ {α : Type} [Inhabited α] (l : List α) (k : Nat) (h : 2 * k + 1 < l.length) : revK (k + 1) l = ((revK k l).set k ((revK k l).getD (l.length - 1 - k) default)).set (l.length - 1 - k) ((revK k l).getD k default) := by
 have hrl := revK_len k l
 refine ext_getD (by simp [revK_len]) fun i hi => ?_
 rw [revK_len] at hi
 rw [set_getD _ _ _ _ (by rw [List.length_set]; omega), set_getD _ _ _ _ (by omega), revK_get _ l i hi, revK_get k l k (by omega), revK_get k l (l.length - 1 - k) (by omega), revK_get k l i hi]
 rw [if_neg (show ¬ (l.length - 1 - k < k ∨ l.length - k ≤ l.length - 1 - k) by omega), if_neg (show ¬ (k < k ∨ l.length - k ≤ k) by omega)]
 by_cases e1 : l.length - 1 - k = i
 ·rw [if_pos e1, if_pos (by omega)]; congr 1; omega
 ·rw [if_neg e1]
  by_cases e2 : k = i
  ·rw [if_pos e2, if_pos (by omega)]; congr 1; omega
  ·rw [if_neg e2]
   by_cases e3 : i < k ∨ l.length - k ≤ i
   ·rw [if_pos e3, if_pos (by omega)]
   ·rw [if_neg e3, if_neg (by omega)]
theorem revK_end {α : Type} [Inhabited α] (l : List α) (k : Nat) (h : l.length ≤ 2 * k + 1) : revK k l = l.reverse := by
 refine ext_getD (by rw [revK_len, List.length_reverse]) fun i hi => ?_
 rw [revK_len] at hi
 rw [revK_get k l i hi, getD_at _ _ (show i < l.reverse.length by simpa using hi), List.getElem_reverse, ← getD_at l _ (show l.length - 1 - i < l.length by omega)]
 by_cases e3 : i < k ∨ l.length - k ≤ i
 ·rw [if_pos e3]
 ·rw [if_neg e3]; congr 1; omega
theorem cel_rev (l : List Cel) (hl : l.length ≤ 1000000) : Spec Tryz.prog 106 [.own 0] [.row 85 2 (l.map celP)] (.tup []) [.row 85 2 (l.reverse.map celP)] := by
 refine spec_am Tryz.func106 rfl rfl mix 28 rfl [] Tryz.results106 (Nat.le_of_ble_eq_true rfl) ?_
 (try (refine xst ?_; try exact xtI))
 refine loopI (fun k : Nat => ⟨[(3, I .i64 ((l.length : Int) - 1 - k)), (2, I .i64 k), (0, .own 0)], [(0, .row 85 2 ((revK k l).map celP))], 1⟩) (fun k : Nat => 2 * k ≤ l.length) (fun k : Nat => l.length - k) (0) (Nat.zero_le _) (To.mk [0] rfl rfl (by decide) ?_ ?_) ?_
 ·simp (etaStruct := .none) only [push_cast, DrawG, Int.cast_ofNat_Int, seval, revK_zero]
 ·(iterate 2 ((try simp (etaStruct := .none) only [push_cast, DrawG, Int.cast_ofNat_Int, seval, Int.ofNat_zero, Int.sub_zero]); (try (refine xsu ?_; try exact xtI))))
 rintro k hk
 have hrl := revK_len k l
 (try (refine xst ?_; try exact xtI))
 refine cond_i (fun h1 => ?_) (fun h1 => ?_)
 ·(try replace h1 := xhh h1)
  obtain ⟨j, hj⟩ : ∃ j : Nat, (l.length : Int) - 1 - k = (j : Int) := Int.eq_ofNat_of_zero_le (by omega)
  have hjn : j = l.length - 1 - k := by omega
  have hs := revK_succ l k (by omega)
  rw [← hjn] at hs
  have hk1 : k < (revK k l).length := by omega
  have hj1 : j < (revK k l).length := by omega
  have hj2 : j < ((revK k l).set k ((revK k l).getD j default)).length := by rw [List.length_set]; omega
  (iterate 2 ((try simp (etaStruct := .none) only [push_cast, DrawG, Int.cast_ofNat_Int, seval, hj, getD_in _ _ _ hk1, getD_in _ _ _ hj1, celP, List.length_set]); (try (refine xsu ?_; try exact xtI))))
  (try (refine ⟨by kernel_rfl, ?_⟩))
  (iterate 2 ((try simp (etaStruct := .none) only [push_cast, DrawG, Int.cast_ofNat_Int, seval, hj, getD_in _ _ _ hk1, getD_in _ _ _ hj1, celP, List.length_set]); (try (refine xsu ?_; try exact xtI))))
  refine ⟨k + 1, by omega, by omega, To.mk [0] rfl rfl (by decide) ?_ ?_⟩
  ·(iterate 2 ((try simp (etaStruct := .none) only [push_cast, DrawG, Int.cast_ofNat_Int, seval, hs, List.map_set, celP]); (try (refine xsu ?_; try exact xtI))))
  ·have e1 : (j : Int) - 1 = (l.length : Int) - 1 - ((k : Int) + 1) := by omega
   (iterate 2 ((try simp (etaStruct := .none) only [push_cast, DrawG, Int.cast_ofNat_Int, seval, e1]); (try (refine xsu ?_; try exact xtI))))
 ·(try replace h1 := xhh h1)
  have hr := revK_end l k (by omega)
  (try (refine xst ?_; try exact xtI))
  refine retM [0] rfl rfl (by decide) ⟨?_, trivial⟩ trivial ?_ <;> simp (etaStruct := .none) only [push_cast, DrawG, Int.cast_ofNat_Int, seval, hr]
def wayD (R : List Int) (f : Fld) (a b : Cel) : Int := if wayE R f a b = 0 then R.getD (idxN f b) default else 0
theorem wayE_cases (R : List Int) (f : Fld) (a b : Cel) : (wayE R f a b ≠ 0 ∧ (fldE f ≠ 0 ∨ ¬ (inF f a = true ∧ inF f b = true) ∨ placeV f a = 1 ∨ placeV f b = 1)) ∨ (fldE f = 0 ∧ inF f a = true ∧ inF f b = true ∧ placeV f a ≠ 1 ∧ placeV f b ≠ 1 ∧ ((wayE R f a b = 6 ∧ R.getD (idxN f b) default < 0) ∨ (wayE R f a b = 0 ∧ 0 ≤ R.getD (idxN f b) default))) := by
 unfold wayE
 by_cases h1 : fldE f = 0
 ·rw [if_neg (by simp [h1])]
  by_cases h2 : inF f a = true ∧ inF f b = true
  ·rw [if_neg (fun h => h h2)]
   by_cases h3 : placeV f a = 1 ∨ placeV f b = 1
   ·rw [if_pos h3]; exact .inl ⟨by decide, .inr (.inr h3)⟩
   ·rw [if_neg h3]
    refine .inr ⟨h1, h2.1, h2.2, fun h => h3 (.inl h), fun h => h3 (.inr h), ?_⟩
    by_cases h4 : R.getD (idxN f b) default < 0
    ·rw [if_pos h4]; exact .inl ⟨rfl, h4⟩
    ·rw [if_neg h4]; exact .inr ⟨rfl, by omega⟩
  ·rw [if_pos h2]; exact .inl ⟨by decide, .inr (.inl h2)⟩
 ·rw [if_pos h1]; exact .inl ⟨h1, .inl h1⟩
end Go.Proofs.YthiddmncjafklaaGreat
namespace Go.Proofs.YthiddmncjafklaaGreat
set_option linter.all false
open Go.RowKit
set_option maxRecDepth 100000
set_option maxHeartbeats 2000000
def PP (f : Fld) (far : List Int) (c n : Cel) : Prop := (costC f n).2 = true ∧ 0 ≤ far.getD (idxN f n) default ∧ far.getD (idxN f n) default + kV (placeV f c) = far.getD (idxN f c) default
instance (f : Fld) (far : List Int) (c n : Cel) : Decidable (PP f far c n) := by unfold PP; infer_instance
section
variable {f : Fld} {a b c : Cel} {R : List Int} {W H : Nat}
theorem way_cost (s : Srch f a b R W H) (hf : fldE f = 0) (hpa : placeV f a ≠ 1) (hc : inF f c = true) (h0 : 0 ≤ R.getD (idxN f c) default) : costC f c = (kV (placeV f c), true) := by
 have epl : placeV f c = f.p.getD (idxN f c) default := rfl
 have : placeV f c ≠ 1 := by
  rw [epl]
  rcases s.r.why _ (in_celW s.w s.h s.w0 hf hc).2 h0 with ⟨w1, _⟩ | ⟨_, _, _, hr, _⟩
  ·rw [List.mem_singleton] at w1; rw [w1]; exact hpa
  ·exact hr
 unfold costC
 rw [if_pos hc, if_neg this]
theorem pp_iff (s : Srch f a b R W H) (hf : fldE f = 0) (ha : inF f a = true) (hb : inF f b = true) (hpa : placeV f a ≠ 1) (hc : inF f c = true) (h0 : 0 ≤ R.getD (idxN f c) default) (hb0 : 0 ≤ R.getD (idxN f b) default) (hcb : R.getD (idxN f c) default + leftH b c ≤ R.getD (idxN f b) default) (hfc : (runS f a b).1.getD (idxN f c) default = R.getD (idxN f c) default) {n : Cel} (hn : n ∈ sidesC c) :
 PP f (runS f a b).1 c n ↔ (inF f n = true ∧ nxtP R f c n = true) :=
 prog_ok s.w s.h s.w0 hf s.l s.r ha hpa hc h0 s.ass hcb ((s.end hf ha hb).2 hb0).2 hfc hn
theorem pp_found (s : Srch f a b R W H) (hf : fldE f = 0) (ha : inF f a = true) (hb : inF f b = true) (hpa : placeV f a ≠ 1) (hc : inF f c = true) (h0 : 0 ≤ R.getD (idxN f c) default) (hb0 : 0 ≤ R.getD (idxN f b) default) (hcb : R.getD (idxN f c) default + leftH b c ≤ R.getD (idxN f b) default) (hfc : (runS f a b).1.getD (idxN f c) default = R.getD (idxN f c) default)
 {k : Nat} (hk : k < 4) (hn : ∀ i, i < k → ¬ PP f (runS f a b).1 c ((sidesC c).getD i default)) (hp : PP f (runS f a b).1 c ((sidesC c).getD k default)) : (sidesC c).getD k default = nxtC R f c := by
 have h4 : (sidesC c).length = 4 := rfl
 have e1 : (sidesC c).find? (fun n => decide (PP f (runS f a b).1 c n)) = some ((sidesC c).getD k default) := by
  rw [List.find?_eq_some_iff_getElem]
  refine ⟨by simpa using hp, k, by omega, (getD_at _ _ (by omega)).symm, fun j hj => ?_⟩
  have := hn j hj
  rw [getD_at _ _ (by omega)] at this
  simpa using this
 have e2 := find_sides (f := f) (R := R) (c := c) (p := fun n => decide (PP f (runS f a b).1 c n)) fun n hn => by
  have := pp_iff s hf ha hb hpa hc h0 hb0 hcb hfc hn
  rw [Bool.eq_iff_iff, decide_eq_true_eq, Bool.and_eq_true]; exact this
 rw [e1] at e2
 unfold nxtC
 rw [← e2]; rfl
theorem pp_ex (s : Srch f a b R W H) (hf : fldE f = 0) (ha : inF f a = true) (hb : inF f b = true) (hpa : placeV f a ≠ 1) (hc : inF f c = true) (h0 : 0 ≤ R.getD (idxN f c) default) (hb0 : 0 ≤ R.getD (idxN f b) default) (hcb : R.getD (idxN f c) default + leftH b c ≤ R.getD (idxN f b) default) (hfc : (runS f a b).1.getD (idxN f c) default = R.getD (idxN f c) default)
 (hca : c ≠ a) (hn : ∀ i, i < 4 → ¬ PP f (runS f a b).1 c ((sidesC c).getD i default)) : False := by
 obtain ⟨_, hm, hin, _, h1, h2⟩ := nxt_ok s.w s.h s.w0 hf s.l s.r ha hc hca h0
 have hms := (List.mem_filter.1 hm).1
 obtain ⟨i, hi, e⟩ := mem_getD.1 hms
 refine hn i hi ?_
 rw [← e] at hms
 rw [pp_iff s hf ha hb hpa hc h0 hb0 hcb hfc hms, e]
 exact ⟨hin, by unfold nxtP; rw [Bool.and_eq_true, decide_eq_true_eq, decide_eq_true_eq]; exact ⟨h1, h2⟩⟩
theorem nxt_step (s : Srch f a b R W H) (hf : fldE f = 0) (ha : inF f a = true) (hb : inF f b = true) (hc : inF f c = true) (h0 : 0 ≤ R.getD (idxN f c) default) (hb0 : 0 ≤ R.getD (idxN f b) default) (hcb : R.getD (idxN f c) default + leftH b c ≤ R.getD (idxN f b) default) (hca : c ≠ a) :
 inF f (nxtC R f c) = true ∧ 0 ≤ R.getD (idxN f (nxtC R f c)) default ∧ R.getD (idxN f (nxtC R f c)) default + 2 ≤ R.getD (idxN f c) default ∧ R.getD (idxN f (nxtC R f c)) default + leftH b (nxtC R f c) ≤ R.getD (idxN f b) default ∧ (runS f a b).1.getD (idxN f (nxtC R f c)) default = R.getD (idxN f (nxtC R f c)) default := by
 obtain ⟨_, hm, hin, hadj, h1, h2⟩ := nxt_ok s.w s.h s.w0 hf s.l s.r ha hc hca h0
 have hkv := kV_b (placeV f c)
 have hcons := hh_cons s.w s.h s.w0 b
 rw [← s.l] at hcons
 obtain ⟨en, hnL⟩ := in_celW s.w s.h s.w0 hf hin
 obtain ⟨ec, hcL⟩ := in_celW s.w s.h s.w0 hf hc
 have hle := hcons _ _ hnL hcL hadj.symm
 simp only at hle
 rw [← en, ← ec] at hle
 refine ⟨hin, h1, by omega, by omega, ?_⟩
 exact s.ass.known hcons (in_celW s.w s.h s.w0 hf ha).2 s.r hnL h1 (fun x hx => by have := ((s.end hf ha hb).2 hb0).2 x hx; rw [← en]; omega)
theorem runS_b (s : Srch f a b R W H) (hl : f.p.length ≤ 1600) (p : Nat) (hp : p < f.p.length) : -1 ≤ (runS f a b).1.getD p default ∧ (runS f a b).1.getD p default ≤ 4800 := by
 have h1 := s.ass.low p hp
 have h2 := s.ass.top p hp
 have h3 := sumL_le one0 1 one0_le (runS f a b).1
 rw [s.ass.len] at h3
 omega
end
theorem cel_ne {c a : Cel} : ¬ (c.x = a.x ∧ c.y = a.y) ↔ c ≠ a := by
 obtain ⟨x, y⟩ := c; obtain ⟨u, v⟩ := a; simp
theorem pfind_s (f : Fld) (a b : Cel) (hl : f.p.length ≤ 9223372036854775807) (R : List Int) (hR : FloodIs f [a] R) : Spec Tryz.prog 91 [fldA f, celA a, celA b] [] (.tup [.c (.sl 2 ((if wayE R f a b = 0 then wayV R f a b else []).map celP)), I .i64 (wayD R f a b), I .i64 (wayE R f a b)]) [] := by
 rcases wayE_cases R f a b with ⟨hE, hbad⟩ | ⟨hf, ha, hb, hpa, hpb, ⟨hE, h0⟩ | ⟨hE, h0⟩⟩
 ·have e : wayD R f a b = 0 := if_neg hE
  rw [if_neg hE]
  refine spec_am Tryz.func91 rfl rfl mix 107 rfl [.tmp 6, .tmp 7, .tmp 8] Tryz.results91 (Nat.le_of_ble_eq_true rfl) ?_
  (try (refine xst ?_; try exact xtI))
  refine caP (searched_no f a b hl hbad R) ?_
  (try (refine xst ?_; try exact xtI))
  refine cond_i (fun h1 => ?_) (fun h1 => ?_)
  ·(try replace h1 := xhh h1)
   skip
   (try (refine xst ?_; try exact xtI))
   (first | (refine retA rfl (Wk.of ?_); (try simp (etaStruct := .none) only [push_cast, DrawG, Int.cast_ofNat_Int, seval]); first | done | (simp [e, *]; done) | (simp_all [e]; done)) | (refine retA rfl ?_; (try simp (etaStruct := .none) only [push_cast, DrawG, Int.cast_ofNat_Int, seval]); (try simp [e, *]); (try exact wkc)))
  ·(try replace h1 := xhh h1)
   exact absurd h1 hE
 ·have e : wayD R f a b = 0 := if_neg (by rw [hE]; decide)
  rw [e, hE, if_neg (by decide)]
  refine spec_am Tryz.func91 rfl rfl mix 107 rfl [.tmp 6, .tmp 7, .tmp 8] Tryz.results91 (Nat.le_of_ble_eq_true rfl) ?_
  (try (refine xst ?_; try exact xtI))
  refine caP (searched_six f a b hl hf ha hb hpa hpb hR h0) ?_
  (try (refine xst ?_; try exact xtI))
  refine cond_i (fun h1 => ?_) (fun h1 => ?_)
  ·(try replace h1 := xhh h1)
   (try (refine xst ?_; try exact xtI))
   exact xrz rfl
  ·(try replace h1 := xhh h1)
   exact absurd h1 (by decide)
 ·have e : wayD R f a b = R.getD (idxN f b) default := if_pos hE
  obtain ⟨W, H, s⟩ := srch (b := b) hf ha hpa hR
  have hend := (s.end hf ha hb).2 h0
  have hbF : idxN f b < (runS f a b).1.length := by rw [s.ass.len]; exact (in_celW s.w s.h s.w0 hf hb).2
  have hpx := place_ix hf ha
  rw [e, hE, if_pos rfl]
  refine spec_am Tryz.func91 rfl rfl mix 107 rfl [.tmp 6, .tmp 7, .tmp 8] Tryz.results91 (Nat.le_of_ble_eq_true rfl) ?_
  (iterate 2 ((try simp (etaStruct := .none) only [push_cast, Int.cast_ofNat_Int, seval]); (try (refine xsu ?_; try exact xtI))))
  refine caM [] (searched_ok f a b hl hf ha hb hpa hpb hR h0) ?_
  (iterate 2 ((try simp (etaStruct := .none) only [push_cast, Int.cast_ofNat_Int, seval]); (try (refine xsu ?_; try exact xtI))))
  refine cond_i (fun h1 => ?_) (fun h1 => ?_)
  ·(try replace h1 := xhh h1)
   exact absurd h1 (by decide)
  ·(try replace h1 := xhh h1)
   (iterate 2 ((try simp (etaStruct := .none) only [push_cast, Int.cast_ofNat_Int, seval]); (try (refine xsu ?_; try exact xtI))))
   refine loopI (fun x : Nat × Cel × List Cel => ⟨[(12, .ptr 5 0 0), (11, .own 6), (9, .ptr 0 0 0), (5, .ptr 4 0 0), (4, .ptr 3 0 0)], [(0, srB f b (.own 1) (.own 2)), (1, .row 3 1 ((runS f a b).1.map i64P)), (2, .row 241 4 ((runS f a b).2.map nodP)), (3, .blk 85 [I .i64 a.x, I .i64 a.y]), (4, .blk 85 [I .i64 b.x, I .i64 b.y]), (5, .blk 85 [I .i64 x.2.1.x, I .i64 x.2.1.y]), (6, .row 85 2 (x.2.2.map celP))], 7⟩) (fun x : Nat × Cel × List Cel => inF f x.2.1 = true ∧ 0 ≤ R.getD (idxN f x.2.1) default ∧ R.getD (idxN f x.2.1) default ≤ x.1 ∧ (runS f a b).1.getD (idxN f x.2.1) default = R.getD (idxN f x.2.1) default ∧ R.getD (idxN f x.2.1) default + leftH b x.2.1 ≤ R.getD (idxN f b) default ∧ x.2.2 ++ wayL R f a x.1 x.2.1 = b :: wayL R f a (R.getD (idxN f b) default).toNat b ∧ x.2.2.length + x.1 ≤ 4801) (fun x : Nat × Cel × List Cel => x.1) (((R.getD (idxN f b) default).toNat, b, [b])) (⟨hb, h0, by simp only; omega, hend.1, by simp only [leftH]; omega, rfl, by have := (runS_b s hpx.2.2.2.2 _ (show idxN f b < f.p.length by rw [← s.ass.len]; exact hbF)).2; rw [hend.1] at this; simp only [List.length_singleton]; omega⟩) (To.mk [3, 4, 5, 1, 2, 7, 6] rfl rfl (by decide) ?_ ?_) ?_
   ·(iterate 2 ((try simp (etaStruct := .none) only [push_cast, DrawG, Int.cast_ofNat_Int, seval, srB, celP]); (try (refine xsu ?_; try exact xtI))))
   ·simp (etaStruct := .none) only [push_cast, DrawG, Int.cast_ofNat_Int, seval]
   rintro ⟨N, c, out⟩ ⟨hc, hc0, hcN, hfc, hcb, hway, hlen⟩
   simp only at hc hc0 hcN hfc hcb hway hlen
   (iterate 2 ((try simp (etaStruct := .none) only [push_cast, Int.cast_ofNat_Int, seval]); (try (refine xsu ?_; try exact xtI))))
   refine cond_i (fun h2 => ?_) (fun h2 => ?_)
   ·(try replace h2 := xhh h2)
    have hca : c ≠ a := cel_ne.1 (fun h => by rcases h2 with h2 | h2; exact h2 h.1; exact h2 h.2)
    have hwc := way_cost s hf hpa hc hc0
    have hci := inF_iff.1 hc
    have hfo := fldE_ok hf
    have hkv := kV_b (placeV f c)
    have hcF : idxN f c < (runS f a b).1.length := by rw [s.ass.len]; exact (in_celW s.w s.h s.w0 hf hc).2
    obtain ⟨n1, n2, n3, n4, n5⟩ := nxt_step s hf ha hb hc hc0 h0 hcb hca
    obtain ⟨M, rfl⟩ : ∃ M, N = M + 1 := ⟨N - 1, by omega⟩
    (iterate 2 ((try simp (etaStruct := .none) only [push_cast, Int.cast_ofNat_Int, seval]); (try (refine xsu ?_; try exact xtI))))
    refine callB (pcost_s f b (runS f a b).1 (runS f a b).2 c hf) (WkL.refl _) rfl ?_
    rw [hwc]
    (iterate 2 ((try simp (etaStruct := .none) only [push_cast, Int.cast_ofNat_Int, seval]); (try (refine xsu ?_; try exact xtI))))
    refine caP (psides_s c (by omega) (by omega)) ?_
    (iterate 2 ((try simp (etaStruct := .none) only [push_cast, Int.cast_ofNat_Int, seval]); (try (refine xsu ?_; try exact xtI))))
    refine loopI (fun k : Nat => ⟨[(43, I .i64 k), (42, .agg [I .i64 c.x, I .i64 (c.y - 1), I .i64 (c.x - 1), I .i64 c.y, I .i64 (c.x + 1), I .i64 c.y, I .i64 c.x, I .i64 (c.y + 1)]), (13, I .i64 (kV (placeV f c))), (12, .ptr 5 0 0), (11, .own 6), (9, .ptr 0 0 0), (5, .ptr 4 0 0), (4, .ptr 3 0 0)], [(0, srB f b (.own 1) (.own 2)), (1, .row 3 1 ((runS f a b).1.map i64P)), (2, .row 241 4 ((runS f a b).2.map nodP)), (3, .blk 85 [I .i64 a.x, I .i64 a.y]), (4, .blk 85 [I .i64 b.x, I .i64 b.y]), (5, .blk 85 [I .i64 c.x, I .i64 c.y]), (6, .row 85 2 (out.map celP))], 7⟩) (fun k : Nat => k ≤ 4 ∧ ∀ i, i < k → ¬ PP f (runS f a b).1 c ((sidesC c).getD i default)) (fun k : Nat => 4 - k) (0) (⟨Nat.zero_le _, fun i h => absurd h (Nat.not_lt_zero _)⟩) (To.mk [0, 1, 2, 3, 4, 5, 6] rfl rfl (by decide) ?_ ?_) ?_
    ·simp (etaStruct := .none) only [push_cast, DrawG, Int.cast_ofNat_Int, seval]
    ·simp (etaStruct := .none) only [push_cast, DrawG, Int.cast_ofNat_Int, seval]
    rintro k ⟨hk, hno⟩
    (iterate 2 ((try simp (etaStruct := .none) only [push_cast, Int.cast_ofNat_Int, seval]); (try (refine xsu ?_; try exact xtI))))
    refine cond_i (fun h3 => ?_) (fun h3 => ?_)
    ·(try replace h3 := xhh h3)
     have hlt : k < 4 := by omega
     have hsc := sides_cells c k hlt
     have hgG : idxG f ((sidesC c).getD k default) < (runS f a b).1.length := by rw [s.ass.len]; exact idxG_lt hf _
     have hbG := runS_b s hpx.2.2.2.2 (idxG f ((sidesC c).getD k default)) (by rw [← s.ass.len]; exact hgG)
     (iterate 2 ((try simp (etaStruct := .none) only [push_cast, Int.cast_ofNat_Int, seval, hsc, getD_in _ _ _ hgG, getD_in _ _ _ hcF, i64P]); (try (refine xsu ?_; try exact xtI))))
     refine callB (pcost_s f b (runS f a b).1 (runS f a b).2 ((sidesC c).getD k default) hf) (WkL.refl _) rfl ?_
     (iterate 2 ((try simp (etaStruct := .none) only [push_cast, Int.cast_ofNat_Int, seval, hsc, getD_in _ _ _ hgG, getD_in _ _ _ hcF, i64P]); (try (refine xsu ?_; try exact xtI))))
     refine drawG_w [some 52, some 53, some 54, some 55, some 56, some 57, some 58, some 59, some 60, some 61, some 62, some 63, some 64, some 65, some 66, some 67, some 68, some 69, some 70, some 71, some 72, some 73, some 74, some 75, some 76, some 77, some 78, some 79, some 80, some 81, some 82, some 83, some 84, some 85, some 86, some 87] rfl ?_
     intro Oq lq Rq hlq hdq hRq
     subst hlq
     iterate 8 (refine peelD fun rq hrq => ?_; (iterate 2 ((try simp (etaStruct := .none) only [push_cast, Int.cast_ofNat_Int, seval, hdq, id, hsc, getD_in _ _ _ hgG, getD_in _ _ _ hcF, i64P]); (try (refine xsu ?_; try exact xtI)))); subst hrq)
     refine peelD fun rq hrq => ?_
     (iterate 2 ((try simp (etaStruct := .none) only [push_cast, Int.cast_ofNat_Int, seval, hdq, id, hsc, getD_in _ _ _ hgG, getD_in _ _ _ hcF, i64P]); (try (refine xsu ?_; try exact xtI))))
     refine gcallB (fun hcc => pindexG_s f b (runS f a b).1 (runS f a b).2 ((sidesC c).getD k default) hf hcc) (WkL.refl _) rfl (by intro hc; (try simp (etaStruct := .none) only [push_cast, DrawG, Int.cast_ofNat_Int, seval]); (try simp_all)) ?_
     (iterate 2 ((try simp (etaStruct := .none) only [push_cast, Int.cast_ofNat_Int, seval, hdq, id, hsc, getD_in _ _ _ hgG, getD_in _ _ _ hcF, i64P]); (try (refine xsu ?_; try exact xtI))))
     subst hrq
     iterate 11 (refine peelD fun rq hrq => ?_; (iterate 2 ((try simp (etaStruct := .none) only [push_cast, Int.cast_ofNat_Int, seval, hdq, id, hsc, getD_in _ _ _ hgG, getD_in _ _ _ hcF, i64P]); (try (refine xsu ?_; try exact xtI)))); subst hrq)
     refine peelD fun rq hrq => ?_
     (iterate 2 ((try simp (etaStruct := .none) only [push_cast, Int.cast_ofNat_Int, seval, hdq, id, hsc, getD_in _ _ _ hgG, getD_in _ _ _ hcF, i64P]); (try (refine xsu ?_; try exact xtI))))
     refine gcallB (fun hcc => pindexG_s f b (runS f a b).1 (runS f a b).2 ((sidesC c).getD k default) hf (by simp only [Bool.and_eq_true] at hcc; exact hcc.1)) (WkL.refl _) rfl (by intro hc; (try simp (etaStruct := .none) only [push_cast, DrawG, Int.cast_ofNat_Int, seval]); (try simp_all)) ?_
     (iterate 2 ((try simp (etaStruct := .none) only [push_cast, Int.cast_ofNat_Int, seval, hdq, id, hsc, getD_in _ _ _ hgG, getD_in _ _ _ hcF, i64P]); (try (refine xsu ?_; try exact xtI))))
     subst hrq
     iterate 10 (refine peelD fun rq hrq => ?_; (iterate 2 ((try simp (etaStruct := .none) only [push_cast, Int.cast_ofNat_Int, seval, hdq, id, hsc, getD_in _ _ _ hgG, getD_in _ _ _ hcF, i64P]); (try (refine xsu ?_; try exact xtI)))); subst hrq)
     refine peelD fun rq hrq => ?_
     (iterate 2 ((try simp (etaStruct := .none) only [push_cast, Int.cast_ofNat_Int, seval, hdq, id, hsc, getD_in _ _ _ hgG, getD_in _ _ _ hcF, i64P]); (try (refine xsu ?_; try exact xtI))))
     refine gcallB (fun hcc => pindex_s f b (runS f a b).1 (runS f a b).2 c hf hc) (WkL.refl _) rfl (by intro hc; (try simp (etaStruct := .none) only [push_cast, DrawG, Int.cast_ofNat_Int, seval]); (try simp_all)) ?_
     (iterate 2 ((try simp (etaStruct := .none) only [push_cast, Int.cast_ofNat_Int, seval, hdq, id, hsc, getD_in _ _ _ hgG, getD_in _ _ _ hcF, i64P]); (try (refine xsu ?_; try exact xtI))))
     subst hrq
     iterate 4 (refine peelD fun rq hrq => ?_; (iterate 2 ((try simp (etaStruct := .none) only [push_cast, Int.cast_ofNat_Int, seval, hdq, id, hsc, getD_in _ _ _ hgG, getD_in _ _ _ hcF, i64P]); (try (refine xsu ?_; try exact xtI)))); subst hrq)
     refine endD ?_
     subst hRq
     clear hdq Oq
     refine endE (by kernel_rfl) ?_
     (iterate 2 ((try simp (etaStruct := .none) only [push_cast, Int.cast_ofNat_Int, seval, hsc, getD_in _ _ _ hgG, getD_in _ _ _ hcF, i64P]); (try (refine xsu ?_; try exact xtI))))
     refine cond_i (fun h4 => ?_) (fun h4 => ?_)
     ·(try replace h4 := xhh h4)
      have hin2 : inF f ((sidesC c).getD k default) = true := by
       cases hi : inF f ((sidesC c).getD k default) with
       | true => rfl
       | false => have := h4.1.1; unfold costC at this; rw [hi] at this; simp at this
      have hPP : PP f (runS f a b).1 c ((sidesC c).getD k default) := ⟨h4.1.1, by rw [← idxG_in hin2]; exact h4.1.2, by rw [← idxG_in hin2]; exact h4.2⟩
      have hnk := pp_found s hf ha hb hpa hc hc0 h0 hcb hfc hlt hno hPP
      rw [wayL, if_neg hca] at hway
      (iterate 2 ((try simp (etaStruct := .none) only [push_cast, Int.cast_ofNat_Int, seval, hsc, getD_in _ _ _ hgG, getD_in _ _ _ hcF, i64P, hnk]); (try (refine xsu ?_; try exact xtI))))
      refine ⟨(M, nxtC R f c, out ++ [nxtC R f c]), ⟨n1, n2, by simp only; omega, n5, n4, by simp only; rw [List.append_assoc]; exact hway, by simp only [List.length_append, List.length_singleton]; omega⟩, by simp only; omega, To.mk [0, 1, 2, 3, 4, 154, 153] rfl rfl (by decide) ?_ ?_⟩
      ·(iterate 2 ((try simp (etaStruct := .none) only [push_cast, DrawG, Int.cast_ofNat_Int, seval, List.map_append, celP]); (try (refine xsu ?_; try exact xtI))))
      ·(iterate 2 ((try simp (etaStruct := .none) only [push_cast, Int.cast_ofNat_Int, seval, hsc, getD_in _ _ _ hgG, getD_in _ _ _ hcF, i64P, hnk]); (try (refine xsu ?_; try exact xtI))))
     ·(try replace h4 := xhh h4)
      have hno2 : ∀ i, i < k + 1 → ¬ PP f (runS f a b).1 c ((sidesC c).getD i default) := fun i hi => by
       rcases Nat.lt_or_ge i k with h | h
       ·exact hno i h
       ·obtain rfl : i = k := by omega
        rintro ⟨p1, p2, p3⟩
        have hin2 : inF f ((sidesC c).getD i default) = true := by
         cases hi : inF f ((sidesC c).getD i default) with
         | true => rfl
         | false => unfold costC at p1; rw [hi] at p1; simp at p1
        rw [← idxG_in hin2] at p2 p3
        rcases h4 with (h4 | h4) | h4
        ·rw [p1] at h4; exact absurd h4 (by decide)
        ·omega
        ·exact h4 p3
      (iterate 2 ((try simp (etaStruct := .none) only [push_cast, Int.cast_ofNat_Int, seval, hsc, getD_in _ _ _ hgG, getD_in _ _ _ hcF, i64P]); (try (refine xsu ?_; try exact xtI))))
      refine ⟨k + 1, ⟨by omega, hno2⟩, by omega, To.mk [0, 1, 2, 3, 4, 5, 6] rfl rfl (by decide) ?_ ?_⟩
      ·(iterate 2 ((try simp (etaStruct := .none) only [push_cast, Int.cast_ofNat_Int, seval, hsc, getD_in _ _ _ hgG, getD_in _ _ _ hcF, i64P]); (try (refine xsu ?_; try exact xtI))))
      ·(iterate 2 ((try simp (etaStruct := .none) (maxSteps := 1000000) only [push_cast, DrawG, Int.cast_ofNat_Int, seval]); (try (refine xsu ?_; try exact xtI))))
    ·(try replace h3 := xhh h3)
     obtain rfl : k = 4 := by omega
     exact (pp_ex s hf ha hb hpa hc hc0 h0 hcb hfc hca hno).elim
   ·(try replace h2 := xhh h2)
    have hca : c = a := Decidable.byContradiction fun h => cel_ne.2 h h2
    have hout : out = b :: wayL R f a (R.getD (idxN f b) default).toNat b := by
     have e0 : wayL R f a N c = [] := by
      cases N with
      | zero => rfl
      | succ N => rw [wayL, if_pos hca]
     rw [← hway, e0, List.append_nil]
    have hov : out.reverse = wayV R f a b := by unfold wayV; rw [hout]
    (iterate 2 ((try simp (etaStruct := .none) only [push_cast, Int.cast_ofNat_Int, seval, getD_in _ _ _ hbF, i64P, hend.1, hov]); (try (refine xsu ?_; try exact xtI))))
    refine caM [6] (cel_rev out (by omega)) ?_
    (iterate 2 ((try simp (etaStruct := .none) only [push_cast, Int.cast_ofNat_Int, seval, getD_in _ _ _ hbF, i64P, hend.1, hov]); (try (refine xsu ?_; try exact xtI))))
    refine drawG_w [some 97, some 98, some 99, some 100, some 101, some 102, some 103, some 104, some 105, some 106, some 6, some 7, some 8] rfl ?_
    intro Oq lq Rq hlq hdq hRq
    subst hlq
    iterate 7 (refine peelD fun rq hrq => ?_; (iterate 2 ((try simp (etaStruct := .none) only [push_cast, Int.cast_ofNat_Int, seval, hdq, id, getD_in _ _ _ hbF, i64P, hend.1, hov]); (try (refine xsu ?_; try exact xtI)))); subst hrq)
    refine peelD fun rq hrq => ?_
    (iterate 2 ((try simp (etaStruct := .none) only [push_cast, Int.cast_ofNat_Int, seval, hdq, id, getD_in _ _ _ hbF, i64P, hend.1, hov]); (try (refine xsu ?_; try exact xtI))))
    refine callB (pindex_s f b (runS f a b).1 (runS f a b).2 b hf hb) (WkL.refl _) rfl ?_
    (iterate 2 ((try simp (etaStruct := .none) only [push_cast, Int.cast_ofNat_Int, seval, hdq, id, getD_in _ _ _ hbF, i64P, hend.1, hov]); (try (refine xsu ?_; try exact xtI))))
    subst hrq
    iterate 5 (refine peelD fun rq hrq => ?_; (iterate 2 ((try simp (etaStruct := .none) only [push_cast, Int.cast_ofNat_Int, seval, hdq, id, getD_in _ _ _ hbF, i64P, hend.1, hov]); (try (refine xsu ?_; try exact xtI)))); subst hrq)
    refine endD ?_
    subst hRq
    clear hdq Oq
    refine endE (by kernel_rfl) ?_
    (iterate 2 ((try simp (etaStruct := .none) only [push_cast, Int.cast_ofNat_Int, seval, getD_in _ _ _ hbF, i64P, hend.1, hov]); (try (refine xsu ?_; try exact xtI))))
    exact xrz rfl
end Go.Proofs.YthiddmncjafklaaGreat
namespace Go.Proofs.YthiddmncjafklaaGreat
set_option linter.all false
open Go.RowKit
theorem Spec.hand {P : Program} {f : FuncId} {args args' : List AV} {hs hs1 hs1' : List Chunk} {r : AV} (k : Nat) (S : Spec P f args' hs1 r hs1') (hk : k ≤ hs.length) (hk1 : hs1'.length = k) (hw : WkL (cvL (List.range k) (nth hs) args) args') (hh : hs1 = (List.range k).map fun id => cvC (List.range k) (nth hs) (nth hs id)) :
 Spec P f args hs r (hs1' ++ List.replicate (hs.length - k) .dead) := by
 obtain ⟨S0, _, S⟩ := S
 refine ⟨S0, by simp; omega, fun w F β vs M hv => ?_⟩
 have hl1 : hs1.length = k := by rw [hh]; simp
 have M1 := (cv_mem M (hT := nth hs) (fun _ _ => rfl) (List.range k) List.nodup_range).here
 have hv1 := hw.run (cvL_run M (hT := nth hs) (fun _ _ => rfl) (List.range k) args vs hv)
 rw [← hh] at M1
 rw [List.length_range] at M1 hv1
 rw [hl1] at S
 have sel : ∀ {i : Nat} {bd : Bind}, selB (List.range k) β i = some bd → i < k ∧ β i = some bd := by
  intro i bd h
  obtain ⟨id, h1, h2⟩ := selB_some h
  have hik : i < k := by have := (List.getElem?_eq_some_iff.1 h1).1; simpa using this
  rw [List.getElem?_range hik] at h1
  obtain rfl := Option.some.inj h1
  exact ⟨hik, h2⟩
 have hin : ∀ b, inB (selB (List.range k) β) b → inB β b := by
  rintro b ⟨i, bd, h1, h2⟩
  exact ⟨i, bd, (sel h1).2, h2⟩
 refine (S w _ _ vs M1 hv1).mono ?_
 rintro e w' ⟨v, F', β', rfl, M2, hr, hF, hF', hβ⟩
 rw [hk1] at M2 hr
 have E : Ext (· < k) F' β' w' (· < (hs1' ++ List.replicate (hs.length - k) Chunk.dead).length) F' (fun i => if i < k then β' i else none) w' :=
  ⟨fun i hi => by simp only [List.length_append, List.length_replicate]; omega, fun b hb => ⟨hb, rfl⟩, fun i bd hi hb => by simpa [hi] using hb⟩
 have low : ∀ {i : Nat} {bd : Bind}, (if i < k then β' i else none) = some bd → i < k ∧ β' i = some bd := by
  intro i bd h
  by_cases hi : i < k
  ·rw [if_pos hi] at h; exact ⟨hi, h⟩
  ·rw [if_neg hi] at h; simp at h
 refine ⟨v, F', fun i => if i < k then β' i else none, rfl, ⟨M2.size, M2.os, M2.tape, M2.output, fun b hb hn => M2.frame b hb (fun h => hn (hin b h)), M2.fin, fun i bd hb => ?_, fun i hd => ?_, fun i j bi bj b hi hj h1 h2 => M2.dis i j bi bj b (low hi).2 (low hj).2 h1 h2, fun i bd b hb hbb => ?_⟩, RelA.mono E _ _ hr, fun b hb => hF b (.inl hb), fun b hb => ?_, fun i bd hi hb => ?_⟩
 ·exact E.u i (low hb).1
 ·have hik : i < k := by
   rcases Nat.lt_or_ge i k with h | h
   ·exact h
   ·exfalso
    apply hd
    unfold nth
    rw [List.getD_eq_getElem?_getD, List.getElem?_append_right (by omega), List.getElem?_replicate]
    split <;> rfl
  have e0 : nth (hs1' ++ List.replicate (hs.length - k) Chunk.dead) i = nth hs1' i := by
   unfold nth
   rw [List.getD_eq_getElem?_getD, List.getElem?_append_left (by omega), List.getD_eq_getElem?_getD]
  rw [e0] at hd ⊢
  obtain ⟨bd, h1, h2⟩ := M2.ch i hd
  exact ⟨bd, by rw [if_pos hik]; exact h1, ChOk.mono E (fun _ _ => rfl) h2⟩
 ·obtain ⟨k1, k2, k3⟩ := M2.off i bd b (low hb).2 hbb
  exact ⟨k1, k2, k3.imp id (hin b)⟩
 ·rcases hF' b hb with h1 | h1 | h1
  ·rcases h1 with h1 | ⟨id, bd, _, _, h2, h3⟩
   ·exact .inl h1
   ·exact .inr (.inr ⟨id, bd, h2, h3⟩)
  ·exact .inr (.inl h1)
  ·exact .inr (.inr (hin b h1))
 ·obtain ⟨h1, h2⟩ := low hb
  exact (sel (hβ i bd h1 h2)).2
theorem look_fz (Z : List Nat) (h : Nat → Chunk) : ∀ (l : List (Nat × AV)) (t : Nat), look (l.map fun p => (p.1, fz Z h p.2)) t = fz Z h (look l t)
 | [], t => by simp only [List.map_nil, look, fz]
 | (k, x) :: r, t => by
  simp only [List.map_cons, look]
  by_cases e : k = t
  ·rw [if_pos e, if_pos e]
  ·rw [if_neg e, if_neg e]; exact look_fz Z h r t
theorem To.frz {k : Nat} {s : St} (Z : List Nat) : ToK k s ⟨s.t.map fun p => (p.1, fz Z (lookC s.h) p.2), deadsOf Z ++ s.h, s.n⟩ := by
 intro H F β a w hk C
 have M := fz_mem C.m Z
 have e : lookC (deadsOf Z ++ s.h) = fzH Z (lookC s.h) := by
  rw [← upd_look, upd_deads]
 refine ⟨fzF Z F β, fzB Z β, fun t => ?_, by rw [e]; exact M, C.nt, C.d.more fun _ hb => .inl hb, fun b hb => .inl (C.f b hb), fun b hb => ?_, fun i bd hi hb => C.e i bd hi (fzB_some hb).2, C.k⟩
 ·simp only [look_fz]
  exact fz_run C.m (fun _ _ => rfl) Z _ _ (C.t t)
 ·rcases hb with h1 | ⟨id, bd, _, h2, h3⟩
  ·exact C.g b h1
  ·exact .inr (C.m.off id bd b h2 h3).2.2
end Go.Proofs.YthiddmncjafklaaGreat
namespace Go.Proofs.YthiddmncjafklaaGreat
set_option linter.all false
open Go.RowKit
set_option maxRecDepth 100000
set_option maxHeartbeats 2000000
theorem wat_s (f : Fld) (R : List Int) (n : Cel) (hf : fldE f = 0) (hn : inF f n = true) (hR : idxN f n < R.length) : Spec Tryz.prog 101 [celA n, .fel 1 [[.sl 1 (R.map i64P)]] 0 0, .fel 3 [[pI f.w, pI f.h, .sl 1 (f.p.map i64P)]] 0 0] [] (I .i64 (R.getD (idxN f n) default)) [] := by
 obtain ⟨i1, i2, i3, i4, i5⟩ := place_ix hf hn
 have hci := inF_iff.1 hn
 have e1 : IntKind.i64.wrap (IntKind.i64.wrap (n.y * f.w) + n.x) = (idxN f n : Int) := by rw [wrap_in (n.y * f.w) (by omega) (by omega), wrap_in _ (by omega) (by omega)]; unfold idxN; omega
 refine spec_am Tryz.func101 rfl rfl mix 16 rfl [.tmp 4] Tryz.results101 (Nat.le_of_ble_eq_true rfl) ?_
 (iterate 2 ((try simp (etaStruct := .none) only [push_cast, DrawG, Int.cast_ofNat_Int, seval, e1, getD_in _ _ _ hR, i64P]); (try (refine xsu ?_; try exact xtI))))
 exact xrz rfl
abbrev watH (f : Fld) (R : List Int) (c : Cel) : List Chunk := [.blk 164 [.clo (.func 101) [] [.ptr 1 0 0, .ptr 2 0 0]], .blk 22 [.c (.sl 1 (R.map i64P))], .blk 24 (fldC f), .blk 85 [I .i64 c.x, I .i64 c.y]]
theorem wnx_s (f : Fld) (R : List Int) (c n : Cel) (hf : fldE f = 0) (hn : inF f n = true) (hc : inF f c = true) (hr : placeV f c ≠ 1) (hR : R.length = f.p.length) (hb : -1 ≤ R.getD (idxN f n) default ∧ R.getD (idxN f n) default ≤ 4800) : Spec Tryz.prog 104 [celA n, .ptr 0 0 0, .ptr 2 0 0, .ptr 3 0 0] (watH f R c) (B (nxtP R f c n)) (watH f R c) := by
 have hnF : idxN f n < R.length := by rw [hR]; have := place_ix hf hn; unfold idxN; omega
 have hcF : idxN f c < R.length := by rw [hR]; have := place_ix hf hc; unfold idxN; omega
 have hkv := kV_b (placeV f c)
 have hpl := (fldE_ok hf).2.2.2 (placeV f c) (getD_mem f.p _ (show (c.y * f.w + c.x).toNat < f.p.length by have := place_ix hf hc; omega))
 have hcost : (if placeV f c = 1 then (-1 : Int) else kV (placeV f c)) = kV (placeV f c) := if_neg hr
 refine spec_am Tryz.func104 rfl rfl mix 24 rfl [.tmp 5] Tryz.results104 (Nat.le_of_ble_eq_true rfl) ?_
 (iterate 2 ((try simp (etaStruct := .none) only [push_cast, Int.cast_ofNat_Int, seval, hcost]); (try (refine xsu ?_; try exact xtI))))
 refine drawG_w [some 6, some 7, some 8, some 9, some 10, some 11, some 12, some 13, some 14, some 15, some 16, some 17, some 18, some 19, some 20, some 21, some 22, some 23, some 5] rfl ?_
 intro Oq lq Rq hlq hdq hRq
 subst hlq
 iterate 2 (refine peelD fun rq hrq => ?_; (iterate 2 ((try simp (etaStruct := .none) only [push_cast, Int.cast_ofNat_Int, seval, hdq, id, hcost]); (try (refine xsu ?_; try exact xtI)))); subst hrq)
 refine peelD fun rq hrq => ?_
 (iterate 2 ((try simp (etaStruct := .none) only [push_cast, Int.cast_ofNat_Int, seval, hdq, id, hcost]); (try (refine xsu ?_; try exact xtI))))
 refine callB (wat_s f R n hf hn hnF) (WkL.refl _) rfl ?_
 (iterate 2 ((try simp (etaStruct := .none) only [push_cast, Int.cast_ofNat_Int, seval, hdq, id, hcost]); (try (refine xsu ?_; try exact xtI))))
 subst hrq
 iterate 4 (refine peelD fun rq hrq => ?_; (iterate 2 ((try simp (etaStruct := .none) only [push_cast, Int.cast_ofNat_Int, seval, hdq, id, hcost]); (try (refine xsu ?_; try exact xtI)))); subst hrq)
 refine peelD fun rq hrq => ?_
 (iterate 2 ((try simp (etaStruct := .none) only [push_cast, Int.cast_ofNat_Int, seval, hdq, id, hcost]); (try (refine xsu ?_; try exact xtI))))
 refine gcallB (fun hcc => wat_s f R n hf hn hnF) (WkL.refl _) rfl (by intro hc; (try simp (etaStruct := .none) only [push_cast, DrawG, Int.cast_ofNat_Int, seval]); (try simp_all)) ?_
 (iterate 2 ((try simp (etaStruct := .none) only [push_cast, Int.cast_ofNat_Int, seval, hdq, id, hcost]); (try (refine xsu ?_; try exact xtI))))
 subst hrq
 iterate 2 (refine peelD fun rq hrq => ?_; (iterate 2 ((try simp (etaStruct := .none) only [push_cast, Int.cast_ofNat_Int, seval, hdq, id, hcost]); (try (refine xsu ?_; try exact xtI)))); subst hrq)
 refine peelD fun rq hrq => ?_
 (iterate 2 ((try simp (etaStruct := .none) only [push_cast, Int.cast_ofNat_Int, seval, hdq, id, hcost]); (try (refine xsu ?_; try exact xtI))))
 refine gcP (fun hcc => place_s f c hf hc) ?_
 (iterate 2 ((try simp (etaStruct := .none) only [push_cast, Int.cast_ofNat_Int, seval, hdq, id, hcost]); (try (refine xsu ?_; try exact xtI))))
 subst hrq
 refine peelD fun rq hrq => ?_
 (iterate 2 ((try simp (etaStruct := .none) only [push_cast, Int.cast_ofNat_Int, seval, hdq, id, hcost]); (try (refine xsu ?_; try exact xtI))))
 refine gcP (fun hcc => costOf_s (placeV f c) hpl) ?_
 (iterate 2 ((try simp (etaStruct := .none) only [push_cast, Int.cast_ofNat_Int, seval, hdq, id, hcost]); (try (refine xsu ?_; try exact xtI))))
 subst hrq
 iterate 3 (refine peelD fun rq hrq => ?_; (iterate 2 ((try simp (etaStruct := .none) only [push_cast, Int.cast_ofNat_Int, seval, hdq, id, hcost]); (try (refine xsu ?_; try exact xtI)))); subst hrq)
 refine peelD fun rq hrq => ?_
 (iterate 2 ((try simp (etaStruct := .none) only [push_cast, Int.cast_ofNat_Int, seval, hdq, id, hcost]); (try (refine xsu ?_; try exact xtI))))
 refine gcallB (fun hcc => wat_s f R c hf hc hcF) (WkL.refl _) rfl (by intro hc; (try simp (etaStruct := .none) only [push_cast, DrawG, Int.cast_ofNat_Int, seval]); (try simp_all)) ?_
 (iterate 2 ((try simp (etaStruct := .none) only [push_cast, Int.cast_ofNat_Int, seval, hdq, id, hcost]); (try (refine xsu ?_; try exact xtI))))
 subst hrq
 iterate 3 (refine peelD fun rq hrq => ?_; (iterate 2 ((try simp (etaStruct := .none) only [push_cast, Int.cast_ofNat_Int, seval, hdq, id, hcost]); (try (refine xsu ?_; try exact xtI)))); subst hrq)
 refine endD ?_
 subst hRq
 clear hdq Oq
 refine endE (by kernel_rfl) ?_
 (iterate 2 ((try simp (etaStruct := .none) only [push_cast, Int.cast_ofNat_Int, seval, hcost]); (try (refine xsu ?_; try exact xtI))))
 refine retM [0, 1, 2, 3] rfl rfl (by decide) ⟨?_, ?_, ?_, ?_, trivial⟩ trivial ?_ <;> simp (etaStruct := .none) only [push_cast, DrawG, Int.cast_ofNat_Int, seval, nxtP]
theorem wix_s (f : Fld) (R : List Int) (c : Cel) (l : List Cel) (hl : l.length ≤ 1000) (hf : fldE f = 0) (hc : inF f c = true) (hr : placeV f c ≠ 1) (hR : R.length = f.p.length) (hn : ∀ n ∈ l, inF f n = true ∧ -1 ≤ R.getD (idxN f n) default ∧ R.getD (idxN f n) default ≤ 4800) : Spec Tryz.prog 103 [.c (.sl 2 (l.map celP)), .clo (.func 104) [] [.ptr 0 0 0, .ptr 2 0 0, .ptr 3 0 0]] (watH f R c) (I .i64 (ixOf (nxtP R f c) l)) (watH f R c) := by
 refine spec_am Tryz.func103 rfl rfl mix 19 rfl [.tmp 4] Tryz.results103 (Nat.le_of_ble_eq_true rfl) ?_
 (try (refine xst ?_; try exact xtI))
 refine loopI (fun k : Nat => ⟨[(8, I .i64 k), (7, I .i64 l.length), (1, .clo (.func 104) [] [.ptr 0 0 0, .ptr 2 0 0, .ptr 3 0 0]), (0, .c (.sl 2 (l.map celP)))], [(0, .blk 164 [.clo (.func 101) [] [.ptr 1 0 0, .ptr 2 0 0]]), (1, .blk 22 [.c (.sl 1 (R.map i64P))]), (2, .blk 24 (fldC f)), (3, .blk 85 [I .i64 c.x, I .i64 c.y])], 4⟩) (fun k : Nat => k ≤ l.length ∧ ∀ j (hj : j < l.length), j < k → nxtP R f c l[j] = false) (fun k : Nat => l.length - k) (0) (⟨Nat.zero_le _, fun j _ h => absurd h (Nat.not_lt_zero _)⟩) (To.mk [0, 1, 2, 3] rfl rfl (by decide) ?_ ?_) ?_
 ·simp (etaStruct := .none) only [push_cast, DrawG, Int.cast_ofNat_Int, seval]
 ·simp (etaStruct := .none) only [push_cast, DrawG, Int.cast_ofNat_Int, seval]
 rintro k ⟨hk, hno⟩
 (try (refine xst ?_; try exact xtI))
 refine cond_i (fun h1 => ?_) (fun h1 => ?_)
 ·(try replace h1 := xhh h1)
  have hlt : k < l.length := by omega
  have hnk := hn _ (getD_mem l k hlt)
  (iterate 2 ((try simp (etaStruct := .none) only [push_cast, DrawG, Int.cast_ofNat_Int, seval, getD_in _ _ _ hlt, celP]); (try (refine xsu ?_; try exact xtI))))
  refine caM [0, 1, 2, 3] (wnx_s f R c (l.getD k default) hf hnk.1 hc hr hR hnk.2) ?_
  (iterate 2 ((try simp (etaStruct := .none) only [push_cast, DrawG, Int.cast_ofNat_Int, seval, getD_in _ _ _ hlt, celP]); (try (refine xsu ?_; try exact xtI))))
  refine cond_i (fun h2 => ?_) (fun h2 => ?_)
  ·(try replace h2 := xhh h2)
   have e := ixOf_hit (nxtP R f c) l k hlt (by rw [← getD_at l k hlt]; exact h2) hno
   rw [e]
   (iterate 2 ((try simp (etaStruct := .none) only [push_cast, DrawG, Int.cast_ofNat_Int, seval, getD_in _ _ _ hlt, celP]); (try (refine xsu ?_; try exact xtI))))
   refine retM [0, 1, 2, 3] rfl rfl (by decide) ⟨?_, ?_, ?_, ?_, trivial⟩ trivial ?_ <;> simp (etaStruct := .none) only [push_cast, DrawG, Int.cast_ofNat_Int, seval]
  ·(try replace h2 := xhh h2)
   have hno2 : ∀ j (hj : j < l.length), j < k + 1 → nxtP R f c l[j] = false := fun j hj h => by
    rcases Nat.lt_or_ge j k with h3 | h3
    ·exact hno j hj h3
    ·obtain rfl : j = k := by omega
     rw [← getD_at l j hj]; exact h2
   (iterate 2 ((try simp (etaStruct := .none) only [push_cast, DrawG, Int.cast_ofNat_Int, seval, getD_in _ _ _ hlt, celP]); (try (refine xsu ?_; try exact xtI))))
   refine ⟨k + 1, ⟨by omega, hno2⟩, by omega, To.mk [0, 1, 2, 3] rfl rfl (by decide) ?_ ?_⟩
   ·(iterate 2 ((try simp (etaStruct := .none) only [push_cast, DrawG, Int.cast_ofNat_Int, seval, getD_in _ _ _ hlt, celP]); (try (refine xsu ?_; try exact xtI))))
   ·(iterate 2 ((try simp (etaStruct := .none) only [push_cast, DrawG, Int.cast_ofNat_Int, seval, getD_in _ _ _ hlt, celP]); (try (refine xsu ?_; try exact xtI))))
 ·(try replace h1 := xhh h1)
  have e := ixOf_miss (nxtP R f c) l (fun j hj => hno j hj (by omega))
  rw [e]
  (try (refine xst ?_; try exact xtI))
  refine retM [0, 1, 2, 3] rfl rfl (by decide) ⟨?_, ?_, ?_, ?_, trivial⟩ trivial ?_ <;> simp (etaStruct := .none) only [push_cast, DrawG, Int.cast_ofNat_Int, seval]
theorem ix_find {α : Type} [Inhabited α] {p : α → Bool} {l : List α} {x : α} (h : l.find? p = some x) : ∃ i : Nat, ixOf p l = (i : Int) ∧ i < l.length ∧ l.getD i default = x := by
 rw [List.find?_eq_some_iff_getElem] at h
 obtain ⟨h1, i, hi, rfl, h2⟩ := h
 exact ⟨i, ixOf_hit p l i hi h1 (fun j hj hji => by simpa using h2 j hji), hi, getD_at _ _ hi⟩
theorem R_bound {f : Fld} {a : Cel} {R : List Int} (hf : fldE f = 0) (ha : inF f a = true) (hpa : placeV f a ≠ 1) (hR : FloodIs f [a] R) {n : Cel} (hn : inF f n = true) : -1 ≤ R.getD (idxN f n) default ∧ R.getD (idxN f n) default ≤ 4800 := by
 obtain ⟨W, H, s⟩ := srch (b := n) hf ha hpa hR
 have hnL := (in_celW s.w s.h s.w0 hf hn).2
 have h1 := s.r.low _ hnL
 refine ⟨h1, ?_⟩
 rcases Int.lt_or_le (R.getD (idxN f n) default) 0 with h | h
 ·omega
 ·have h2 := ((s.end hf ha hn).2 h).1
  have h3 := (runS_b s (place_ix hf ha).2.2.2.2 _ hnL).2
  omega
theorem wayOf_s (f : Fld) (a b : Cel) (hl : f.p.length ≤ 9223372036854775807) (R : List Int) (hR : FloodIs f [a] R) : Spec Tryz.prog 65 [fldA f, celA a, celA b] [] (.tup [.c (.sl 2 ((if wayE R f a b = 0 then wayV R f a b else []).map celP)), I .i64 (wayD R f a b), I .i64 (wayE R f a b)]) [] := by
 have hE6 : fldE f ≠ 0 → wayE R f a b = fldE f := fun h => by unfold wayE; rw [if_pos h]
 refine spec_am Tryz.func65 rfl rfl mix 79 rfl [.tmp 6, .tmp 7, .tmp 8] Tryz.results65 (Nat.le_of_ble_eq_true rfl) ?_
 (try (refine xst ?_; try exact xtI))
 refine caP (fright_s f hl) ?_
 (try (refine xst ?_; try exact xtI))
 refine cond_i (fun h1 => ?_) (fun h1 => ?_)
 ·(try replace h1 := xhh h1)
  have e := hE6 h1
  have e2 : wayD R f a b = 0 := by unfold wayD; rw [if_neg (by rw [e]; exact h1)]
  have e3 : (if wayE R f a b = 0 then wayV R f a b else []) = [] := if_neg (by rw [e]; exact h1)
  rw [e3, e2, e]
  (try (refine xst ?_; try exact xtI))
  exact xrz rfl
 ·(try replace h1 := xhh h1)
  have hf := h1
  (try (refine xst ?_; try exact xtI))
  refine caP (in_s' f a hf) ?_
  (try (refine xst ?_; try exact xtI))
  refine gcP (fun hcc => in_s' f b hf) ?_
  (try (refine xst ?_; try exact xtI))
  refine cond_i (fun h2 => ?_) (fun h2 => ?_)
  ·(try replace h2 := xhh h2)
   have e : wayE R f a b = 7 := by
    unfold wayE
    rw [if_neg (by simp [hf]), if_pos]
    rintro ⟨k1, k2⟩
    rw [k1, k2] at h2
    simp at h2
   have e2 : wayD R f a b = 0 := by unfold wayD; rw [if_neg (by rw [e]; decide)]
   have e3 : (if wayE R f a b = 0 then wayV R f a b else []) = [] := if_neg (by rw [e]; decide)
   rw [e3, e2, e]
   (try (refine xst ?_; try exact xtI))
   exact xrz rfl
  ·(try replace h2 := xhh h2)
   obtain ⟨ha, hb⟩ : inF f a = true ∧ inF f b = true := by simpa using h2
   (try (refine xst ?_; try exact xtI))
   refine caP (place_s f a hf ha) ?_
   (try (refine xst ?_; try exact xtI))
   refine gcP (fun hcc => place_s f b hf hb) ?_
   (try (refine xst ?_; try exact xtI))
   refine cond_i (fun h3 => ?_) (fun h3 => ?_)
   ·(try replace h3 := xhh h3)
    have e : wayE R f a b = 9 := by
     unfold wayE
     rw [if_neg (by simp [hf]), if_neg (fun h => h ⟨ha, hb⟩), if_pos h3]
    have e2 : wayD R f a b = 0 := by unfold wayD; rw [if_neg (by rw [e]; decide)]
    have e3 : (if wayE R f a b = 0 then wayV R f a b else []) = [] := if_neg (by rw [e]; decide)
    rw [e3, e2, e]
    (try (refine xst ?_; try exact xtI))
    exact xrz rfl
   ·(try replace h3 := xhh h3)
    obtain ⟨hpa, hpb⟩ := h3
    have hRl : ∃ W H, Srch f a b R W H := srch hf ha hpa hR
    obtain ⟨W, H, s⟩ := hRl
    have hbF : idxN f b < R.length := by rw [s.r.len]; exact (in_celW s.w s.h s.w0 hf hb).2
    have hpx := place_ix hf ha
    (try (refine xst ?_; try exact xtI))
    refine callM [3] (Spec.hand 0 (floods_s f [a] R hR hl (by simp)) (Nat.zero_le _) rfl (by exact WkL.refl _) rfl) (WkL.refl _) rfl (by decide) (by simp [lookC_c]) ?_
    (try (refine xst ?_; try exact xtI))
    refine callB (wat_s f R b hf hb hbF) (WkL.refl _) rfl ?_
    (try (refine xst ?_; try exact xtI))
    refine cond_i (fun h4 => ?_) (fun h4 => ?_)
    ·(try replace h4 := xhh h4)
     have e : wayE R f a b = 6 := by
      unfold wayE
      rw [if_neg (by simp [hf]), if_neg (fun h => h ⟨ha, hb⟩), if_neg (fun h => by rcases h with h | h; exact hpa h; exact hpb h), if_pos h4]
     have e2 : wayD R f a b = 0 := by unfold wayD; rw [if_neg (by rw [e]; decide)]
     have e3 : (if wayE R f a b = 0 then wayV R f a b else []) = [] := if_neg (by rw [e]; decide)
     rw [e3, e2, e]
     (try (refine xst ?_; try exact xtI))
     exact xrz rfl
    ·(try replace h4 := xhh h4)
     have hE : wayE R f a b = 0 := by
      unfold wayE
      rw [if_neg (by simp [hf]), if_neg (fun h => h ⟨ha, hb⟩), if_neg (fun h => by rcases h with h | h; exact hpa h; exact hpb h), if_neg (by omega)]
     have e2 : wayD R f a b = R.getD (idxN f b) default := if_pos hE
     rw [e2, hE, if_pos rfl]
     have hRb := R_bound hf ha hpa hR hb
     (try (refine xst ?_; try exact xtI))
     refine loopI (fun x : Nat × Cel × List Cel => ⟨[(14, .ptr 5 0 0), (13, .own 6), (12, .ptr 0 0 0), (5, .ptr 4 0 0), (4, .ptr 3 0 0), (3, .ptr 2 0 0)], [(0, .blk 164 [.clo (.func 101) [] [.ptr 1 0 0, .ptr 2 0 0]]), (1, .blk 22 [.c (.sl 1 (R.map i64P))]), (2, .blk 24 (fldC f)), (3, .blk 85 [I .i64 a.x, I .i64 a.y]), (4, .blk 85 [I .i64 b.x, I .i64 b.y]), (5, .blk 85 [I .i64 x.2.1.x, I .i64 x.2.1.y]), (6, .row 85 2 (x.2.2.map celP))], 7⟩) (fun x : Nat × Cel × List Cel => inF f x.2.1 = true ∧ 0 ≤ R.getD (idxN f x.2.1) default ∧ R.getD (idxN f x.2.1) default ≤ x.1 ∧ x.2.2 ++ wayL R f a x.1 x.2.1 = b :: wayL R f a (R.getD (idxN f b) default).toNat b ∧ x.2.2.length + x.1 ≤ 4801) (fun x : Nat × Cel × List Cel => x.1) (((R.getD (idxN f b) default).toNat, b, [b])) (⟨hb, by simp only; omega, by simp only; omega, rfl, by simp only [List.length_singleton]; omega⟩) (To.mk [5, 4, 0, 1, 2, 7, 6] rfl rfl (by decide) ?_ ?_) ?_
     ·(iterate 2 ((try simp (etaStruct := .none) only [push_cast, DrawG, Int.cast_ofNat_Int, seval, celP]); (try (refine xsu ?_; try exact xtI))))
     ·simp (etaStruct := .none) only [push_cast, DrawG, Int.cast_ofNat_Int, seval]
     rintro ⟨N, c, out⟩ ⟨hc, hc0, hcN, hway, hlen⟩
     simp only at hc hc0 hcN hway hlen
     (try (refine xst ?_; try exact xtI))
     refine cond_i (fun h5 => ?_) (fun h5 => ?_)
     ·(try replace h5 := xhh h5)
      have hca : c ≠ a := cel_ne.1 (fun h => by rcases h5 with h5 | h5; exact h5 h.1; exact h5 h.2)
      have hci := inF_iff.1 hc
      have hfo := fldE_ok hf
      have hwc := way_cost s hf hpa hc hc0
      have hrk : placeV f c ≠ 1 := fun h => by unfold costC at hwc; rw [if_pos hc, if_pos h] at hwc; simp at hwc
      obtain ⟨g1, g2, g3, g4, g5, g6⟩ := nxt_ok s.w s.h s.w0 hf s.l s.r ha hc hca hc0
      have hkv := kV_b (placeV f c)
      obtain ⟨M, rfl⟩ : ∃ M, N = M + 1 := ⟨N - 1, by omega⟩
      obtain ⟨ix, hix, hixl, hixe⟩ := ix_find g1
      rw [wayL, if_neg hca] at hway
      (iterate 2 ((try simp (etaStruct := .none) only [push_cast, DrawG, Int.cast_ofNat_Int, seval, hix, getD_in _ _ _ hixl, hixe, celP]); (try (refine xsu ?_; try exact xtI))))
      refine caP (besides_s f c hf (by omega) (by omega)) ?_
      (iterate 2 ((try simp (etaStruct := .none) only [push_cast, DrawG, Int.cast_ofNat_Int, seval, hix, getD_in _ _ _ hixl, hixe, celP]); (try (refine xsu ?_; try exact xtI))))
      refine caM [0, 1, 2, 5] (wix_s f R c (besideC f c) (by have := List.length_filter_le (inF f) (sidesC c); rw [show (sidesC c).length = 4 from rfl] at this; unfold besideC; omega) hf hc hrk s.r.len (fun n hn => by have h1 := (List.mem_filter.1 hn).2; exact ⟨h1, R_bound hf ha hpa hR h1⟩)) ?_
      (iterate 2 ((try simp (etaStruct := .none) only [push_cast, DrawG, Int.cast_ofNat_Int, seval, hix, getD_in _ _ _ hixl, hixe, celP]); (try (refine xsu ?_; try exact xtI))))
      refine ⟨(M, nxtC R f c, out ++ [nxtC R f c]), ⟨g3, g5, by simp only; omega, by simp only; rw [List.append_assoc]; exact hway, by simp only [List.length_append, List.length_singleton]; omega⟩, by simp only; omega, To.mk [0, 1, 2, 3, 4, 7, 9] rfl rfl (by decide) ?_ ?_⟩
      ·(iterate 2 ((try simp (etaStruct := .none) only [push_cast, DrawG, Int.cast_ofNat_Int, seval, List.map_append, celP]); (try (refine xsu ?_; try exact xtI))))
      ·(iterate 2 ((try simp (etaStruct := .none) only [push_cast, DrawG, Int.cast_ofNat_Int, seval, hix, getD_in _ _ _ hixl, hixe, celP]); (try (refine xsu ?_; try exact xtI))))
     ·(try replace h5 := xhh h5)
      have hca : c = a := Decidable.byContradiction fun h => cel_ne.2 h h5
      have hout : out = b :: wayL R f a (R.getD (idxN f b) default).toNat b := by
       have e0 : wayL R f a N c = [] := by
        cases N with
        | zero => rfl
        | succ N => rw [wayL, if_pos hca]
       rw [← hway, e0, List.append_nil]
      have hov : out.reverse = wayV R f a b := by unfold wayV; rw [hout]
      (iterate 2 ((try simp (etaStruct := .none) only [push_cast, DrawG, Int.cast_ofNat_Int, seval, hov]); (try (refine xsu ?_; try exact xtI))))
      refine caM [6] (cel_rev out (by omega)) ?_
      (iterate 2 ((try simp (etaStruct := .none) only [push_cast, DrawG, Int.cast_ofNat_Int, seval, hov]); (try (refine xsu ?_; try exact xtI))))
      refine callB (wat_s f R b hf hb hbF) (WkL.refl _) rfl ?_
      (iterate 2 ((try simp (etaStruct := .none) only [push_cast, DrawG, Int.cast_ofNat_Int, seval, hov]); (try (refine xsu ?_; try exact xtI))))
      exact xrz rfl
end Go.Proofs.YthiddmncjafklaaGreat
namespace Go.Proofs.YthiddmncjafklaaGreat
set_option linter.all false
open Go.RowKit
set_option maxRecDepth 100000
def wayW (f : Fld) (WR : Cel → List Int) (a b : Cel) : List Cel := if wayE (WR a) f a b = 0 then wayV (WR a) f a b else []
theorem wr_ex (f : Fld) : ∃ WR : Cel → List Int, ∀ a, FloodIs f [a] (WR a) := ⟨fun a => Classical.choose (flood_is f [a]), fun a => Classical.choose_spec (flood_is f [a])⟩
def findG (l : List Gop) (i : Int) : Option Gop := l.find? fun g => decide (g.id = i)
def setC (t : Trp) (c : Cel) : Trp := { t with c := c }
def stepT (f : Fld) (WR : Cel → List Int) (l : List Gop) (ts : List Trp) (t : Trp) : Option Cel := match findG l t.id with
 | none => none
 | some g => if (wayW f WR t.c g.to).length < 2 ∨ (ts.any fun o => decide (o.c = (wayW f WR t.c g.to).getD 1 default)) = true then none else some ((wayW f WR t.c g.to).getD 1 default)
def marchS (f : Fld) (WR : Cel → List Int) (l : List Gop) (s : List Trp × List Int) (i : Nat) : List Trp × List Int := match stepT f WR l s.1 (s.1.getD i default) with
 | none => s
 | some c => (s.1.set i (setC (s.1.getD i default) c), s.2 ++ [(s.1.getD i default).id])
def marchK (f : Fld) (WR : Cel → List Int) (l : List Gop) (ts : List Trp) (k : Nat) : List Trp × List Int := (List.range k).foldl (marchS f WR l) (ts, [])
theorem marchK_zero (f : Fld) (WR : Cel → List Int) (l : List Gop) (ts : List Trp) : marchK f WR l ts 0 = (ts, []) := rfl
theorem marchK_succ (f : Fld) (WR : Cel → List Int) (l : List Gop) (ts : List Trp) (k : Nat) : marchK f WR l ts (k + 1) = marchS f WR l (marchK f WR l ts k) k := by
 unfold marchK; rw [List.range_succ, List.foldl_append]; rfl
theorem marchS_len (f : Fld) (WR : Cel → List Int) (l : List Gop) (s : List Trp × List Int) (i : Nat) : (marchS f WR l s i).1.length = s.1.length ∧ (marchS f WR l s i).2.length ≤ s.2.length + 1 := by
 unfold marchS
 split
 ·exact ⟨rfl, by omega⟩
 ·simp
theorem marchK_len (f : Fld) (WR : Cel → List Int) (l : List Gop) (ts : List Trp) : ∀ k, (marchK f WR l ts k).1.length = ts.length ∧ (marchK f WR l ts k).2.length ≤ k
 | 0 => ⟨rfl, Nat.le_refl _⟩
 | k + 1 => by
  rw [marchK_succ]
  have h1 := marchK_len f WR l ts k
  have h2 := marchS_len f WR l (marchK f WR l ts k) k
  omega
def marchV (f : Fld) (WR : Cel → List Int) (l : List Gop) (ts : List Trp) : List Trp × List Int := marchK f WR l ts ts.length
def cntC (c : Cel) : List Trp → Nat
 | [] => 0
 | t :: r => (if t.c = c then 1 else 0) + cntC c r
theorem cntC_le (c : Cel) : ∀ l, cntC c l ≤ l.length
 | [] => Nat.le_refl _
 | t :: r => by have := cntC_le c r; rw [cntC, List.length_cons]; split <;> omega
theorem cntC_append (c : Cel) (m : List Trp) : ∀ l, cntC c (l ++ m) = cntC c l + cntC c m
 | [] => by simp [cntC]
 | t :: r => by rw [List.cons_append, cntC, cntC, cntC_append c m r]; omega
theorem cntC_set (c : Cel) (t : Trp) : ∀ (l : List Trp) (i : Nat), i < l.length → cntC c (l.set i t) + (if (l.getD i default).c = c then 1 else 0) = cntC c l + (if t.c = c then 1 else 0)
 | [], i, h => by simp at h
 | a :: r, 0, _ => by rw [List.set_cons_zero, cntC, cntC, List.getD_cons_zero]; omega
 | a :: r, i + 1, h => by
  have := cntC_set c t r i (by simpa using h)
  rw [List.set_cons_succ, cntC, cntC, List.getD_cons_succ]; omega
theorem cntC_pos (c : Cel) : ∀ l : List Trp, 0 < cntC c l ↔ (l.any fun o => decide (o.c = c)) = true
 | [] => by simp [cntC]
 | t :: r => by
  rw [cntC, List.any_cons]
  have := cntC_pos c r
  by_cases h : t.c = c
  ·simp [h]; omega
  ·simp only [h, if_false, decide_false, Bool.false_or, Nat.zero_add]; exact this
def CntM (ts : List Trp) (es : List (List Int × Int)) : Prop := ∀ x y : Int, mget [x, y] es = (cntC ⟨x, y⟩ ts : Int)
theorem CntM.add {ts : List Trp} {es : List (List Int × Int)} (h : CntM ts es) (t : Trp) : CntM (ts ++ [t]) (mput [t.c.x, t.c.y] (mget [t.c.x, t.c.y] es + 1) es) := by
 intro x y
 rw [mget_put_if, cntC_append, cntC, cntC]
 obtain ⟨i, o, kd, ⟨cx, cy⟩, li, lo⟩ := t
 simp only
 by_cases e : x = cx ∧ y = cy
 ·obtain ⟨rfl, rfl⟩ := e
  rw [if_pos rfl, if_pos rfl, h]; omega
 ·rw [if_neg (by simpa using e), if_neg (fun he => e (by cases he; exact ⟨rfl, rfl⟩)), h]; omega
theorem CntM.move {ts : List Trp} {es : List (List Int × Int)} (h : CntM ts es) {i : Nat} (hi : i < ts.length) (c : Cel) :
 CntM (ts.set i (setC (ts.getD i default) c)) (mput [c.x, c.y] (mget [c.x, c.y] (mput [(ts.getD i default).c.x, (ts.getD i default).c.y] (mget [(ts.getD i default).c.x, (ts.getD i default).c.y] es - 1) es) + 1) (mput [(ts.getD i default).c.x, (ts.getD i default).c.y] (mget [(ts.getD i default).c.x, (ts.getD i default).c.y] es - 1) es)) := by
 intro x y
 have hs := cntC_set ⟨x, y⟩ (setC (ts.getD i default) c) ts i hi
 obtain ⟨cx, cy⟩ := c
 have e2 : (setC (ts.getD i default) ⟨cx, cy⟩).c = ⟨cx, cy⟩ := rfl
 rw [e2] at hs
 rcases ho : (ts.getD i default).c with ⟨ox, oy⟩
 rw [ho] at hs
 simp only at hs ⊢
 have k1 : (([x, y] : List Int) = [cx, cy]) = ((⟨cx, cy⟩ : Cel) = ⟨x, y⟩) := by
  apply propext; constructor <;> intro h <;> cases h <;> rfl
 have k2 : (([x, y] : List Int) = [ox, oy]) = ((⟨ox, oy⟩ : Cel) = ⟨x, y⟩) := by
  apply propext; constructor <;> intro h <;> cases h <;> rfl
 have k3 : (([cx, cy] : List Int) = [ox, oy]) = ((⟨ox, oy⟩ : Cel) = ⟨cx, cy⟩) := by
  apply propext; constructor <;> intro h <;> cases h <;> rfl
 have h' : ∀ x y : Int, mget [x, y] es = (cntC ⟨x, y⟩ ts : Int) := h
 rw [mget_put_if, mget_put_if, mget_put_if]
 simp only [k1, k2, k3, h']
 by_cases a1 : (⟨cx, cy⟩ : Cel) = ⟨x, y⟩
 ·have e3 : x = cx ∧ y = cy := by cases a1; exact ⟨rfl, rfl⟩
  obtain ⟨rfl, rfl⟩ := e3
  rw [if_pos rfl] at hs ⊢
  by_cases a2 : (⟨ox, oy⟩ : Cel) = ⟨x, y⟩
  ·have e4 : ox = x ∧ oy = y := by cases a2; exact ⟨rfl, rfl⟩
   obtain ⟨rfl, rfl⟩ := e4
   rw [if_pos rfl] at hs ⊢; omega
  ·rw [if_neg a2] at hs
   rw [if_neg a2]; omega
 ·rw [if_neg a1] at hs ⊢
  by_cases a2 : (⟨ox, oy⟩ : Cel) = ⟨x, y⟩
  ·have e4 : ox = x ∧ oy = y := by cases a2; exact ⟨rfl, rfl⟩
   obtain ⟨rfl, rfl⟩ := e4
   rw [if_pos rfl] at hs ⊢; omega
  ·rw [if_neg a2] at hs ⊢; omega
end Go.Proofs.YthiddmncjafklaaGreat
namespace Go.Proofs.YthiddmncjafklaaGreat
set_option linter.all false
open Go.RowKit
set_option maxRecDepth 100000
set_option maxHeartbeats 2000000
abbrev gopA (g : Gop) : AV := .agg [I .i64 g.id, I .i64 g.to.x, I .i64 g.to.y]
def gidP (t : Trp) (g : Gop) : Bool := decide (g.id = t.id)
theorem mgid_s (ts : List Trp) (i : Nat) (hi : i < ts.length) (g : Gop) : Spec Tryz.prog 90 [gopA g, .ptr 0 0 0] [.blk 153 [.ptr 1 i 0], .row 89 7 (ts.map trpP)] (B (gidP (ts.getD i default) g)) [.blk 153 [.ptr 1 i 0], .row 89 7 (ts.map trpP)] := by
 refine spec_am Tryz.func90 rfl rfl mix 11 rfl [.tmp 3] Tryz.results90 (Nat.le_of_ble_eq_true rfl) ?_
 (iterate 2 ((try simp (etaStruct := .none) only [push_cast, DrawG, Int.cast_ofNat_Int, seval, getD_in _ _ _ hi, trpP]); (try (refine xsu ?_; try exact xtI))))
 (try (refine ⟨by kernel_rfl, ?_⟩))
 (iterate 2 ((try simp (etaStruct := .none) only [push_cast, DrawG, Int.cast_ofNat_Int, seval, getD_in _ _ _ hi, trpP]); (try (refine xsu ?_; try exact xtI))))
 refine retM [0, 1] rfl rfl (by decide) ⟨?_, ?_, trivial⟩ trivial ?_ <;> simp (etaStruct := .none) only [push_cast, DrawG, Int.cast_ofNat_Int, seval, gidP]
theorem gid_ix (ts : List Trp) (i : Nat) (hi : i < ts.length)(l : List Gop) (hl : l.length ≤ 1000000) : Spec Tryz.prog 89 [.c (.sl 3 (l.map gopP)), .clo (.func 90) [] [.ptr 0 0 0]] ([.blk 153 [.ptr 1 i 0], .row 89 7 (ts.map trpP)]) (I .i64 (ixOf (gidP (ts.getD i default)) l)) ([.blk 153 [.ptr 1 i 0], .row 89 7 (ts.map trpP)]) := by
 refine spec_am Tryz.func89 rfl rfl mix 19 rfl [.tmp 4] Tryz.results89 (Nat.le_of_ble_eq_true rfl) ?_
 (try (refine xst ?_; try exact xtI))
 refine loopI (fun k : Nat => ⟨[(8, I .i64 k), (7, I .i64 l.length), (1, .clo (.func 90) [] [.ptr 0 0 0]), (0, .c (.sl 3 (l.map gopP)))], [(0, .blk 153 [.ptr 1 i 0]), (1, .row 89 7 (ts.map trpP))], 2⟩) (fun k : Nat => k ≤ l.length ∧ ∀ j (hj : j < l.length), j < k → (gidP (ts.getD i default)) l[j] = false) (fun k : Nat => l.length - k) (0) (⟨Nat.zero_le _, fun j _ h => absurd h (Nat.not_lt_zero _)⟩) (To.mk [0, 1] rfl rfl (by decide) ?_ ?_) ?_
 ·simp (etaStruct := .none) only [push_cast, DrawG, Int.cast_ofNat_Int, seval]
 ·simp (etaStruct := .none) only [push_cast, DrawG, Int.cast_ofNat_Int, seval]
 rintro k ⟨hk, hno⟩
 (try (refine xst ?_; try exact xtI))
 refine cond_i (fun h1 => ?_) (fun h1 => ?_)
 ·(try replace h1 := xhh h1)
  have hlt : k < l.length := by omega
  (iterate 2 ((try simp (etaStruct := .none) only [push_cast, DrawG, Int.cast_ofNat_Int, seval, getD_in _ _ _ hlt, gopP]); (try (refine xsu ?_; try exact xtI))))
  refine caM [0, 1] (mgid_s ts i hi (l.getD k default)) ?_
  (iterate 2 ((try simp (etaStruct := .none) only [push_cast, DrawG, Int.cast_ofNat_Int, seval, getD_in _ _ _ hlt, gopP]); (try (refine xsu ?_; try exact xtI))))
  refine cond_i (fun h2 => ?_) (fun h2 => ?_)
  ·(try replace h2 := xhh h2)
   have e := ixOf_hit (gidP (ts.getD i default)) l k hlt (by rw [← getD_at l k hlt]; exact h2) hno
   rw [e]
   (iterate 2 ((try simp (etaStruct := .none) only [push_cast, DrawG, Int.cast_ofNat_Int, seval, getD_in _ _ _ hlt, gopP]); (try (refine xsu ?_; try exact xtI))))
   refine retM [0, 1] rfl rfl (by decide) ⟨?_, ?_, trivial⟩ trivial ?_ <;> simp (etaStruct := .none) only [push_cast, DrawG, Int.cast_ofNat_Int, seval]
  ·(try replace h2 := xhh h2)
   have hno2 : ∀ j (hj : j < l.length), j < k + 1 → (gidP (ts.getD i default)) l[j] = false := fun j hj h => by
    rcases Nat.lt_or_ge j k with h3 | h3
    ·exact hno j hj h3
    ·obtain rfl : j = k := by omega
     rw [← getD_at l j hj]; exact h2
   (iterate 2 ((try simp (etaStruct := .none) only [push_cast, DrawG, Int.cast_ofNat_Int, seval, getD_in _ _ _ hlt, gopP]); (try (refine xsu ?_; try exact xtI))))
   refine ⟨k + 1, ⟨by omega, hno2⟩, by omega, To.mk [0, 1] rfl rfl (by decide) ?_ ?_⟩
   ·(iterate 2 ((try simp (etaStruct := .none) only [push_cast, DrawG, Int.cast_ofNat_Int, seval, getD_in _ _ _ hlt, gopP]); (try (refine xsu ?_; try exact xtI))))
   ·(iterate 2 ((try simp (etaStruct := .none) only [push_cast, DrawG, Int.cast_ofNat_Int, seval, getD_in _ _ _ hlt, gopP]); (try (refine xsu ?_; try exact xtI))))
 ·(try replace h1 := xhh h1)
  have e := ixOf_miss (gidP (ts.getD i default)) l (fun j hj => hno j hj (by omega))
  rw [e]
  (try (refine xst ?_; try exact xtI))
  refine retM [0, 1] rfl rfl (by decide) ⟨?_, ?_, trivial⟩ trivial ?_ <;> simp (etaStruct := .none) only [push_cast, DrawG, Int.cast_ofNat_Int, seval]
theorem findG_ix {l : List Gop} {t : Trp} : (findG l t.id = none ∧ ixOf (gidP t) l = -1) ∨ ∃ (g : Gop) (j : Nat), findG l t.id = some g ∧ ixOf (gidP t) l = (j : Int) ∧ j < l.length ∧ l.getD j default = g := by
 cases h : findG l t.id with
 | none =>
  refine .inl ⟨rfl, ?_⟩
  unfold findG at h
  refine ixOf_miss _ l fun j hj => ?_
  have := List.find?_eq_none.1 h _ (List.getElem_mem hj)
  unfold gidP; simpa using this
 | some g =>
  unfold findG at h
  obtain ⟨j, h1, h2, h3⟩ := ix_find (p := gidP t) (l := l) (x := g) h
  exact .inr ⟨g, j, rfl, h1, h2, h3⟩
theorem marchS_none {f : Fld} {WR : Cel → List Int} {l : List Gop} {s : List Trp × List Int} {i : Nat} (h : stepT f WR l s.1 (s.1.getD i default) = none) : marchS f WR l s i = s := by unfold marchS; rw [h]
theorem marchS_some {f : Fld} {WR : Cel → List Int} {l : List Gop} {s : List Trp × List Int} {i : Nat} {c : Cel} (h : stepT f WR l s.1 (s.1.getD i default) = some c) : marchS f WR l s i = (s.1.set i (setC (s.1.getD i default) c), s.2 ++ [(s.1.getD i default).id]) := by unfold marchS; rw [h]
theorem stepT_some {f : Fld} {WR : Cel → List Int} {l : List Gop} {ts : List Trp} {t : Trp} {g : Gop} (h : findG l t.id = some g) : stepT f WR l ts t = if (wayW f WR t.c g.to).length < 2 ∨ (ts.any fun o => decide (o.c = (wayW f WR t.c g.to).getD 1 default)) = true then none else some ((wayW f WR t.c g.to).getD 1 default) := by unfold stepT; rw [h]
theorem mstep_s (w : Wld) (l : List Gop) (WR : Cel → List Int) (hWR : ∀ a, FloodIs w.f [a] (WR a)) (hl : w.f.p.length ≤ 9223372036854775807) (hll : l.length ≤ 1000) (hnt : w.troops.length ≤ 100) : Spec Tryz.prog 58 [.agg [I .i64 w.f.w, I .i64 w.f.h, .c (.sl 1 (w.f.p.map i64P)), .c (.sl 2 (w.bases.map celP)), .c (.sl 1 (w.stocks.map i64P)), .c (.sl 1 (w.mines.map i64P)), .own 0, I .i64 w.next, I .i64 w.now], .c (.sl 3 (l.map gopP))] [.row 89 7 (w.troops.map trpP)]
 (.c (.sl 1 ((marchV w.f WR l w.troops).2.map i64P))) [.row 89 7 ((marchV w.f WR l w.troops).1.map trpP)] := by
 refine spec_am Tryz.func58 rfl rfl mix 110 rfl [.tmp 4] Tryz.results58 (Nat.le_of_ble_eq_true rfl) ?_
 (iterate 2 ((try simp (etaStruct := .none) only [push_cast, Int.cast_ofNat_Int, seval, mput_def]); (try (refine xsu ?_; try exact xtI))))
 refine loopI (fun x : Nat × List (List Int × Int) => ⟨[(19, I .i64 x.1), (18, I .i64 w.troops.length), (17, .own 0), (5, .map 2), (2, .ptr 1 0 0), (1, .c (.sl 3 (l.map gopP)))], [(0, .row 89 7 (w.troops.map trpP)), (1, .blk 28 [I .i64 w.f.w, I .i64 w.f.h, .c (.sl 1 (w.f.p.map i64P)), .c (.sl 2 (w.bases.map celP)), .c (.sl 1 (w.stocks.map i64P)), .c (.sl 1 (w.mines.map i64P)), .own 0, I .i64 w.next, I .i64 w.now]), (2, .mp true 2 x.2)], 3⟩) (fun x : Nat × List (List Int × Int) => x.1 ≤ w.troops.length ∧ CntM (w.troops.take x.1) x.2) (fun x : Nat × List (List Int × Int) => w.troops.length - x.1) ((0, [])) (⟨Nat.zero_le _, fun _ _ => rfl⟩) (To.mk [0, 1, 2] rfl rfl (by decide) ?_ ?_) ?_
 ·simp (etaStruct := .none) only [push_cast, DrawG, Int.cast_ofNat_Int, seval]
 ·simp (etaStruct := .none) only [push_cast, DrawG, Int.cast_ofNat_Int, seval]
 rintro ⟨k, es⟩ ⟨hk, hc⟩
 simp only at hk hc
 (iterate 2 ((try simp (etaStruct := .none) only [push_cast, Int.cast_ofNat_Int, seval, mput_def]); (try (refine xsu ?_; try exact xtI))))
 refine cond_i (fun h1 => ?_) (fun h1 => ?_)
 ·(try replace h1 := xhh h1)
  have hlt : k < w.troops.length := by omega
  have hca := hc.add (w.troops.getD k default)
  rw [← take_snoc _ _ hlt] at hca
  have hcb := hc (w.troops.getD k default).c.x (w.troops.getD k default).c.y
  have hcl := cntC_le ⟨(w.troops.getD k default).c.x, (w.troops.getD k default).c.y⟩ (w.troops.take k)
  rw [List.length_take] at hcl
  have hmp := mpos_lt [(w.troops.getD k default).c.x, (w.troops.getD k default).c.y] es
  (iterate 2 ((try simp (etaStruct := .none) only [push_cast, Int.cast_ofNat_Int, seval, mput_def, getD_in _ _ _ hlt, trpP]); (try (refine xsu ?_; try exact xtI))))
  refine drawG_w [some 23, some 24, some 25, some 26, some 27, some 28, some 29, none] rfl ?_
  intro Oq lq Rq hlq hdq hRq
  subst hlq
  iterate 8 (refine peelD fun rq hrq => ?_; (iterate 2 ((try simp (etaStruct := .none) only [push_cast, Int.cast_ofNat_Int, seval, hdq, id, mput_def, getD_in _ _ _ hlt, trpP]); (try (refine xsu ?_; try exact xtI)))); subst hrq)
  refine endD ?_
  subst hRq
  clear hdq Oq
  refine endE (by kernel_rfl) ?_
  (iterate 2 ((try simp (etaStruct := .none) only [push_cast, Int.cast_ofNat_Int, seval, mput_def, getD_in _ _ _ hlt, trpP]); (try (refine xsu ?_; try exact xtI))))
  refine ⟨(k + 1, mput [(w.troops.getD k default).c.x, (w.troops.getD k default).c.y] (mget [(w.troops.getD k default).c.x, (w.troops.getD k default).c.y] es + 1) es), ⟨by simp only; omega, hca⟩, by simp only; omega, To.mk [0, 1, 2] rfl rfl (by decide) ?_ ?_⟩
  ·(iterate 2 ((try simp (etaStruct := .none) only [push_cast, Int.cast_ofNat_Int, seval, mput_def, getD_in _ _ _ hlt, trpP]); (try (refine xsu ?_; try exact xtI))))
  ·(iterate 2 ((try simp (etaStruct := .none) only [push_cast, Int.cast_ofNat_Int, seval, mput_def, getD_in _ _ _ hlt, trpP]); (try (refine xsu ?_; try exact xtI))))
 ·(try replace h1 := xhh h1)
  obtain rfl : k = w.troops.length := by omega
  rw [List.take_length] at hc
  (iterate 2 ((try simp (etaStruct := .none) only [push_cast, Int.cast_ofNat_Int, seval, mput_def]); (try (refine xsu ?_; try exact xtI))))
  refine loopI (fun x : Nat × List (List Int × Int) => ⟨[(34, I .i64 x.1), (33, I .i64 w.troops.length), (8, .own 3), (5, .map 2), (2, .ptr 1 0 0), (1, .c (.sl 3 (l.map gopP)))], [(0, .row 89 7 ((marchK w.f WR l w.troops x.1).1.map trpP)), (1, .blk 28 [I .i64 w.f.w, I .i64 w.f.h, .c (.sl 1 (w.f.p.map i64P)), .c (.sl 2 (w.bases.map celP)), .c (.sl 1 (w.stocks.map i64P)), .c (.sl 1 (w.mines.map i64P)), .own 0, I .i64 w.next, I .i64 w.now]), (2, .mp true 2 x.2), (3, .row 3 1 ((marchK w.f WR l w.troops x.1).2.map i64P))], 4⟩) (fun x : Nat × List (List Int × Int) => x.1 ≤ w.troops.length ∧ CntM (marchK w.f WR l w.troops x.1).1 x.2) (fun x : Nat × List (List Int × Int) => w.troops.length - x.1) ((0, es)) (⟨Nat.zero_le _, hc⟩) ((To.nil 8 3 1 rfl).trans (To.mk [0, 1, 2, 3] rfl rfl (by decide) ?_ ?_)) ?_
  ·simp (etaStruct := .none) only [push_cast, DrawG, Int.cast_ofNat_Int, seval, marchK_zero, List.map_nil]
  ·simp (etaStruct := .none) only [push_cast, DrawG, Int.cast_ofNat_Int, seval]
  rintro ⟨k, em⟩ ⟨hk, hm⟩
  simp only at hk hm
  have hln := marchK_len w.f WR l w.troops k
  have hsk := marchK_succ w.f WR l w.troops k
  obtain ⟨S, hS⟩ : ∃ S, S = marchK w.f WR l w.troops k := ⟨_, rfl⟩
  rw [← hS] at hm hln hsk
  (iterate 2 ((try simp (etaStruct := .none) only [push_cast, Int.cast_ofNat_Int, seval, mput_def, ← hS, hln.1]); (try (refine xsu ?_; try exact xtI))))
  refine cond_i (fun h2 => ?_) (fun h2 => ?_)
  ·(try replace h2 := xhh h2)
   have hlt : k < S.1.length := by omega
   (iterate 2 ((try simp (etaStruct := .none) only [push_cast, Int.cast_ofNat_Int, seval, mput_def, ← hS, hln.1, getD_in _ _ _ hlt, trpP]); (try (refine xsu ?_; try exact xtI))))
   refine caM [4, 0] (gid_ix S.1 k hlt l (by omega)) ?_
   (iterate 2 ((try simp (etaStruct := .none) only [push_cast, Int.cast_ofNat_Int, seval, mput_def, ← hS, hln.1, getD_in _ _ _ hlt, trpP]); (try (refine xsu ?_; try exact xtI))))
   refine cond_i (fun h3 => ?_) (fun h3 => ?_)
   ·(try replace h3 := xhh h3)
    have hnone : findG l (S.1.getD k default).id = none := by
     rcases findG_ix (l := l) (t := S.1.getD k default) with ⟨h, _⟩ | ⟨_, j, _, h, _⟩
     ·exact h
     ·rw [h] at h3; omega
    have hms : marchS w.f WR l S k = S := marchS_none (by unfold stepT; rw [hnone])
    (iterate 2 ((try simp (etaStruct := .none) only [push_cast, Int.cast_ofNat_Int, seval, mput_def, ← hS, hln.1, getD_in _ _ _ hlt, trpP]); (try (refine xsu ?_; try exact xtI))))
    refine ⟨(k + 1, em), ⟨by simp only; omega, by simp only; rw [hsk, hms]; exact hm⟩, by simp only; omega, To.mk [0, 1, 2, 3] rfl rfl (by decide) ?_ ?_⟩
    ·(iterate 2 ((try simp (etaStruct := .none) only [push_cast, DrawG, Int.cast_ofNat_Int, seval, hsk, hms]); (try (refine xsu ?_; try exact xtI))))
    ·(iterate 2 ((try simp (etaStruct := .none) only [push_cast, Int.cast_ofNat_Int, seval, mput_def, ← hS, hln.1, getD_in _ _ _ hlt, trpP]); (try (refine xsu ?_; try exact xtI))))
   ·(try replace h3 := xhh h3)
    obtain ⟨g, j, hg, hj, hjl, hge⟩ : ∃ (g : Gop) (j : Nat), findG l (S.1.getD k default).id = some g ∧ ixOf (gidP (S.1.getD k default)) l = (j : Int) ∧ j < l.length ∧ l.getD j default = g := by
     rcases findG_ix (l := l) (t := S.1.getD k default) with ⟨_, h⟩ | h
     ·rw [h] at h3; omega
     ·exact h
    obtain ⟨wl, hwl⟩ : ∃ wl, wl = wayW w.f WR (S.1.getD k default).c g.to := ⟨_, rfl⟩
    have hwy : (if wayE (WR (S.1.getD k default).c) w.f (S.1.getD k default).c g.to = 0 then wayV (WR (S.1.getD k default).c) w.f (S.1.getD k default).c g.to else []) = wl := hwl.symm
    have hst := stepT_some (f := w.f) (WR := WR) (ts := S.1) hg
    rw [← hwl] at hst
    rcases Nat.lt_or_ge wl.length 2 with hA | hB
    ·have hms : marchS w.f WR l S k = S := marchS_none (by rw [hst, if_pos (.inl hA)])
     have hAg : (wl.map celP).getD 1 [] = [] := by rw [List.getD_eq_getElem?_getD, List.getElem?_eq_none (by rw [List.length_map]; omega)]; rfl
     have hAl : ((wl.length : Int) < 2) = True := eq_true (by omega)
     (iterate 2 ((try simp (etaStruct := .none) only [push_cast, Int.cast_ofNat_Int, seval, mput_def, ← hS, hln.1, getD_in _ _ _ hlt, trpP, hj, getD_in _ _ _ hjl, hge, gopP]); (try (refine xsu ?_; try exact xtI))))
     refine drawG_w [some 47, some 48, some 49, some 50, some 51, some 52, some 53, some 54, some 55, some 56, some 57, some 58, some 46, some 59, some 60, some 61, some 12, some 13, some 14] rfl ?_
     intro Oq lq Rq hlq hdq hRq
     subst hlq
     iterate 11 (refine peelD fun rq hrq => ?_; (iterate 2 ((try simp (etaStruct := .none) only [push_cast, Int.cast_ofNat_Int, seval, hdq, id, mput_def, ← hS, hln.1, getD_in _ _ _ hlt, trpP, hj, getD_in _ _ _ hjl, hge, gopP]); (try (refine xsu ?_; try exact xtI)))); subst hrq)
     refine peelD fun rq hrq => ?_
     (iterate 2 ((try simp (etaStruct := .none) only [push_cast, Int.cast_ofNat_Int, seval, hdq, id, mput_def, ← hS, hln.1, getD_in _ _ _ hlt, trpP, hj, getD_in _ _ _ hjl, hge, gopP]); (try (refine xsu ?_; try exact xtI))))
     refine callP (pfind_s w.f (S.1.getD k default).c g.to hl (WR (S.1.getD k default).c) (hWR _)) (WkL.refl _) ?_
     rw [hwy]
     (iterate 2 ((try simp (etaStruct := .none) only [push_cast, Int.cast_ofNat_Int, seval, hdq, id, mput_def, ← hS, hln.1, getD_in _ _ _ hlt, trpP, hj, getD_in _ _ _ hjl, hge, gopP]); (try (refine xsu ?_; try exact xtI))))
     subst hrq
     iterate 7 (refine peelD fun rq hrq => ?_; (iterate 2 ((try simp (etaStruct := .none) only [push_cast, Int.cast_ofNat_Int, seval, hdq, id, mput_def, ← hS, hln.1, getD_in _ _ _ hlt, trpP, hj, getD_in _ _ _ hjl, hge, gopP]); (try (refine xsu ?_; try exact xtI)))); subst hrq)
     refine endD ?_
     subst hRq
     clear hdq Oq
     refine endE (by kernel_rfl) ?_
     (iterate 2 ((try simp (etaStruct := .none) only [push_cast, Int.cast_ofNat_Int, seval, mput_def, ← hS, hln.1, getD_in _ _ _ hlt, trpP, hAg, hAl, List.take_nil, List.map_nil]); (try (refine xsu ?_; try exact xtI))))
     refine cond_i (fun h4 => ?_) (fun h4 => ?_)
     ·(iterate 2 ((try simp (etaStruct := .none) only [push_cast, Int.cast_ofNat_Int, seval]); (try (refine xsu ?_; try exact xtI))))
      refine ⟨(k + 1, em), ⟨by simp only; omega, by simp only; rw [hsk, hms]; exact hm⟩, by simp only; omega, To.mk [0, 1, 2, 3] rfl rfl (by decide) ?_ ?_⟩
      ·(iterate 2 ((try simp (etaStruct := .none) only [push_cast, DrawG, Int.cast_ofNat_Int, seval, hsk, hms]); (try (refine xsu ?_; try exact xtI))))
      ·(iterate 2 ((try simp (etaStruct := .none) (maxSteps := 1000000) only [push_cast, DrawG, Int.cast_ofNat_Int, seval]); (try (refine xsu ?_; try exact xtI))))
     ·simp at h4
    have hB1 : 1 < wl.length := by omega
    have hBl : ((wl.length : Int) < 2) = False := eq_false (by omega)
    have hE0 : wayE (WR (S.1.getD k default).c) w.f (S.1.getD k default).c g.to = 0 := by
     rcases Decidable.em (wayE (WR (S.1.getD k default).c) w.f (S.1.getD k default).c g.to = 0) with h | h
     ·exact h
     ·rw [hwl] at hB1; unfold wayW at hB1; rw [if_neg h] at hB1; simp at hB1
    have hcm := hm (wl.getD 1 default).x (wl.getD 1 default).y
    have hcl := cntC_le ⟨(wl.getD 1 default).x, (wl.getD 1 default).y⟩ S.1
    have hanyc := cntC_pos ⟨(wl.getD 1 default).x, (wl.getD 1 default).y⟩ S.1
    (iterate 2 ((try simp (etaStruct := .none) only [push_cast, Int.cast_ofNat_Int, seval, mput_def, ← hS, hln.1, getD_in _ _ _ hlt, trpP, hj, getD_in _ _ _ hjl, hge, gopP, getD_in _ _ _ hB1, celP, hBl, hE0]); (try (refine xsu ?_; try exact xtI))))
    refine drawG_w [some 47, some 48, some 49, some 50, some 51, some 52, some 53, some 54, some 55, some 56, some 57, some 58, some 46, some 59, some 60, some 61, some 12, some 13, some 14] rfl ?_
    intro Oq lq Rq hlq hdq hRq
    subst hlq
    iterate 11 (refine peelD fun rq hrq => ?_; (iterate 2 ((try simp (etaStruct := .none) only [push_cast, Int.cast_ofNat_Int, seval, hdq, id, mput_def, ← hS, hln.1, getD_in _ _ _ hlt, trpP, hj, getD_in _ _ _ hjl, hge, gopP, getD_in _ _ _ hB1, celP, hBl, hE0]); (try (refine xsu ?_; try exact xtI)))); subst hrq)
    refine peelD fun rq hrq => ?_
    (iterate 2 ((try simp (etaStruct := .none) only [push_cast, Int.cast_ofNat_Int, seval, hdq, id, mput_def, ← hS, hln.1, getD_in _ _ _ hlt, trpP, hj, getD_in _ _ _ hjl, hge, gopP, getD_in _ _ _ hB1, celP, hBl, hE0]); (try (refine xsu ?_; try exact xtI))))
    refine caP (pfind_s w.f (S.1.getD k default).c g.to hl (WR (S.1.getD k default).c) (hWR _)) ?_
    rw [hwy]
    (iterate 2 ((try simp (etaStruct := .none) only [push_cast, Int.cast_ofNat_Int, seval, hdq, id, mput_def, ← hS, hln.1, getD_in _ _ _ hlt, trpP, hj, getD_in _ _ _ hjl, hge, gopP, getD_in _ _ _ hB1, celP, hBl, hE0]); (try (refine xsu ?_; try exact xtI))))
    subst hrq
    iterate 7 (refine peelD fun rq hrq => ?_; (iterate 2 ((try simp (etaStruct := .none) only [push_cast, Int.cast_ofNat_Int, seval, hdq, id, mput_def, ← hS, hln.1, getD_in _ _ _ hlt, trpP, hj, getD_in _ _ _ hjl, hge, gopP, getD_in _ _ _ hB1, celP, hBl, hE0]); (try (refine xsu ?_; try exact xtI)))); subst hrq)
    refine endD ?_
    subst hRq
    clear hdq Oq
    refine endE (by kernel_rfl) ?_
    (iterate 2 ((try simp (etaStruct := .none) only [push_cast, Int.cast_ofNat_Int, seval, mput_def, ← hS, hln.1, getD_in _ _ _ hlt, trpP, hj, getD_in _ _ _ hjl, hge, gopP, getD_in _ _ _ hB1, celP, hBl, hE0]); (try (refine xsu ?_; try exact xtI))))
    refine cond_i (fun h4 => ?_) (fun h4 => ?_)
    ·(try replace h4 := xhh h4)
     have hms : marchS w.f WR l S k = S := marchS_none (by rw [hst, if_pos (.inr (hanyc.1 (by omega)))])
     (iterate 2 ((try simp (etaStruct := .none) only [push_cast, Int.cast_ofNat_Int, seval, mput_def, ← hS, hln.1, getD_in _ _ _ hlt, trpP, hj, getD_in _ _ _ hjl, hge, gopP, getD_in _ _ _ hB1, celP, hBl, hE0]); (try (refine xsu ?_; try exact xtI))))
     refine ⟨(k + 1, em), ⟨by simp only; omega, by simp only; rw [hsk, hms]; exact hm⟩, by simp only; omega, To.mk [0, 1, 2, 3] rfl rfl (by decide) ?_ ?_⟩
     ·(iterate 2 ((try simp (etaStruct := .none) only [push_cast, DrawG, Int.cast_ofNat_Int, seval, hsk, hms]); (try (refine xsu ?_; try exact xtI))))
     ·(iterate 2 ((try simp (etaStruct := .none) only [push_cast, Int.cast_ofNat_Int, seval, mput_def, ← hS, hln.1, getD_in _ _ _ hlt, trpP, hj, getD_in _ _ _ hjl, hge, gopP, getD_in _ _ _ hB1, celP, hBl, hE0]); (try (refine xsu ?_; try exact xtI))))
    ·(try replace h4 := xhh h4)
     have hno : ¬ (S.1.any fun o => decide (o.c = (wl.getD 1 default))) = true := fun h => by have := hanyc.2 h; omega
     have hms : marchS w.f WR l S k = (S.1.set k (setC (S.1.getD k default) (wl.getD 1 default)), S.2 ++ [(S.1.getD k default).id]) := marchS_some (by rw [hst, if_neg (fun h => by rcases h with h | h; omega; exact hno h)])
     have hmv := hm.move hlt (wl.getD 1 default)
     have hmp1 := mpos_lt [(S.1.getD k default).c.x, (S.1.getD k default).c.y] em
     have hc1 := hm (S.1.getD k default).c.x (S.1.getD k default).c.y
     have hcl1 := cntC_le ⟨(S.1.getD k default).c.x, (S.1.getD k default).c.y⟩ S.1
     have hmp2 := mpos_lt [(wl.getD 1 default).x, (wl.getD 1 default).y] (mput [(S.1.getD k default).c.x, (S.1.getD k default).c.y] (mget [(S.1.getD k default).c.x, (S.1.getD k default).c.y] em - 1) em)
     have hb2 : -1 ≤ mget [(wl.getD 1 default).x, (wl.getD 1 default).y] (mput [(S.1.getD k default).c.x, (S.1.getD k default).c.y] (mget [(S.1.getD k default).c.x, (S.1.getD k default).c.y] em - 1) em) ∧ mget [(wl.getD 1 default).x, (wl.getD 1 default).y] (mput [(S.1.getD k default).c.x, (S.1.getD k default).c.y] (mget [(S.1.getD k default).c.x, (S.1.getD k default).c.y] em - 1) em) ≤ 100 := by
      rw [mget_put_if]; split <;> omega
     have hgs : ∀ x : List PV, ((S.1.map trpP).set k x).getD k [] = x := fun x => by
      rw [List.getD_eq_getElem?_getD, List.getElem?_set_self (by rw [List.length_map]; exact hlt)]; rfl
     (iterate 2 ((try simp (etaStruct := .none) only [push_cast, Int.cast_ofNat_Int, seval, mput_def, ← hS, hln.1, getD_in _ _ _ hlt, trpP, hj, getD_in _ _ _ hjl, hge, gopP, getD_in _ _ _ hB1, celP, hBl, hE0, hgs, List.length_set, List.set_set]); (try (refine xsu ?_; try exact xtI))))
     refine drawG_w [some 77, some 78, some 79, some 80, some 81, some 82, some 83, some 84, some 85, none] rfl ?_
     intro Oq lq Rq hlq hdq hRq
     subst hlq
     iterate 10 (refine peelD fun rq hrq => ?_; (iterate 2 ((try simp (etaStruct := .none) only [push_cast, Int.cast_ofNat_Int, seval, hdq, id, mput_def, ← hS, hln.1, getD_in _ _ _ hlt, trpP, hj, getD_in _ _ _ hjl, hge, gopP, getD_in _ _ _ hB1, celP, hBl, hE0, hgs, List.length_set, List.set_set]); (try (refine xsu ?_; try exact xtI)))); subst hrq)
     refine endD ?_
     subst hRq
     clear hdq Oq
     refine endE (by kernel_rfl) ?_
     (iterate 2 ((try simp (etaStruct := .none) only [push_cast, Int.cast_ofNat_Int, seval, mput_def, ← hS, hln.1, getD_in _ _ _ hlt, trpP, hj, getD_in _ _ _ hjl, hge, gopP, getD_in _ _ _ hB1, celP, hBl, hE0, hgs, List.length_set, List.set_set]); (try (refine xsu ?_; try exact xtI))))
     refine drawG_w [some 86, some 87, some 88, some 89, some 90, some 91, none] rfl ?_
     intro Oq lq Rq hlq hdq hRq
     subst hlq
     iterate 7 (refine peelD fun rq hrq => ?_; (iterate 2 ((try simp (etaStruct := .none) only [push_cast, Int.cast_ofNat_Int, seval, hdq, id, mput_def, ← hS, hln.1, getD_in _ _ _ hlt, trpP, hj, getD_in _ _ _ hjl, hge, gopP, getD_in _ _ _ hB1, celP, hBl, hE0, hgs, List.length_set, List.set_set]); (try (refine xsu ?_; try exact xtI)))); subst hrq)
     refine endD ?_
     subst hRq
     clear hdq Oq
     refine endE (by kernel_rfl) ?_
     (iterate 2 ((try simp (etaStruct := .none) only [push_cast, Int.cast_ofNat_Int, seval, mput_def, ← hS, hln.1, getD_in _ _ _ hlt, trpP, hj, getD_in _ _ _ hjl, hge, gopP, getD_in _ _ _ hB1, celP, hBl, hE0, hgs, List.length_set, List.set_set]); (try (refine xsu ?_; try exact xtI))))
     refine drawG_w [some 92, some 93, some 94, some 95, some 96, some 97, some 98, some 99, some 100, none] rfl ?_
     intro Oq lq Rq hlq hdq hRq
     subst hlq
     iterate 10 (refine peelD fun rq hrq => ?_; (iterate 2 ((try simp (etaStruct := .none) only [push_cast, Int.cast_ofNat_Int, seval, hdq, id, mput_def, ← hS, hln.1, getD_in _ _ _ hlt, trpP, hj, getD_in _ _ _ hjl, hge, gopP, getD_in _ _ _ hB1, celP, hBl, hE0, hgs, List.length_set, List.set_set]); (try (refine xsu ?_; try exact xtI)))); subst hrq)
     refine endD ?_
     subst hRq
     clear hdq Oq
     refine endE (by kernel_rfl) ?_
     (iterate 2 ((try simp (etaStruct := .none) only [push_cast, Int.cast_ofNat_Int, seval, mput_def, ← hS, hln.1, getD_in _ _ _ hlt, trpP, hj, getD_in _ _ _ hjl, hge, gopP, getD_in _ _ _ hB1, celP, hBl, hE0, hgs, List.length_set, List.set_set]); (try (refine xsu ?_; try exact xtI))))
     refine ⟨(k + 1, mput [(wl.getD 1 default).x, (wl.getD 1 default).y] (mget [(wl.getD 1 default).x, (wl.getD 1 default).y] (mput [(S.1.getD k default).c.x, (S.1.getD k default).c.y] (mget [(S.1.getD k default).c.x, (S.1.getD k default).c.y] em - 1) em) + 1) (mput [(S.1.getD k default).c.x, (S.1.getD k default).c.y] (mget [(S.1.getD k default).c.x, (S.1.getD k default).c.y] em - 1) em)), ⟨by simp only; omega, by simp only; rw [hsk, hms]; exact hmv⟩, by simp only; omega, To.mk [0, 1, 2, 190] rfl rfl (by decide) ?_ ?_⟩
     ·(iterate 2 ((try simp (etaStruct := .none) only [push_cast, DrawG, Int.cast_ofNat_Int, seval, hsk, hms, List.map_set, List.map_append, trpP, setC, i64P]); (try (refine xsu ?_; try exact xtI))))
     ·(iterate 2 ((try simp (etaStruct := .none) only [push_cast, Int.cast_ofNat_Int, seval, mput_def, ← hS, hln.1, getD_in _ _ _ hlt, trpP, hj, getD_in _ _ _ hjl, hge, gopP, getD_in _ _ _ hB1, celP, hBl, hE0, hgs, List.length_set, List.set_set]); (try (refine xsu ?_; try exact xtI))))
  ·(try replace h2 := xhh h2)
   obtain rfl : k = w.troops.length := by omega
   have hmv : marchV w.f WR l w.troops = S := hS.symm
   (iterate 2 ((try simp (etaStruct := .none) only [push_cast, Int.cast_ofNat_Int, seval, mput_def, ← hS, hln.1]); (try (refine xsu ?_; try exact xtI))))
   refine retM [0] rfl rfl (by decide) ⟨?_, trivial⟩ trivial ?_ <;> simp (etaStruct := .none) only [push_cast, DrawG, Int.cast_ofNat_Int, seval, hmv]
end Go.Proofs.YthiddmncjafklaaGreat
