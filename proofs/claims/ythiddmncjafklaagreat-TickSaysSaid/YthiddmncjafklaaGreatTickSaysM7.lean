/- Lemmas for the proof of tickSays.proved. -/
import Derived.Test.YthiddmncjafklaaGreatTickSaysM6
namespace Go.Proofs.YthiddmncjafklaaGreat
set_option linter.all false
open Go.RowKit
set_option maxRecDepth 100000
structure Right (w : Wld) : Prop where
 f : fldE w.f = 0
 nb : w.bases.length ≤ 8
 nt : w.troops.length ≤ 100
 sl : w.stocks.length = w.bases.length
 ml : w.mines.length = w.f.p.length
 nx : 1 ≤ w.next ∧ w.next ≤ 1000000
 nw : 0 ≤ w.now ∧ w.now ≤ 1000000
 base : ∀ i, i < w.bases.length → groundV w.f (w.bases.getD i default) = true ∧ (0 ≤ w.stocks.getD i default ∧ w.stocks.getD i default ≤ 1000000) ∧ ∀ j, j < i → w.bases.getD j default ≠ w.bases.getD i default
 mine : ∀ i, i < w.mines.length → (0 ≤ w.mines.getD i default ∧ w.mines.getD i default ≤ 1000000) ∧ (w.mines.getD i default = 0 ∨ w.f.p.getD i default = 3)
 trp : ∀ k, k < w.troops.length → TrpOk w (w.troops.getD k default)
 ord : ∀ j k, j < k → k < w.troops.length → (w.troops.getD j default).id < (w.troops.getD k default).id ∧ (w.troops.getD j default).c ≠ (w.troops.getD k default).c
theorem right_of {w : Wld} (h : worldE w = 0) : Right w := by
 obtain ⟨h1, h2, h3, h4, h5⟩ := worldE_ok h
 obtain ⟨g1, g2, g3, g4⟩ := worldF_ok h4
 unfold worldB at h5
 simp only [Bool.and_eq_true] at h5
 obtain ⟨⟨b1, b2⟩, b3⟩ := h5
 rw [allN_iff] at b1 b2 b3
 refine ⟨h1, h2, h3, g1, g2, g3, g4, fun i hi => ?_, fun i hi => ?_, fun k hk => (troop_ok h hk).1, fun j k hjk hk => ?_⟩
 ·have := b1 i hi
  unfold baseB at this
  simp only [Bool.and_eq_true, within_iff] at this
  obtain ⟨⟨a1, a2⟩, a3⟩ := this
  rw [allN_iff] at a3
  exact ⟨a1, a2, fun j hj => by have := a3 j hj; simpa using this⟩
 ·have := b2 i hi
  unfold mineB at this
  simp only [Bool.and_eq_true, Bool.or_eq_true, within_iff, decide_eq_true_eq] at this
  exact this
 ·have h6 := (troop_ok h hk).2
  unfold trp2 at h6
  have := (allN_iff _ _).1 h6 j hjk
  simp only [Bool.and_eq_true, decide_eq_true_eq, Bool.not_eq_true', decide_eq_false_iff_not] at this
  exact this
theorem Right.e {w : Wld} (h : Right w) : worldE w = 0 := by
 have hb : ¬ (8 < w.bases.length ∨ 100 < w.troops.length) := by have := h.nb; have := h.nt; omega
 refine worldE_fine h.f hb ?_ ?_
 ·unfold worldF
  rw [decide_eq_true h.sl, decide_eq_true h.ml, (within_iff).2 h.nx, (within_iff).2 h.nw]; rfl
 ·unfold worldB
  rw [Bool.and_eq_true, Bool.and_eq_true, allN_iff, allN_iff, allN_iff]
  refine ⟨⟨fun i hi => ?_, fun i hi => ?_⟩, fun i hi => ?_⟩
  ·obtain ⟨a1, a2, a3⟩ := h.base i hi
   unfold baseB
   rw [a1, (within_iff).2 a2, Bool.true_and, Bool.true_and, allN_iff]
   intro j hj
   rw [decide_eq_false (a3 j hj)]; rfl
  ·obtain ⟨a1, a2⟩ := h.mine i hi
   unfold mineB
   rw [(within_iff).2 a1, Bool.true_and, Bool.or_eq_true, decide_eq_true_eq, decide_eq_true_eq]; exact a2
  ·have ok := h.trp i hi
   unfold troopB trp1 trp2
   rw [(within_iff).2 (by rcases ok.kind with e | e <;> omega), (within_iff).2 ok.id, (within_iff).2 ok.owner, ok.at_, (within_iff).2 ok.life, (within_iff).2 ok.load, Bool.true_and, Bool.true_and, Bool.true_and, Bool.true_and, Bool.true_and, Bool.true_and, allN_iff]
   intro j hj
   obtain ⟨c1, c2⟩ := h.ord j i hj hi
   rw [decide_eq_true c1, decide_eq_false c2]; rfl
theorem Right.l {w : Wld} (h : Right w) : wldL w := by
 obtain ⟨⟨f1, f2⟩, ⟨f3, f4⟩, f5, f6⟩ := fldE_ok h.f
 have hm : w.f.w * w.f.h ≤ 40 * 40 := Int.mul_le_mul f2 f4 (by omega) (by omega)
 have a1 := h.nb; have a2 := h.nt; have a3 := h.sl; have a4 := h.ml
 unfold wldL; omega
theorem Right.places {w : Wld} (h : Right w) : w.f.p.length ≤ 1600 := by
 obtain ⟨⟨f1, f2⟩, ⟨f3, f4⟩, f5, f6⟩ := fldE_ok h.f
 have hm : w.f.w * w.f.h ≤ 40 * 40 := Int.mul_le_mul f2 f4 (by omega) (by omega)
 omega
theorem trpOk_of {w : Wld} {t : Trp} (hk : t.kind = 1 ∨ t.kind = 2) (hi : 1 ≤ t.id ∧ t.id ≤ w.next - 1) (ho : 0 ≤ t.owner ∧ t.owner ≤ (w.bases.length : Int) - 1) (hg : groundV w.f t.c = true) (hl : 1 ≤ t.life ∧ t.life ≤ (kindV t.kind).life) (hd : 0 ≤ t.load ∧ t.load ≤ 5 * (2 - t.kind)) : TrpOk w t := by
 have h := inF_iff.1 (ground_iff.1 hg).1
 exact ⟨hk, hi, ho, hg, h.1, h.2, hl, hd⟩
theorem getD_set {α : Type} [Inhabited α] {l : List α} {i : Nat} (v : α) (p : Nat) (hi : i < l.length) : (l.set i v).getD p default = if p = i then v else l.getD p default := by
 by_cases h : p = i
 ·subst h; rw [if_pos rfl, getD_at _ _ (by simpa using hi)]; simp
 ·rw [if_neg h]
  simp only [List.getD_eq_getElem?_getD, List.getElem?_set, if_neg (Ne.symm h)]
theorem set_same {α : Type} [Inhabited α] (l : List α) (i : Nat) (hi : i < l.length) : l.set i (l.getD i default) = l := by
 refine List.ext_getElem (by simp) fun j h1 h2 => ?_
 rw [List.getElem_set]
 split
 ·rename_i h; subst h; rw [getD_at _ _ hi]
 ·rfl
theorem right_struck {w : Wld} (h : Right w) (l : List Blw) (hb : ∀ id, 0 ≤ harmV w l id) : Right (struckW w l) := by
 have hsub : (leftV w l).length ≤ w.troops.length := by
  have := List.length_filter_le (fun t : Trp => decide (0 < t.life)) (w.troops.map (woundT w l))
  rw [List.length_map] at this; exact this
 have hp : (leftV w l).Pairwise fun a b => a.id < b.id ∧ a.c ≠ b.c := by
  refine List.Pairwise.filter _ ?_
  rw [List.pairwise_map, List.pairwise_iff_getElem]
  intro i j hi hj hij
  have := h.ord i j hij hj
  rw [getD_at _ _ hi, getD_at _ _ hj] at this
  exact this
 refine ⟨h.f, h.nb, Nat.le_trans hsub h.nt, h.sl, h.ml, h.nx, h.nw, h.base, h.mine, fun k hk => ?_, fun j k hjk hk => ?_⟩
 ·have hk' : k < (leftV w l).length := hk
  have hm := getD_mem _ _ hk'
  obtain ⟨h1, h2⟩ := List.mem_filter.1 hm
  obtain ⟨t, ht, e⟩ := List.mem_map.1 h1
  obtain ⟨q, hq, e2⟩ := mem_getD.1 ht
  have ok := h.trp q hq
  rw [e2] at ok
  change TrpOk (struckW w l) ((leftV w l).getD k default)
  rw [← e] at h2 ⊢
  rw [decide_eq_true_eq] at h2
  have hh := hb t.id
  have hlf := ok.life
  refine trpOk_of ok.kind ok.id ok.owner ok.at_ ⟨by omega, ?_⟩ ok.load
  change t.life - harmV w l t.id ≤ (kindV t.kind).life
  omega
 ·have hj : j < (leftV w l).length := Nat.lt_trans hjk hk
  have := List.pairwise_iff_getElem.1 hp j k hj hk hjk
  change ((leftV w l).getD j default).id < ((leftV w l).getD k default).id ∧ ((leftV w l).getD j default).c ≠ ((leftV w l).getD k default).c
  rw [getD_at (leftV w l) _ hj, getD_at (leftV w l) _ hk]; exact this
end Go.Proofs.YthiddmncjafklaaGreat
namespace Go.Proofs.YthiddmncjafklaaGreat
set_option linter.all false
open Go.RowKit
set_option maxRecDepth 100000
set_option maxHeartbeats 2000000
def setT (w : Wld) (ts : List Trp) : Wld := { w with troops := ts }
abbrev wldT (w : Wld) (t : AV) : List AV := [I .i64 w.f.w, I .i64 w.f.h, .c (.sl 1 (w.f.p.map i64P)), .c (.sl 2 (w.bases.map celP)), .c (.sl 1 (w.stocks.map i64P)), .c (.sl 1 (w.mines.map i64P)), t, I .i64 w.next, I .i64 w.now]
theorem mown_s (w : Wld) (hb : w.f.p.length ≤ 1600 ∧ w.bases.length ≤ 8 ∧ w.stocks.length ≤ 8 ∧ w.mines.length ≤ 1600 ∧ w.troops.length ≤ 100) : Spec Tryz.prog 57 [wldA w] [] (.agg (wldT w (.own 0))) [.row 89 7 (w.troops.map trpP)] := by
 refine spec_am Tryz.func57 rfl rfl mix 26 rfl [.cell 2 28] Tryz.results57 (Nat.le_of_ble_eq_true rfl) ?_
 (try (refine xst ?_; try exact xtI))
 refine caM [] (int_clone w.f.p (by omega)) ?_
 (try (refine xst ?_; try exact xtI))
 refine caM [] (cel_clone w.bases (by omega)) ?_
 (try (refine xst ?_; try exact xtI))
 refine caM [] (int_clone w.stocks (by omega)) ?_
 (try (refine xst ?_; try exact xtI))
 (try (refine ⟨by kernel_rfl, ?_⟩))
 (try (refine xst ?_; try exact xtI))
 refine caM [] (int_clone w.mines (by omega)) ?_
 (try (refine xst ?_; try exact xtI))
 refine caM [] (trp_clone w.troops (by omega)) ?_
 (try (refine xst ?_; try exact xtI))
 (try (refine ⟨by kernel_rfl, ?_⟩))
 (try (refine xst ?_; try exact xtI))
 refine retM [63] rfl rfl (by decide) ⟨?_, trivial⟩ ⟨rfl, trivial⟩ (Wk.of ?_)
 ·simp (etaStruct := .none) only [push_cast, DrawG, Int.cast_ofNat_Int, seval]
 ·first | rfl | kernel_rfl
def stepE (w : Wld) (l : List Gop) : Int := if worldE w ≠ 0 then worldE w else if 200 < l.length then 2 else 0
theorem right_b {w : Wld} (hw : Right w) : w.f.p.length ≤ 1600 ∧ w.bases.length ≤ 8 ∧ w.stocks.length ≤ 8 ∧ w.mines.length ≤ 1600 ∧ w.troops.length ≤ 100 := by
 have hfo := fldE_ok hw.f
 have hm2 : w.f.w * w.f.h ≤ 40 * 40 := Int.mul_le_mul hfo.1.2 hfo.2.1.2 (by omega) (by omega)
 have h1 := hw.nb
 have h2 := hw.sl
 have h3 := hw.ml
 have h4 := hw.nt
 omega
theorem mstepW_s (w : Wld) (l : List Gop) (WR : Cel → List Int) (hWR : ∀ a, FloodIs w.f [a] (WR a)) (hl : wldL w) (hll : l.length ≤ 9223372036854775807) : Spec Tryz.prog 26 [wldA w, .c (.sl 3 (l.map gopP))] [] (.tup [wldA (if stepE w l = 0 then setT w (marchV w.f WR l w.troops).1 else default), .c (.sl 1 ((if stepE w l = 0 then (marchV w.f WR l w.troops).2 else []).map i64P)), I .i64 (stepE w l)]) [] := by
 refine spec_am Tryz.func26 rfl rfl mix 26 rfl [.cell 4 28, .tmp 5, .tmp 6] Tryz.results26 (Nat.le_of_ble_eq_true rfl) ?_
 (try (refine xst ?_; try exact xtI))
 refine caP (tcheck_s w hl) ?_
 (try (refine xst ?_; try exact xtI))
 refine cond_i (fun h1 => ?_) (fun h1 => ?_)
 ·(try replace h1 := xhh h1)
  have e : stepE w l = worldE w := by unfold stepE; rw [if_pos h1]
  rw [e, if_neg h1, if_neg h1]
  (try (refine xst ?_; try exact xtI))
  exact xrz rfl
 ·(try replace h1 := xhh h1)
  have hw := right_of h1
  (try (refine xst ?_; try exact xtI))
  refine cond_i (fun h2 => ?_) (fun h2 => ?_)
  ·(try replace h2 := xhh h2)
   have e : stepE w l = 2 := by unfold stepE; rw [if_neg (by simp [h1]), if_pos (by omega)]
   rw [e, if_neg (by decide), if_neg (by decide)]
   (try (refine xst ?_; try exact xtI))
   exact xrz rfl
  ·(try replace h2 := xhh h2)
   have e : stepE w l = 0 := by unfold stepE; rw [if_neg (by simp [h1]), if_neg (by omega)]
   rw [e, if_pos rfl, if_pos rfl]
   have hb := right_b hw
   (try (refine xst ?_; try exact xtI))
   refine caM [] (mown_s w hb) ?_
   (try (refine xst ?_; try exact xtI))
   refine caM [2] (mstep_s w l WR hWR (by omega) (by omega) (by omega)) ?_
   (try (refine xst ?_; try exact xtI))
   refine ret0 rfl (by repeat' (first | exact trivial | exact rfl | refine ⟨?_, ?_⟩)) (Wk.of ?_)
   first | rfl | kernel_rfl
end Go.Proofs.YthiddmncjafklaaGreat
namespace Go.Proofs.YthiddmncjafklaaGreat
set_option linter.all false
open Go.RowKit
set_option maxRecDepth 100000
theorem wayL_ground {f : Fld} {a b : Cel} {R : List Int} {W H : Nat} (s : Srch f a b R W H) (hf : fldE f = 0) (ha : inF f a = true) (hpa : placeV f a ≠ 1) : ∀ (N : Nat) (c : Cel), inF f c = true → 0 ≤ R.getD (idxN f c) default → ∀ x ∈ wayL R f a N c, groundV f x = true
 | 0, c, _, _, x, hx => by unfold wayL at hx; cases hx
 | N + 1, c, hc, h0, x, hx => by
  unfold wayL at hx
  by_cases hca : c = a
  ·rw [if_pos hca] at hx; cases hx
  ·rw [if_neg hca] at hx
   obtain ⟨_, _, h3, _, h5, _⟩ := nxt_ok s.w s.h s.w0 hf s.l s.r ha hc hca h0
   rcases List.mem_cons.1 hx with e | hx
   ·rw [e, ground_iff]
    refine ⟨h3, ?_⟩
    obtain ⟨en, hnL⟩ := in_celW s.w s.h s.w0 hf h3
    rcases s.r.why _ hnL h5 with ⟨w1, _⟩ | ⟨_, _, _, hr, _⟩
    ·rw [List.mem_singleton] at w1
     have epl : ∀ n, placeV f n = f.p.getD (idxN f n) default := fun _ => rfl
     rw [epl, w1]; exact hpa
    ·exact hr
   ·exact wayL_ground s hf ha hpa N _ h3 h5 x hx
theorem wayW_ground {f : Fld} {WR : Cel → List Int} (hWR : ∀ a, FloodIs f [a] (WR a)) {a b x : Cel} (hx : x ∈ wayW f WR a b) : groundV f x = true := by
 unfold wayW at hx
 by_cases he : wayE (WR a) f a b = 0
 ·rw [if_pos he] at hx
  unfold wayE at he
  by_cases hf : fldE f = 0
  ·rw [if_neg (by simpa using hf)] at he
   by_cases hi : inF f a = true ∧ inF f b = true
   ·rw [if_neg (by simpa using hi)] at he
    by_cases hp : placeV f a = 1 ∨ placeV f b = 1
    ·rw [if_pos hp] at he; exact absurd he (by decide)
    ·rw [if_neg hp] at he
     by_cases hr : (WR a).getD (idxN f b) default < 0
     ·rw [if_pos hr] at he; exact absurd he (by decide)
     ·have hpa : placeV f a ≠ 1 := fun h => hp (Or.inl h)
      have hpb : placeV f b ≠ 1 := fun h => hp (Or.inr h)
      obtain ⟨W, H, s⟩ := srch (b := b) hf hi.1 hpa (hWR a)
      unfold wayV at hx
      rw [List.mem_reverse] at hx
      rcases List.mem_cons.1 hx with e | hx
      ·rw [e]; exact ground_iff.2 ⟨hi.2, hpb⟩
      ·exact wayL_ground s hf hi.1 hpa _ b hi.2 (by omega) x hx
   ·rw [if_pos hi] at he; exact absurd he (by decide)
  ·rw [if_pos hf] at he; exact absurd he hf
 ·rw [if_neg he] at hx; cases hx
theorem stepT_ground {f : Fld} {WR : Cel → List Int} (hWR : ∀ a, FloodIs f [a] (WR a)) {l : List Gop} {ts : List Trp} {t : Trp} {c : Cel} (h : stepT f WR l ts t = some c) : groundV f c = true ∧ (ts.any fun o => decide (o.c = c)) = false := by
 unfold stepT at h
 split at h
 ·cases h
 ·rename_i g _
  split at h
  ·cases h
  ·rename_i hn
   cases h
   have h1 : 1 < (wayW f WR t.c g.to).length := by omega
   refine ⟨wayW_ground hWR (getD_mem _ _ h1), ?_⟩
   cases e : ts.any fun o => decide (o.c = (wayW f WR t.c g.to).getD 1 default) with
   | false => rfl
   | true => exact absurd (Or.inr e) hn
theorem right_setC {w : Wld} (h : Right w) {i : Nat} (hi : i < w.troops.length) {c : Cel} (hg : groundV w.f c = true) (hn : (w.troops.any fun o => decide (o.c = c)) = false) : Right (setT w (w.troops.set i (setC (w.troops.getD i default) c))) := by
 have G := fun p => getD_set (setC (w.troops.getD i default) c) p hi
 have hno : ∀ k, k < w.troops.length → (w.troops.getD k default).c ≠ c := fun k hk e => by
  have := List.any_eq_false.1 hn _ (getD_mem _ _ hk)
  rw [e] at this; simp at this
 refine ⟨h.f, h.nb, by simpa [setT] using h.nt, h.sl, h.ml, h.nx, h.nw, h.base, h.mine, fun k hk => ?_, fun j k hjk hk => ?_⟩
 ·have hk' : k < w.troops.length := by simpa [setT] using hk
  have e : ∀ t, TrpOk w t → TrpOk (setT w (w.troops.set i (setC (w.troops.getD i default) c))) t := fun t ht => ⟨ht.kind, ht.id, ht.owner, ht.at_, ht.x, ht.y, ht.life, ht.load⟩
  have G' := G k
  change TrpOk _ ((w.troops.set i (setC (w.troops.getD i default) c)).getD k default)
  rw [G']
  split
  ·have ok := h.trp i hi
   exact e _ (trpOk_of ok.kind ok.id ok.owner hg ok.life ok.load)
  ·exact e _ (h.trp k hk')
 ·have hk' : k < w.troops.length := by simpa [setT] using hk
  have hj' : j < w.troops.length := Nat.lt_trans hjk hk'
  have := h.ord j k hjk hk'
  change ((w.troops.set i (setC (w.troops.getD i default) c)).getD j default).id < ((w.troops.set i (setC (w.troops.getD i default) c)).getD k default).id ∧ ((w.troops.set i (setC (w.troops.getD i default) c)).getD j default).c ≠ ((w.troops.set i (setC (w.troops.getD i default) c)).getD k default).c
  rw [G j, G k]
  by_cases e1 : j = i
  ·have e2 : k ≠ i := by omega
   rw [if_pos e1, if_neg e2]
   subst e1
   exact ⟨this.1, fun e => hno k hk' e.symm⟩
  ·rw [if_neg e1]
   by_cases e2 : k = i
   ·rw [if_pos e2]
    subst e2
    exact ⟨this.1, fun e => hno j hj' e⟩
   ·rw [if_neg e2]; exact this
theorem right_marchK {w : Wld} (h : Right w) {WR : Cel → List Int} (hWR : ∀ a, FloodIs w.f [a] (WR a)) (l : List Gop) : ∀ k, k ≤ w.troops.length → Right (setT w (marchK w.f WR l w.troops k).1)
 | 0, _ => by rw [marchK_zero]; exact h
 | k + 1, hk => by
  have ih := right_marchK h hWR l k (by omega)
  have hlen := (marchK_len w.f WR l w.troops k).1
  rw [marchK_succ]
  unfold marchS
  split
  ·exact ih
  ·rename_i c hs
   obtain ⟨g1, g2⟩ := stepT_ground hWR hs
   exact right_setC ih (i := k) (by change k < (marchK w.f WR l w.troops k).1.length; omega) g1 g2
theorem right_marched {w : Wld} (h : Right w) {WR : Cel → List Int} (hWR : ∀ a, FloodIs w.f [a] (WR a)) (l : List Gop) : Right (setT w (marchV w.f WR l w.troops).1) := right_marchK h hWR l _ (Nat.le_refl _)
end Go.Proofs.YthiddmncjafklaaGreat
namespace Go.Proofs.YthiddmncjafklaaGreat
set_option linter.all false
open Go.RowKit
set_option maxRecDepth 100000
structure HitInv (w : Wld) (m : List Blw) (harm : List Int) (done : List Bool) : Prop where
 l1 : harm.length = w.troops.length
 l2 : done.length = w.troops.length
 val : ∀ j, j < w.troops.length → harm.getD j default = harmV w m (w.troops.getD j default).id
 low : ∀ j, j < w.troops.length → 0 ≤ harm.getD j default ∧ harm.getD j default ≤ 4 * m.length
 did : ∀ j, j < w.troops.length → done.getD j default = m.any (hitP w (w.troops.getD j default))
theorem HitInv.start (w : Wld) : HitInv w [] (List.replicate w.troops.length 0) (List.replicate w.troops.length false) := by
 have g : ∀ j, j < w.troops.length → (List.replicate w.troops.length (0 : Int)).getD j default = 0 := fun j hj => by rw [getD_at _ _ (by simpa using hj)]; simp
 have g2 : ∀ j, j < w.troops.length → (List.replicate w.troops.length false).getD j default = false := fun j hj => by rw [getD_at _ _ (by simpa using hj)]; simp
 exact ⟨by simp, by simp, fun j hj => by rw [g j hj, harm_nil], fun j hj => by rw [g j hj]; simp, fun j hj => by rw [g2 j hj]; rfl⟩
theorem HitInv.skip {w : Wld} (hu : Ups w) {m : List Blw} {harm : List Int} {done : List Bool} (h : HitInv w m harm done) (b : Blw) (hs : blowB w b = false ∨ ∃ i, i < w.troops.length ∧ (w.troops.getD i default).id = b.by_ ∧ done.getD i default = true) : HitInv w (m ++ [b]) harm done := by
 have hs' : blowB w b = false ∨ ∃ i, i < w.troops.length ∧ (w.troops.getD i default).id = b.by_ ∧ m.any (hitP w (w.troops.getD i default)) = true := by
  rcases hs with hs | ⟨i, hi, e, hd⟩
  ·exact .inl hs
  ·exact .inr ⟨i, hi, e, by rw [← h.did i hi]; exact hd⟩
 refine ⟨h.l1, h.l2, fun j hj => by rw [harm_skip hu _ _ _ hs']; exact h.val j hj, fun j hj => ?_, fun j hj => ?_⟩
 ·have := h.low j hj
  rw [List.length_append]; simp only [List.length_cons, List.length_nil]; omega
 ·rw [List.any_append, h.did j hj]
  simp only [List.any_cons, List.any_nil, Bool.or_false]
  cases hp : hitP w (w.troops.getD j default) b with
  | false => rw [Bool.or_false]
  | true =>
   rw [Bool.or_true]
   unfold hitP at hp
   simp only [Bool.and_eq_true, decide_eq_true_eq] at hp
   rcases hs' with hs | ⟨i, hi, e, hd⟩
   ·rw [hs] at hp; simp at hp
   ·by_cases hij : i = j
    ·subst hij; exact hd
    ·exact absurd (e.trans hp.1) (hu.ne hi hj hij)
theorem HitInv.go {w : Wld} (hu : Ups w) {m : List Blw} {harm : List Int} {done : List Bool} (h : HitInv w m harm done) {b : Blw} (hb : blowB w b = true) {i j : Nat} (hi : i < w.troops.length) (hj : j < w.troops.length) (ei : (w.troops.getD i default).id = b.by_) (ej : (w.troops.getD j default).id = b.at_) (hd : done.getD i default = false) :
 HitInv w (m ++ [b]) (harm.set j (harm.getD j default + (kindV (w.troops.getD i default).kind).load)) (done.set i true) := by
 have hn : m.any (hitP w (w.troops.getD i default)) = false := by rw [← h.did i hi]; exact hd
 have hk := kind_harm (w.troops.getD i default).kind
 refine ⟨by rw [List.length_set]; exact h.l1, by rw [List.length_set]; exact h.l2, fun q hq => ?_, fun q hq => ?_, fun q hq => ?_⟩
 ·rw [sgetI _ _ (by rw [h.l1]; exact hj), harm_step hu _ _ _ hb hi ei hn]
  by_cases e : q = j
  ·subst e
   rw [if_pos rfl, if_pos ej.symm, h.val q hq]
  ·rw [if_neg e, if_neg (fun e2 => hu.ne hq hj e (e2.symm.trans ej.symm)), h.val q hq, Int.add_zero]
 ·rw [sgetI _ _ (by rw [h.l1]; exact hj), List.length_append]
  have h1 := h.low q hq
  have h2 := h.low j hj
  simp only [List.length_cons, List.length_nil]
  split <;> omega
 ·rw [sgetB _ _ (by rw [h.l2]; exact hi), List.any_append]
  simp only [List.any_cons, List.any_nil, Bool.or_false]
  by_cases e : q = i
  ·subst e
   rw [if_pos rfl, show hitP w (w.troops.getD q default) b = true by unfold hitP; rw [hb, ei]; simp, Bool.or_true]
  ·rw [if_neg e, h.did q hq, show hitP w (w.troops.getD q default) b = false by
    unfold hitP; rw [decide_eq_false (fun e2 => hu.ne hq hi e (e2.symm.trans ei.symm))]; rfl, Bool.or_false]
section
variable {w : Wld} {b : Blw} {i j : Nat} {p q : Bool}
theorem blow_yes (h1 : p = (findT w b.by_).isSome) (h2 : (findT w b.by_).isSome = true → (w.troops.getD i default).id = b.by_ ∧ (findT w b.by_).getD trp0 = w.troops.getD i default)
 (h3 : q = (findT w b.at_).isSome) (h4 : (findT w b.at_).isSome = true → (w.troops.getD j default).id = b.at_ ∧ (findT w b.at_).getD trp0 = w.troops.getD j default) (hp : p = true) (hq : q = true) (hc : countB w (w.troops.getD i default) (w.troops.getD j default) = true) :
 blowB w b = true ∧ (w.troops.getD i default).id = b.by_ ∧ (w.troops.getD j default).id = b.at_ := by
 rw [hp] at h1; rw [hq] at h3
 have a := h2 h1.symm
 have c := h4 h3.symm
 refine ⟨?_, a.1, c.1⟩
 unfold blowB; rw [← h1, ← h3, a.2, c.2, hc]; rfl
theorem blow_no {done : List Bool} (hi : i < w.troops.length) (h1 : p = (findT w b.by_).isSome) (h2 : (findT w b.by_).isSome = true → (w.troops.getD i default).id = b.by_ ∧ (findT w b.by_).getD trp0 = w.troops.getD i default)
 (h3 : q = (findT w b.at_).isSome) (h4 : (findT w b.at_).isSome = true → (w.troops.getD j default).id = b.at_ ∧ (findT w b.at_).getD trp0 = w.troops.getD j default) (h : ((p = false ∨ q = false) ∨ done.getD i default = true) ∨ countB w (w.troops.getD i default) (w.troops.getD j default) = false) :
 blowB w b = false ∨ ∃ i, i < w.troops.length ∧ (w.troops.getD i default).id = b.by_ ∧ done.getD i default = true := by
 unfold blowB
 rw [← h1, ← h3]
 cases p with
 | false => exact .inl rfl
 | true =>
  cases q with
  | false => exact .inl rfl
  | true =>
   have a := h2 h1.symm
   have c := h4 h3.symm
   rw [a.2, c.2]
   rcases h with (h | h) | h
   ·simp at h
   ·exact .inr ⟨i, hi, a.1, h⟩
   ·exact .inl (by rw [h]; rfl)
end
end Go.Proofs.YthiddmncjafklaaGreat
namespace Go.Proofs.YthiddmncjafklaaGreat
set_option linter.all false
open Go.RowKit
set_option maxRecDepth 100000
set_option maxHeartbeats 1000000
theorem blows_1 (w : Wld) (l : List Blw) (hl : wldL w) (hw : worldE w = 0) (hll : l.length ≤ 200) (ht : 0 < w.troops.length) : Spec Tryz.prog 55 [wldA w, .c (.sl 2 (l.map blwP))] [] (.tup [.c (.sl 1 ((harmR w l).map i64P)), I .i64 (blowsE w l)]) [] := by
 have e : blowsE w l = 0 := by unfold blowsE; rw [if_neg (by simp [hw]), if_neg (by omega)]
 have hu := ups_ok hw
 obtain ⟨w1, w2, w3, w4, w5⟩ := worldE_ok hw
 refine spec_am Tryz.func55 rfl rfl mix 120 rfl [.tmp 4, .tmp 5] Tryz.results55 (Nat.le_of_ble_eq_true rfl) ?_
 (try (refine xst ?_; try exact xtI))
 refine caP (tcheck_s w hl) ?_
 (try (refine xst ?_; try exact xtI))
 refine cond_i (fun h1 => ?_) (fun h1 => ?_)
 ·(try replace h1 := xhh h1)
  exact absurd hw h1
 ·(try replace h1 := xhh h1)
  (try (refine xst ?_; try exact xtI))
  refine cond_i (fun h2 => ?_) (fun h2 => ?_)
  ·(try replace h2 := xhh h2)
   omega
  ·(try replace h2 := xhh h2)
   (try (refine xst ?_; try exact xtI))
   refine loopI (fun x : Nat × List (List Int × Int) => ⟨[(32, I .i64 x.1), (31, I .i64 w.troops.length), (30, .c (.sl 7 (w.troops.map trpP))), (7, .map 1), (2, .ptr 0 0 0), (1, .c (.sl 2 (l.map blwP)))], [(0, .blk 28 (wldC w)), (1, .mp false 1 x.2)], 2⟩) (fun x : Nat × List (List Int × Int) => x.1 ≤ w.troops.length ∧ IdxM w x.1 x.2) (fun x : Nat × List (List Int × Int) => w.troops.length - x.1) ((0, [])) (⟨Nat.zero_le _, fun i => rfl, fun j h => absurd h (Nat.not_lt_zero _)⟩) (To.mk [0, 1] rfl rfl (by decide) ?_ ?_) ?_
   ·simp (etaStruct := .none) only [push_cast, DrawG, Int.cast_ofNat_Int, seval]
   ·simp (etaStruct := .none) only [push_cast, DrawG, Int.cast_ofNat_Int, seval]
   rintro ⟨k, es⟩ ⟨hk, hn⟩
   simp only at hk hn
   (try (refine xst ?_; try exact xtI))
   refine cond_i (fun h3 => ?_) (fun h3 => ?_)
   ·(try replace h3 := xhh h3)
    have hlt : k < w.troops.length := by omega
    (iterate 2 ((try simp (etaStruct := .none) only [push_cast, DrawG, Int.cast_ofNat_Int, seval, getD_in _ _ _ hlt, trpP]); (try (refine xsu ?_; try exact xtI))))
    refine ⟨(k + 1, mput [(w.troops.getD k default).id] (k : Int) es), ⟨by simp only; omega, hn.step hu hlt⟩, by simp only; omega, To.mk [0, 1] rfl rfl (by decide) ?_ ?_⟩
    ·(iterate 2 ((try simp (etaStruct := .none) only [push_cast, DrawG, Int.cast_ofNat_Int, seval, getD_in _ _ _ hlt, trpP]); (try (refine xsu ?_; try exact xtI))))
    ·(iterate 2 ((try simp (etaStruct := .none) only [push_cast, DrawG, Int.cast_ofNat_Int, seval, getD_in _ _ _ hlt, trpP]); (try (refine xsu ?_; try exact xtI))))
   ·(try replace h3 := xhh h3)
    obtain rfl : k = w.troops.length := by omega
    have hget := hn.get ht
    (try (refine xst ?_; try exact xtI))
    refine loopI (fun x : Nat × List Int × List Bool => ⟨[(52, I .i64 x.1), (51, I .i64 l.length), (50, .c (.sl 2 (l.map blwP))), (11, .own 3), (10, .own 2), (7, .map 1), (2, .ptr 0 0 0)], [(0, .blk 28 (wldC w)), (1, .mp false 1 es), (2, .row 3 1 (x.2.1.map i64P)), (3, .row 4 1 (x.2.2.map boolP))], 4⟩) (fun x : Nat × List Int × List Bool => x.1 ≤ l.length ∧ HitInv w (l.take x.1) x.2.1 x.2.2) (fun x : Nat × List Int × List Bool => l.length - x.1) ((0, List.replicate w.troops.length 0, List.replicate w.troops.length false)) (⟨Nat.zero_le _, HitInv.start w⟩) (To.mk [0, 1, 2, 3] rfl rfl (by decide) ?_ ?_) ?_
    ·simp (etaStruct := .none) only [push_cast, DrawG, Int.cast_ofNat_Int, seval, List.map_replicate, List.length_replicate, i64P, boolP]
    ·simp (etaStruct := .none) only [push_cast, DrawG, Int.cast_ofNat_Int, seval]
    rintro ⟨k, harm, done⟩ ⟨hk, hinv⟩
    simp only at hk hinv
    have hl1 := hinv.l1
    have hl2 := hinv.l2
    (try (refine xst ?_; try exact xtI))
    refine cond_i (fun h4 => ?_) (fun h4 => ?_)
    ·(try replace h4 := xhh h4)
     have hlt : k < l.length := by omega
     obtain ⟨b, hb⟩ : ∃ b, b = l.getD k default := ⟨_, rfl⟩
     obtain ⟨i, hi, gi, mi1, mi2⟩ := hget b.by_
     obtain ⟨j, hj, gj, mj1, mj2⟩ := hget b.at_
     have hid : i < done.length := by omega
     have hjh : j < harm.length := by omega
     have htk : l.take (k + 1) = l.take k ++ [b] := by rw [take_snoc _ _ hlt, hb]
     have hlow := hinv.low j hj
     have hkh := kind_harm (w.troops.getD i default).kind
     rw [List.length_take] at hlow
     (iterate 2 ((try simp (etaStruct := .none) only [push_cast, DrawG, Int.cast_ofNat_Int, seval, getD_in _ _ _ hlt, ← hb, blwP, gi, gj, getD_in _ _ _ hid, getD_in _ _ _ hi, getD_in _ _ _ hj, getD_in _ _ _ hjh, trpP, boolP, i64P]); (try (refine xsu ?_; try exact xtI))))
     refine gcP (fun hcc => counts_s w (w.troops.getD i default) (w.troops.getD j default) hl hw (getD_mem _ _ hi) (getD_mem _ _ hj)) ?_
     (iterate 2 ((try simp (etaStruct := .none) only [push_cast, DrawG, Int.cast_ofNat_Int, seval, getD_in _ _ _ hlt, ← hb, blwP, gi, gj, getD_in _ _ _ hid, getD_in _ _ _ hi, getD_in _ _ _ hj, getD_in _ _ _ hjh, trpP, boolP, i64P]); (try (refine xsu ?_; try exact xtI))))
     (try (refine ⟨by kernel_rfl, ?_⟩))
     (iterate 2 ((try simp (etaStruct := .none) only [push_cast, DrawG, Int.cast_ofNat_Int, seval, getD_in _ _ _ hlt, ← hb, blwP, gi, gj, getD_in _ _ _ hid, getD_in _ _ _ hi, getD_in _ _ _ hj, getD_in _ _ _ hjh, trpP, boolP, i64P]); (try (refine xsu ?_; try exact xtI))))
     refine cond_i (fun h5 => ?_) (fun h5 => ?_)
     ·(try replace h5 := xhh h5)
      have hnx := hinv.skip hu b (blow_no hi mi1 mi2 mj1 mj2 h5)
      rw [← htk] at hnx
      (iterate 2 ((try simp (etaStruct := .none) only [push_cast, DrawG, Int.cast_ofNat_Int, seval, getD_in _ _ _ hlt, ← hb, blwP, gi, gj, getD_in _ _ _ hid, getD_in _ _ _ hi, getD_in _ _ _ hj, getD_in _ _ _ hjh, trpP, boolP, i64P]); (try (refine xsu ?_; try exact xtI))))
      refine ⟨(k + 1, harm, done), ⟨by simp only; omega, hnx⟩, by simp only; omega, To.mk [0, 1, 2, 3] rfl rfl (by decide) ?_ ?_⟩
      ·(iterate 2 ((try simp (etaStruct := .none) only [push_cast, DrawG, Int.cast_ofNat_Int, seval, getD_in _ _ _ hlt, ← hb, blwP, gi, gj, getD_in _ _ _ hid, getD_in _ _ _ hi, getD_in _ _ _ hj, getD_in _ _ _ hjh, trpP, boolP, i64P]); (try (refine xsu ?_; try exact xtI))))
      ·(iterate 2 ((try simp (etaStruct := .none) only [push_cast, DrawG, Int.cast_ofNat_Int, seval, getD_in _ _ _ hlt, ← hb, blwP, gi, gj, getD_in _ _ _ hid, getD_in _ _ _ hi, getD_in _ _ _ hj, getD_in _ _ _ hjh, trpP, boolP, i64P]); (try (refine xsu ?_; try exact xtI))))
     ·(try replace h5 := xhh h5)
      obtain ⟨y1, y2, y3⟩ := blow_yes mi1 mi2 mj1 mj2 h5.1.1.1 h5.1.1.2 h5.2
      have hnx := hinv.go hu y1 hi hj y2 y3 h5.1.2
      rw [← htk] at hnx
      (iterate 2 ((try simp (etaStruct := .none) only [push_cast, DrawG, Int.cast_ofNat_Int, seval, getD_in _ _ _ hlt, ← hb, blwP, gi, gj, getD_in _ _ _ hid, getD_in _ _ _ hi, getD_in _ _ _ hj, getD_in _ _ _ hjh, trpP, boolP, i64P]); (try (refine xsu ?_; try exact xtI))))
      refine caP (tkind_s (w.troops.getD i default).kind) ?_
      (iterate 2 ((try simp (etaStruct := .none) only [push_cast, DrawG, Int.cast_ofNat_Int, seval, getD_in _ _ _ hlt, ← hb, blwP, gi, gj, getD_in _ _ _ hid, getD_in _ _ _ hi, getD_in _ _ _ hj, getD_in _ _ _ hjh, trpP, boolP, i64P]); (try (refine xsu ?_; try exact xtI))))
      (try (refine ⟨by kernel_rfl, ?_⟩))
      (iterate 2 ((try simp (etaStruct := .none) only [push_cast, DrawG, Int.cast_ofNat_Int, seval, getD_in _ _ _ hlt, ← hb, blwP, gi, gj, getD_in _ _ _ hid, getD_in _ _ _ hi, getD_in _ _ _ hj, getD_in _ _ _ hjh, trpP, boolP, i64P]); (try (refine xsu ?_; try exact xtI))))
      refine ⟨(k + 1, harm.set j (harm.getD j default + (kindV (w.troops.getD i default).kind).load), done.set i true), ⟨by simp only; omega, hnx⟩, by simp only; omega, To.mk [0, 1, 2, 3] rfl rfl (by decide) ?_ ?_⟩
      ·(iterate 2 ((try simp (etaStruct := .none) only [push_cast, DrawG, Int.cast_ofNat_Int, seval, List.map_set, i64P, boolP]); (try (refine xsu ?_; try exact xtI))))
      ·(iterate 2 ((try simp (etaStruct := .none) only [push_cast, DrawG, Int.cast_ofNat_Int, seval, getD_in _ _ _ hlt, ← hb, blwP, gi, gj, getD_in _ _ _ hid, getD_in _ _ _ hi, getD_in _ _ _ hj, getD_in _ _ _ hjh, trpP, boolP, i64P]); (try (refine xsu ?_; try exact xtI))))
    ·(try replace h4 := xhh h4)
     obtain rfl : k = l.length := by omega
     rw [List.take_length] at hinv
     have e2 : harmR w l = harm := by unfold harmR; rw [if_pos e]; exact (harm_ext hl1 hinv.val).symm
     (try (refine xst ?_; try exact xtI))
     (first | (refine retA rfl (Wk.of ?_); (try simp (etaStruct := .none) only [push_cast, DrawG, Int.cast_ofNat_Int, seval]); first | done | (simp [e, e2, *]; done) | (simp_all [e, e2]; done)) | (refine retA rfl ?_; (try simp (etaStruct := .none) only [push_cast, DrawG, Int.cast_ofNat_Int, seval]); (try simp [e, e2, *]); (try exact wkc)))
theorem blows_0 (w : Wld) (l : List Blw) (hl : wldL w) (hw : worldE w = 0) (hll : l.length ≤ 200) (ht : w.troops = []) : Spec Tryz.prog 55 [wldA w, .c (.sl 2 (l.map blwP))] [] (.tup [.c (.sl 1 ((harmR w l).map i64P)), I .i64 (blowsE w l)]) [] := by
 have e : blowsE w l = 0 := by unfold blowsE; rw [if_neg (by simp [hw]), if_neg (by omega)]
 have e2 : harmR w l = [] := by unfold harmR harmL; rw [if_pos e, ht]; rfl
 obtain ⟨wf, wb, ws, wm, wt, wn, wo⟩ := w
 simp only at ht
 subst ht
 obtain ⟨w, hwd⟩ : ∃ w : Wld, w = ⟨wf, wb, ws, wm, [], wn, wo⟩ := ⟨_, rfl⟩
 refine spec_am Tryz.func55 rfl rfl mix 120 rfl [.tmp 4, .tmp 5] Tryz.results55 (Nat.le_of_ble_eq_true rfl) ?_
 (iterate 2 ((try simp (etaStruct := .none) only [push_cast, DrawG, Int.cast_ofNat_Int, seval, List.getD_nil]); (try (refine xsu ?_; try exact xtI))))
 refine caP (tcheck_s _ hl) ?_
 (iterate 2 ((try simp (etaStruct := .none) only [push_cast, DrawG, Int.cast_ofNat_Int, seval, List.getD_nil]); (try (refine xsu ?_; try exact xtI))))
 refine cond_i (fun h1 => ?_) (fun h1 => ?_)
 ·(try replace h1 := xhh h1)
  exact absurd hw h1
 ·(try replace h1 := xhh h1)
  (iterate 2 ((try simp (etaStruct := .none) only [push_cast, DrawG, Int.cast_ofNat_Int, seval, List.getD_nil]); (try (refine xsu ?_; try exact xtI))))
  refine cond_i (fun h2 => ?_) (fun h2 => ?_)
  ·(try replace h2 := xhh h2)
   omega
  ·(try replace h2 := xhh h2)
   (iterate 2 ((try simp (etaStruct := .none) only [push_cast, DrawG, Int.cast_ofNat_Int, seval, List.getD_nil]); (try (refine xsu ?_; try exact xtI))))
   refine loopI (fun _u : Unit => ⟨[(32, I .i64 0), (31, I .i64 0), (30, .c (.sl 7 [])), (7, .map 1), (2, .ptr 0 0 0), (1, .c (.sl 2 (l.map blwP)))], [(0, .blk 28 (wldC ⟨wf, wb, ws, wm, [], wn, wo⟩)), (1, .mp false 1 [])], 2⟩) (fun _u : Unit => Tr) (fun _u : Unit => 0) (()) (trI) (To.mk [0, 1] rfl rfl (by decide) ?_ ?_) ?_
   ·simp (etaStruct := .none) only [push_cast, DrawG, Int.cast_ofNat_Int, seval]
   ·simp (etaStruct := .none) only [push_cast, DrawG, Int.cast_ofNat_Int, seval]
   rintro _ _
   (iterate 2 ((try simp (etaStruct := .none) only [push_cast, DrawG, Int.cast_ofNat_Int, seval, List.getD_nil]); (try (refine xsu ?_; try exact xtI))))
   refine cond_i (fun h3 => ?_) (fun h3 => ?_)
   ·(try replace h3 := xhh h3)
    simp at h3
   ·(try replace h3 := xhh h3)
    (iterate 2 ((try simp (etaStruct := .none) only [push_cast, DrawG, Int.cast_ofNat_Int, seval, List.getD_nil]); (try (refine xsu ?_; try exact xtI))))
    refine loopI (fun k : Nat => ⟨[(52, I .i64 k), (51, I .i64 l.length), (50, .c (.sl 2 (l.map blwP))), (11, .own 3), (10, .own 2), (7, .map 1), (2, .ptr 0 0 0)], [(0, .blk 28 (wldC ⟨wf, wb, ws, wm, [], wn, wo⟩)), (1, .mp false 1 []), (2, .row 3 1 []), (3, .row 4 1 [])], 4⟩) (fun k : Nat => k ≤ l.length) (fun k : Nat => l.length - k) (0) (Nat.zero_le _) (To.mk [0, 1, 2, 3] rfl rfl (by decide) ?_ ?_) ?_
    ·simp (etaStruct := .none) only [push_cast, DrawG, Int.cast_ofNat_Int, seval]
    ·simp (etaStruct := .none) only [push_cast, DrawG, Int.cast_ofNat_Int, seval]
    rintro k hk
    (iterate 2 ((try simp (etaStruct := .none) only [push_cast, DrawG, Int.cast_ofNat_Int, seval, List.getD_nil]); (try (refine xsu ?_; try exact xtI))))
    refine cond_i (fun h4 => ?_) (fun h4 => ?_)
    ·(try replace h4 := xhh h4)
     have hlt : k < l.length := by omega
     (iterate 2 ((try simp (etaStruct := .none) only [push_cast, DrawG, Int.cast_ofNat_Int, seval, List.getD_nil, getD_in _ _ _ hlt, blwP]); (try (refine xsu ?_; try exact xtI))))
     repeat (with_reducible refine And.intro ?_ ?_; · (simp [mhas_nil]; done))
     refine gcallN ?_ ?_
     ·simp [mhas_nil]
     (iterate 2 ((try simp (etaStruct := .none) only [push_cast, DrawG, Int.cast_ofNat_Int, seval, List.getD_nil, getD_in _ _ _ hlt, blwP]); (try (refine xsu ?_; try exact xtI))))
     (try (refine ⟨by kernel_rfl, ?_⟩))
     (iterate 2 ((try simp (etaStruct := .none) only [push_cast, DrawG, Int.cast_ofNat_Int, seval, List.getD_nil, getD_in _ _ _ hlt, blwP]); (try (refine xsu ?_; try exact xtI))))
     refine cond_i (fun h5 => ?_) (fun h5 => ?_)
     ·(try replace h5 := xhh h5)
      (iterate 2 ((try simp (etaStruct := .none) only [push_cast, DrawG, Int.cast_ofNat_Int, seval, List.getD_nil, getD_in _ _ _ hlt, blwP]); (try (refine xsu ?_; try exact xtI))))
      refine ⟨k + 1, by omega, by omega, To.mk [0, 1, 2, 3] rfl rfl (by decide) ?_ ?_⟩
      ·(iterate 2 ((try simp (etaStruct := .none) only [push_cast, DrawG, Int.cast_ofNat_Int, seval, List.getD_nil, getD_in _ _ _ hlt, blwP]); (try (refine xsu ?_; try exact xtI))))
      ·(iterate 2 ((try simp (etaStruct := .none) only [push_cast, DrawG, Int.cast_ofNat_Int, seval, List.getD_nil, getD_in _ _ _ hlt, blwP]); (try (refine xsu ?_; try exact xtI))))
     ·(try replace h5 := xhh h5)
      simp [mhas_nil] at h5
    ·(try replace h4 := xhh h4)
     (iterate 2 ((try simp (etaStruct := .none) only [push_cast, DrawG, Int.cast_ofNat_Int, seval, List.getD_nil]); (try (refine xsu ?_; try exact xtI))))
     (first | (refine retA rfl (Wk.of ?_); (try simp (etaStruct := .none) only [push_cast, DrawG, Int.cast_ofNat_Int, seval]); first | done | (simp [e, e2, *]; done) | (simp_all [e, e2]; done)) | (refine retA rfl ?_; (try simp (etaStruct := .none) only [push_cast, DrawG, Int.cast_ofNat_Int, seval]); (try simp [e, e2, *]); (try exact wkc)))
end Go.Proofs.YthiddmncjafklaaGreat
namespace Go.Proofs.YthiddmncjafklaaGreat
set_option linter.all false
open Go.RowKit
set_option maxRecDepth 100000
set_option maxHeartbeats 1000000
abbrev blwA (b : Blw) : AV := .agg [I .i64 b.by_, I .i64 b.at_]
theorem find_box {w : Wld} (hw : worldE w = 0) (n : Int) : 0 ≤ ((findT w n).getD trp0).c.x ∧ ((findT w n).getD trp0).c.x ≤ 40 ∧ 0 ≤ ((findT w n).getD trp0).c.y ∧ ((findT w n).getD trp0).c.y ≤ 40 ∧ ((findT w n).isSome = true → (findT w n).getD trp0 ∈ w.troops) := by
 cases h : (findT w n).isSome with
 | false =>
  have : findT w n = none := by cases hf : findT w n; rfl; rw [hf] at h; simp at h
  rw [this]; simp [trp0]
 | true =>
  obtain ⟨i, hi, _, e⟩ := findT_some h
  have hm := getD_mem w.troops i hi
  have ok := troop_mem hw hm
  have hx := ok.x; have hy := ok.y
  have := fldE_ok (worldE_ok hw).1
  rw [e]
  exact ⟨hx.1, by omega, hy.1, by omega, fun _ => hm⟩
theorem king_max2 (a b : Cel) : (if (a.x - b.x).natAbs < (a.y - b.y).natAbs then ((a.y - b.y).natAbs : Int) else ((a.x - b.x).natAbs : Int)) = (kingD a b : Int) := by
 unfold kingD; split <;> omega
theorem blowc_s (w : Wld) (b : Blw) (hl : wldL w) (hw : worldE w = 0) : Spec Tryz.prog 99 [wldA w, blwA b] [] (B (blowB w b)) [] := by
 have hf := (worldE_ok hw).1
 obtain ⟨x, hx⟩ : ∃ x, x = (findT w b.by_).getD trp0 := ⟨_, rfl⟩
 obtain ⟨y, hy⟩ : ∃ y, y = (findT w b.at_).getD trp0 := ⟨_, rfl⟩
 obtain ⟨p, hp⟩ : ∃ p, p = (findT w b.by_).isSome := ⟨_, rfl⟩
 obtain ⟨q, hq⟩ : ∃ q, q = (findT w b.at_).isSome := ⟨_, rfl⟩
 have fx := find_box hw b.by_
 have fy := find_box hw b.at_
 have e : blowB w b = (p && q && countB w x y) := by unfold blowB; rw [← hp, ← hq, ← hx, ← hy]
 rw [← hx, ← hp] at fx
 rw [← hy, ← hq] at fy
 have kx : p = true → x.kind = 1 ∨ x.kind = 2 := fun h => (troop_mem hw (fx.2.2.2.2 h)).kind
 have ix : p = true → inF w.f x.c = true := fun h => (ground_iff.1 (troop_mem hw (fx.2.2.2.2 h)).at_).1
 have iy : q = true → inF w.f y.c = true := fun h => (ground_iff.1 (troop_mem hw (fy.2.2.2.2 h)).at_).1
 refine spec_am Tryz.func99 rfl rfl mix 65 rfl [.tmp 4] Tryz.results99 (Nat.le_of_ble_eq_true rfl) ?_
 (iterate 2 ((try simp (etaStruct := .none) only [push_cast, DrawG, Int.cast_ofNat_Int, seval, ← hx, ← hy, ← hp, ← hq]); (try (refine xsu ?_; try exact xtI))))
 refine caP (troopOf_s w b.by_ hl) ?_
 (iterate 2 ((try simp (etaStruct := .none) only [push_cast, DrawG, Int.cast_ofNat_Int, seval, ← hx, ← hy, ← hp, ← hq]); (try (refine xsu ?_; try exact xtI))))
 refine caP (troopOf_s w b.at_ hl) ?_
 (iterate 2 ((try simp (etaStruct := .none) only [push_cast, DrawG, Int.cast_ofNat_Int, seval, ← hx, ← hy, ← hp, ← hq]); (try (refine xsu ?_; try exact xtI))))
 refine gcP (fun hcc => far_s x.c.x y.c.x (by omega) (by omega)) ?_
 (iterate 2 ((try simp (etaStruct := .none) only [push_cast, DrawG, Int.cast_ofNat_Int, seval, ← hx, ← hy, ← hp, ← hq]); (try (refine xsu ?_; try exact xtI))))
 refine gcP (fun hcc => far_s x.c.y y.c.y (by omega) (by omega)) ?_
 (iterate 2 ((try simp (etaStruct := .none) only [push_cast, DrawG, Int.cast_ofNat_Int, seval, ← hx, ← hy, ← hp, ← hq]); (try (refine xsu ?_; try exact xtI))))
 refine gcP (fun hcc => kindOf_s x.kind (kx (by simp at hcc; exact hcc.1.1))) ?_
 (iterate 2 ((try simp (etaStruct := .none) only [push_cast, DrawG, Int.cast_ofNat_Int, seval, ← hx, ← hy, ← hp, ← hq]); (try (refine xsu ?_; try exact xtI))))
 refine gcP (fun hcc => looks_s w.f x.c y.c hf (ix (by simp at hcc; exact hcc.1.1.1)) (iy (by simp at hcc; exact hcc.1.1.2))) ?_
 (iterate 2 ((try simp (etaStruct := .none) only [push_cast, DrawG, Int.cast_ofNat_Int, seval, ← hx, ← hy, ← hp, ← hq]); (try (refine xsu ?_; try exact xtI))))
 (try (refine ⟨by kernel_rfl, ?_⟩))
 (iterate 2 ((try simp (etaStruct := .none) only [push_cast, DrawG, Int.cast_ofNat_Int, seval, ← hx, ← hy, ← hp, ← hq]); (try (refine xsu ?_; try exact xtI))))
 clear hx hy hp hq fx fy kx ix iy
 (first | (refine retA rfl (Wk.of ?_); (try simp (etaStruct := .none) only [push_cast, DrawG, Int.cast_ofNat_Int, seval]); first | done | (simp [e, countB, king_max2, Bool.and_assoc, *]; done) | (simp_all [e, countB, king_max2, Bool.and_assoc]; done)) | (refine retA rfl ?_; (try simp (etaStruct := .none) only [push_cast, DrawG, Int.cast_ofNat_Int, seval]); (try simp [e, countB, king_max2, Bool.and_assoc, *]); (try exact wkc)))
abbrev wldPV (w : Wld) : List PV := [pI w.f.w, pI w.f.h, .sl 1 (w.f.p.map i64P), .sl 2 (w.bases.map celP), .sl 1 (w.stocks.map i64P), .sl 1 (w.mines.map i64P), .sl 7 (w.troops.map trpP), pI w.next, pI w.now]
abbrev trpPV (t : Trp) : List PV := [pI t.id, pI t.owner, pI t.kind, pI t.c.x, pI t.c.y, pI t.life, pI t.load]
theorem harmc_s (w : Wld) (t : Trp) (b : Blw) (hl : wldL w) (hw : worldE w = 0) : Spec Tryz.prog 98 ([] ++ [blwA b] ++ [.fel 7 [trpPV t] 0 0, .fel 9 [wldPV w] 0 0]) [] (B (hitP w t b)) [] := by
 refine spec_am Tryz.func98 rfl rfl mix 15 rfl [.tmp 4] Tryz.results98 (Nat.le_of_ble_eq_true rfl) ?_
 (try (refine xst ?_; try exact xtI))
 refine gcP (fun hcc => blowc_s w b hl hw) ?_
 (try (refine xst ?_; try exact xtI))
 (first | (refine retA rfl (Wk.of ?_); (try simp (etaStruct := .none) only [push_cast, DrawG, Int.cast_ofNat_Int, seval]); first | done | (simp [hitP, *]; done) | (simp_all [hitP]; done)) | (refine retA rfl ?_; (try simp (etaStruct := .none) only [push_cast, DrawG, Int.cast_ofNat_Int, seval]); (try simp [hitP, *]); (try exact wkc)))
theorem blw_ix (F : FuncId) (a b : List AV) (l : List Blw) (p : Blw → Bool) (hl : l.length ≤ 9223372036854775807) (hp : ∀ n ∈ l, Spec Tryz.prog F (a ++ [blwA n] ++ b) [] (B (p n)) []) (ha : ∀ h, cvL [] h a = a) (hb : ∀ h, cvL [] h b = b) :
 Spec Tryz.prog 97 [.c (.sl 2 (l.map blwP)), .clo (.func F) a b] [] (I .i64 (ixOf p l)) [] := by
 refine spec_am Tryz.func97 rfl rfl mix 19 rfl [.tmp 4] Tryz.results97 (Nat.le_of_ble_eq_true rfl) ?_
 simp (etaStruct := .none) only [push_cast, DrawG, Int.cast_ofNat_Int, seval]
 refine loopI (fun k : Nat => ⟨[(8, I .i64 k), (7, I .i64 l.length), (0, .c (.sl 2 (l.map blwP))), (1, .clo (.func F) a b)], [], 0⟩) (fun k => k ≤ l.length ∧ ∀ j (hj : j < l.length), j < k → p l[j] = false) (fun k => l.length - k) 0 ⟨Nat.zero_le _, fun j _ h => by omega⟩ (To.mk [] rfl rfl List.nodup_nil trivial ?_) ?_
 ·simp (etaStruct := .none) only [push_cast, DrawG, Int.cast_ofNat_Int, seval, ha, hb]
 ·rintro k ⟨hk, hn⟩
  simp (etaStruct := .none) only [push_cast, DrawG, Int.cast_ofNat_Int, seval]
  refine cond_i (fun h => ?_) (fun h => ?_)
  ·have hlt : k < l.length := by simpa using h
   simp (etaStruct := .none) only [push_cast, DrawG, Int.cast_ofNat_Int, seval, getD_map _ _ _ hlt, blwP]
   repeat with_reducible refine obA ?_
   refine callP (hp _ (List.getElem_mem hlt)) (by simp only [cvL_append, ha, hb, cvL, cv]; exact WkL.refl _) ?_
   simp (etaStruct := .none) only [push_cast, DrawG, Int.cast_ofNat_Int, seval]
   refine cond_i (fun h => ?_) (fun h => ?_)
   ·simp (etaStruct := .none) only [push_cast, DrawG, Int.cast_ofNat_Int, seval]
    exact ret0 rfl trivial (Wk.of (by rw [ixOf_hit p l k hlt h hn]; rfl))
   ·simp (etaStruct := .none) only [push_cast, DrawG, Int.cast_ofNat_Int, seval]
    refine ⟨k + 1, ⟨by omega, fun j hj hjk => ?_⟩, by omega, To.mk [] rfl rfl List.nodup_nil trivial ?_⟩
    ·by_cases e : j = k
     ·subst e; exact h
     ·exact hn j hj (by omega)
    ·simp (etaStruct := .none) only [push_cast, DrawG, Int.cast_ofNat_Int, seval, ha, hb]
     simp (disch := omega) only [wrap_in, wk_self, tdv, tmd]
  ·have hge : k = l.length := by simp at h; omega
   subst hge
   simp (etaStruct := .none) only [push_cast, DrawG, Int.cast_ofNat_Int, seval]
   exact ret0 rfl trivial (Wk.of (by rw [ixOf_miss p l (fun j hj => hn j hj hj)]; rfl))
theorem hit_sum (w : Wld) (l : List Blw) (id : Int) (k : Nat) (h : k < w.troops.length) : sumI ((w.troops.take (k + 1)).map (hitC w l id)) = sumI ((w.troops.take k).map (hitC w l id)) + hitC w l id (w.troops.getD k default) := by
 rw [take_snoc _ _ h, List.map_append, List.map_cons, List.map_nil, sumI_snoc]
theorem hit_b (w : Wld) (l : List Blw) (id : Int) (t : Trp) : 0 ≤ hitC w l id t ∧ hitC w l id t ≤ 4 := by
 have := kind_harm t.kind
 unfold hitC
 split
 ·split <;> omega
 ·omega
theorem sum_b (w : Wld) (l : List Blw) (id : Int) : ∀ ts : List Trp, 0 ≤ sumI (ts.map (hitC w l id)) ∧ sumI (ts.map (hitC w l id)) ≤ 4 * ts.length
 | [] => by simp [sumI]
 | t :: r => by
  have h1 := sum_b w l id r
  have h2 := hit_b w l id t
  simp only [sumI, List.map_cons, List.sum_cons, List.length_cons] at *
  omega
theorem harm_s (w : Wld) (l : List Blw) (id : Int) (hl : wldL w) (hw : worldE w = 0) (hll : l.length ≤ 200) (hpos : 0 < l.length) : Spec Tryz.prog 63 [wldA w, .c (.sl 2 (l.map blwP)), I .i64 id] [] (I .i64 (harmV w l id)) [] := by
 have w3 := (worldE_ok hw).2.2.1
 refine spec_am Tryz.func63 rfl rfl mix 40 rfl [.tmp 6] Tryz.results63 (Nat.le_of_ble_eq_true rfl) ?_
 (try (refine xst ?_; try exact xtI))
 refine loopI (fun k : Nat => ⟨[(14, I .i64 k), (13, I .i64 w.troops.length), (12, .c (.sl 7 (w.troops.map trpP))), (7, I .i64 (sumI ((w.troops.take k).map (hitC w l id)))), (3, .ptr 0 0 0), (2, I .i64 id), (1, .c (.sl 2 (l.map blwP)))], [(0, .blk 28 (wldC w))], 1⟩) (fun k : Nat => k ≤ w.troops.length) (fun k : Nat => w.troops.length - k) (0) (Nat.zero_le _) (To.mk [0] rfl rfl (by decide) ?_ ?_) ?_
 ·simp (etaStruct := .none) only [push_cast, DrawG, Int.cast_ofNat_Int, seval]
 ·simp (etaStruct := .none) only [push_cast, DrawG, Int.cast_ofNat_Int, seval, List.take_zero, List.map_nil, sumI, List.sum_nil]
 rintro k hk
 have hsb := sum_b w l id (w.troops.take k)
 rw [List.length_take] at hsb
 (try (refine xst ?_; try exact xtI))
 refine cond_i (fun h1 => ?_) (fun h1 => ?_)
 ·(try replace h1 := xhh h1)
  have hlt : k < w.troops.length := by omega
  have hst := hit_sum w l id k hlt
  obtain ⟨i, hi, gi, hc⟩ : ∃ i : Nat, i < l.length ∧ (ixOf (hitP w (w.troops.getD k default)) l).toNat = i ∧ hitC w l id (w.troops.getD k default) = if 0 ≤ ixOf (hitP w (w.troops.getD k default)) l ∧ (l.getD i default).at_ = id then (kindV (w.troops.getD k default).kind).load else 0 := by
   rcases ixOf_find (hitP w (w.troops.getD k default)) l with ⟨i, hi, e1, e2⟩ | ⟨e1, e2⟩
   ·refine ⟨i, hi, by rw [e1]; rfl, ?_⟩
    unfold hitC
    rw [e2, e1]
    by_cases h : (l.getD i default).at_ = id
    ·rw [if_pos ⟨by omega, h⟩]; simp only; rw [if_pos h]
    ·rw [if_neg (fun h2 => h h2.2)]; simp only; rw [if_neg h]
   ·refine ⟨0, hpos, by rw [e1]; rfl, ?_⟩
    unfold hitC
    rw [e2, e1, if_neg (fun h => by omega)]
  obtain ⟨ig1, ig2⟩ := ixOf_ge (hitP w (w.troops.getD k default)) l
  have hkh := kind_harm (w.troops.getD k default).kind
  have hko := (troop_ok hw hlt).1.kind
  (iterate 2 ((try simp (etaStruct := .none) only [push_cast, DrawG, Int.cast_ofNat_Int, seval, getD_in _ _ _ hlt, trpP, gi, getD_in _ _ _ hi, blwP]); (try (refine xsu ?_; try exact xtI))))
  refine callB (blw_ix _ [] [.fel 7 [trpPV (w.troops.getD k default)] 0 0, .fel 9 [wldPV w] 0 0] l (hitP w (w.troops.getD k default)) (by omega) (fun b _ => harmc_s w _ b hl hw) (fun _ => rfl) (fun _ => rfl)) (WkL.refl _) rfl ?_
  (iterate 2 ((try simp (etaStruct := .none) only [push_cast, DrawG, Int.cast_ofNat_Int, seval, getD_in _ _ _ hlt, trpP, gi, getD_in _ _ _ hi, blwP]); (try (refine xsu ?_; try exact xtI))))
  refine cond_i (fun h2 => ?_) (fun h2 => ?_)
  ·(try replace h2 := xhh h2)
   rw [if_pos h2] at hc
   (iterate 2 ((try simp (etaStruct := .none) only [push_cast, DrawG, Int.cast_ofNat_Int, seval, getD_in _ _ _ hlt, trpP, gi, getD_in _ _ _ hi, blwP]); (try (refine xsu ?_; try exact xtI))))
   refine caP (kindOf_s (w.troops.getD k default).kind hko) ?_
   (iterate 2 ((try simp (etaStruct := .none) only [push_cast, DrawG, Int.cast_ofNat_Int, seval, getD_in _ _ _ hlt, trpP, gi, getD_in _ _ _ hi, blwP]); (try (refine xsu ?_; try exact xtI))))
   refine ⟨k + 1, by omega, by omega, To.mk [0] rfl rfl (by decide) ?_ ?_⟩
   ·(iterate 2 ((try simp (etaStruct := .none) only [push_cast, DrawG, Int.cast_ofNat_Int, seval, hst, hc, Int.add_zero]); (try (refine xsu ?_; try exact xtI))))
   ·(iterate 2 ((try simp (etaStruct := .none) only [push_cast, DrawG, Int.cast_ofNat_Int, seval, hst, hc, Int.add_zero]); (try (refine xsu ?_; try exact xtI))))
  ·(try replace h2 := xhh h2)
   rw [if_neg (fun h => by rcases h2 with h3 | h3; omega; exact h3 h.2)] at hc
   (iterate 2 ((try simp (etaStruct := .none) only [push_cast, DrawG, Int.cast_ofNat_Int, seval, getD_in _ _ _ hlt, trpP, gi, getD_in _ _ _ hi, blwP]); (try (refine xsu ?_; try exact xtI))))
   refine ⟨k + 1, by omega, by omega, To.mk [0] rfl rfl (by decide) ?_ ?_⟩
   ·(iterate 2 ((try simp (etaStruct := .none) only [push_cast, DrawG, Int.cast_ofNat_Int, seval, hst, hc, Int.add_zero]); (try (refine xsu ?_; try exact xtI))))
   ·(iterate 2 ((try simp (etaStruct := .none) only [push_cast, DrawG, Int.cast_ofNat_Int, seval, hst, hc, Int.add_zero]); (try (refine xsu ?_; try exact xtI))))
 ·(try replace h1 := xhh h1)
  obtain rfl : k = w.troops.length := by omega
  have e : harmV w l id = sumI ((w.troops.take w.troops.length).map (hitC w l id)) := by rw [List.take_length]; rfl
  (try (refine xst ?_; try exact xtI))
  (first | (refine retA rfl (Wk.of ?_); (try simp (etaStruct := .none) only [push_cast, DrawG, Int.cast_ofNat_Int, seval]); first | done | (simp [e, *]; done) | (simp_all [e]; done)) | (refine retA rfl ?_; (try simp (etaStruct := .none) only [push_cast, DrawG, Int.cast_ofNat_Int, seval]); (try simp [e, *]); (try exact wkc)))
end Go.Proofs.YthiddmncjafklaaGreat
namespace Go.Proofs.YthiddmncjafklaaGreat
set_option linter.all false
open Go.RowKit
set_option maxRecDepth 100000
set_option maxHeartbeats 1000000
theorem harm_s0 (w : Wld) (id : Int) (hl : wldL w) (hw : worldE w = 0) : Spec Tryz.prog 63 [wldA w, .c (.sl 2 []), I .i64 id] [] (I .i64 0) [] := by
 have w3 := (worldE_ok hw).2.2.1
 refine spec_am Tryz.func63 rfl rfl mix 40 rfl [.tmp 6] Tryz.results63 (Nat.le_of_ble_eq_true rfl) ?_
 (try (refine xst ?_; try exact xtI))
 refine loopI (fun k : Nat => ⟨[(14, I .i64 k), (13, I .i64 w.troops.length), (12, .c (.sl 7 (w.troops.map trpP))), (7, I .i64 0), (3, .ptr 0 0 0), (2, I .i64 id), (1, .c (.sl 2 []))], [(0, .blk 28 (wldC w))], 1⟩) (fun k : Nat => k ≤ w.troops.length) (fun k : Nat => w.troops.length - k) (0) (Nat.zero_le _) (To.mk [0] rfl rfl (by decide) ?_ ?_) ?_
 ·simp (etaStruct := .none) only [push_cast, DrawG, Int.cast_ofNat_Int, seval]
 ·simp (etaStruct := .none) only [push_cast, DrawG, Int.cast_ofNat_Int, seval]
 rintro k hk
 (try (refine xst ?_; try exact xtI))
 refine cond_i (fun h1 => ?_) (fun h1 => ?_)
 ·(try replace h1 := xhh h1)
  have hlt : k < w.troops.length := by omega
  have hz : ixOf (hitP w (w.troops.getD k default)) ([] : List Blw) = -1 := rfl
  (iterate 2 ((try simp (etaStruct := .none) only [push_cast, DrawG, Int.cast_ofNat_Int, seval, getD_in _ _ _ hlt, trpP, List.getD_nil]); (try (refine xsu ?_; try exact xtI))))
  refine callB (blw_ix _ [] [.fel 7 [trpPV (w.troops.getD k default)] 0 0, .fel 9 [wldPV w] 0 0] [] (hitP w (w.troops.getD k default)) (by simp) (fun b _ => harmc_s w _ b hl hw) (fun _ => rfl) (fun _ => rfl)) (WkL.refl _) rfl ?_
  (iterate 2 ((try simp (etaStruct := .none) only [push_cast, DrawG, Int.cast_ofNat_Int, seval, getD_in _ _ _ hlt, trpP, List.getD_nil]); (try (refine xsu ?_; try exact xtI))))
  repeat (with_reducible refine And.intro ?_ ?_; · (simp [hz]; done))
  refine cond_i (fun h2 => ?_) (fun h2 => ?_)
  ·(try replace h2 := xhh h2)
   exact absurd h2 (by decide)
  ·(try replace h2 := xhh h2)
   (iterate 2 ((try simp (etaStruct := .none) only [push_cast, DrawG, Int.cast_ofNat_Int, seval, getD_in _ _ _ hlt, trpP, List.getD_nil]); (try (refine xsu ?_; try exact xtI))))
   refine ⟨k + 1, by omega, by omega, To.mk [0] rfl rfl (by decide) ?_ ?_⟩
   ·(iterate 2 ((try simp (etaStruct := .none) only [push_cast, DrawG, Int.cast_ofNat_Int, seval, getD_in _ _ _ hlt, trpP, List.getD_nil]); (try (refine xsu ?_; try exact xtI))))
   ·(iterate 2 ((try simp (etaStruct := .none) only [push_cast, DrawG, Int.cast_ofNat_Int, seval, getD_in _ _ _ hlt, trpP, List.getD_nil]); (try (refine xsu ?_; try exact xtI))))
 ·(try replace h1 := xhh h1)
  skip
  (try (refine xst ?_; try exact xtI))
  exact xrz rfl
theorem harm_a (w : Wld) (l : List Blw) (id : Int) (hl : wldL w) (hw : worldE w = 0) (hll : l.length ≤ 200) : Spec Tryz.prog 63 [wldA w, .c (.sl 2 (l.map blwP)), I .i64 id] [] (I .i64 (harmV w l id)) [] := by
 cases l with
 | nil => rw [harm_nil]; exact harm_s0 w id hl hw
 | cons a r => exact harm_s w (a :: r) id hl hw hll (by simp)
theorem hblows_s (w : Wld) (l : List Blw) (hl : wldL w) (hll : l.length ≤ 9223372036854775807) : Spec Tryz.prog 55 [wldA w, .c (.sl 2 (l.map blwP))] [] (.tup [.c (.sl 1 ((harmR w l).map i64P)), I .i64 (blowsE w l)]) [] := by
 by_cases h : blowsE w l = 0
 ·have h1 : worldE w = 0 := by unfold blowsE at h; split at h; rename_i h1; exact absurd h h1; rename_i h1; simpa using h1
  have h2 : l.length ≤ 200 := by unfold blowsE at h; rw [if_neg (by simp [h1])] at h; split at h; simp at h; omega
  rcases Nat.eq_zero_or_pos w.troops.length with h3 | h3
  ·exact blows_0 w l hl h1 h2 (List.eq_nil_of_length_eq_zero h3)
  ·exact blows_1 w l hl h1 h2 h3
 ·exact blows_e w l hl hll h
theorem hown_s (w : Wld) (hw : worldE w = 0) : Spec Tryz.prog 56 [wldA w] [] (wldA w) [] := by
 obtain ⟨w1, w2, w3, w4, w5⟩ := worldE_ok hw
 obtain ⟨v1, v2, v3, v4⟩ := worldF_ok w4
 obtain ⟨⟨f1, f2⟩, ⟨f3, f4⟩, f5, f6⟩ := fldE_ok w1
 have hm : w.f.w * w.f.h ≤ 40 * 40 := Int.mul_le_mul f2 f4 (by omega) (by omega)
 refine spec_am Tryz.func56 rfl rfl mix 26 rfl [.cell 2 28] Tryz.results56 (Nat.le_of_ble_eq_true rfl) ?_
 (try (refine xst ?_; try exact xtI))
 refine caP (int_copy w.f.p (by omega)) ?_
 (try (refine xst ?_; try exact xtI))
 refine caP (cel_copy w.bases (by omega)) ?_
 (try (refine xst ?_; try exact xtI))
 refine caP (int_copy w.stocks (by omega)) ?_
 (try (refine xst ?_; try exact xtI))
 (try (refine ⟨by kernel_rfl, ?_⟩))
 (try (refine xst ?_; try exact xtI))
 refine caP (int_copy w.mines (by omega)) ?_
 (try (refine xst ?_; try exact xtI))
 refine caP (trp_copy w.troops (by omega)) ?_
 (try (refine xst ?_; try exact xtI))
 (try (refine ⟨by kernel_rfl, ?_⟩))
 (try (refine xst ?_; try exact xtI))
 exact xrz rfl
def wld0 : Wld := ⟨⟨0, 0, []⟩, [], [], [], [], 0, 0⟩
def leftK (w : Wld) (l : List Blw) (k : Nat) : List Trp := ((w.troops.take k).map (woundT w l)).filter fun t => decide (0 < t.life)
def goneK (w : Wld) (l : List Blw) (k : Nat) : List Int := (((w.troops.take k).map (woundT w l)).filter fun t => !decide (0 < t.life)).map (·.id)
theorem leftK_step (w : Wld) (l : List Blw) {k : Nat} (h : k < w.troops.length) : leftK w l (k + 1) = leftK w l k ++ (if 0 < (woundT w l (w.troops.getD k default)).life then [woundT w l (w.troops.getD k default)] else []) := by
 unfold leftK
 rw [take_snoc _ _ h, List.map_append, List.filter_append, List.map_cons, List.map_nil, List.filter_cons, List.filter_nil]
 simp only [decide_eq_true_eq]
theorem goneK_step (w : Wld) (l : List Blw) {k : Nat} (h : k < w.troops.length) : goneK w l (k + 1) = goneK w l k ++ (if 0 < (woundT w l (w.troops.getD k default)).life then [] else [(w.troops.getD k default).id]) := by
 unfold goneK
 rw [take_snoc _ _ h, List.map_append, List.filter_append, List.map_cons, List.map_nil, List.filter_cons, List.filter_nil, List.map_append]
 by_cases h2 : 0 < (woundT w l (w.troops.getD k default)).life
 ·rw [if_pos h2, decide_eq_true h2]; simp
 ·rw [if_neg h2, decide_eq_false h2]; simp [woundT]
theorem leftK_len (w : Wld) (l : List Blw) (k : Nat) : (leftK w l k).length ≤ k := by
 have h1 := List.length_filter_le (fun t : Trp => decide (0 < t.life)) ((w.troops.take k).map (woundT w l))
 rw [List.length_map, List.length_take] at h1
 exact Nat.le_trans h1 (Nat.min_le_left _ _)
theorem goneK_len (w : Wld) (l : List Blw) (k : Nat) : (goneK w l k).length ≤ k := by
 unfold goneK
 rw [List.length_map]
 have h1 := List.length_filter_le (fun t : Trp => !decide (0 < t.life)) ((w.troops.take k).map (woundT w l))
 rw [List.length_map, List.length_take] at h1
 exact Nat.le_trans h1 (Nat.min_le_left _ _)
theorem leftK_all (w : Wld) (l : List Blw) : leftK w l w.troops.length = leftV w l := by unfold leftK; rw [List.take_length]; rfl
theorem goneK_all (w : Wld) (l : List Blw) : goneK w l w.troops.length = goneV w l := by unfold goneK; rw [List.take_length]; rfl
theorem harmV_b (w : Wld) (l : List Blw) (id : Int) : 0 ≤ harmV w l id ∧ harmV w l id ≤ 4 * w.troops.length := sum_b w l id w.troops
def struckR (w : Wld) (l : List Blw) : Wld := if blowsE w l = 0 then struckW w l else wld0
def goneR (w : Wld) (l : List Blw) : List Int := if blowsE w l = 0 then goneV w l else []
theorem life_b {w : Wld} (hw : worldE w = 0) {k : Nat} (h : k < w.troops.length) : 1 ≤ (w.troops.getD k default).life ∧ (w.troops.getD k default).life ≤ 20 := by
 have h1 := (troop_ok hw h).1
 have := h1.life
 have k1 : (kindV 1).life = 10 := rfl
 have k2 : (kindV 2).life = 20 := rfl
 rcases h1.kind with e | e
 ·rw [e, k1] at this; omega
 ·rw [e, k2] at this; omega
theorem hstruck_k (w : Wld) (l : List Blw) (hl : wldL w) (hll : l.length ≤ 9223372036854775807) (h : blowsE w l = 0) : Spec Tryz.prog 25 [wldA w, .c (.sl 2 (l.map blwP))] [] (.tup [wldA (struckR w l), .c (.sl 1 ((goneR w l).map i64P)), I .i64 (blowsE w l)]) [] := by
 have hw : worldE w = 0 := by unfold blowsE at h; split at h; rename_i h1; exact absurd h h1; rename_i h1; simpa using h1
 have w3 := (worldE_ok hw).2.2.1
 have hr : harmR w l = harmL w l := by unfold harmR; rw [if_pos h]
 have hrl : (harmL w l).length = w.troops.length := by unfold harmL; rw [List.length_map]
 refine spec_am Tryz.func25 rfl rfl mix 62 rfl [.cell 4 28, .tmp 5, .tmp 6] Tryz.results25 (Nat.le_of_ble_eq_true rfl) ?_
 (try (refine xst ?_; try exact xtI))
 refine caP (hblows_s w l hl hll) ?_
 (try (refine xst ?_; try exact xtI))
 refine cond_i (fun h1 => ?_) (fun h1 => ?_)
 ·(try replace h1 := xhh h1)
  exact absurd h h1
 ·(try replace h1 := xhh h1)
  (try (refine xst ?_; try exact xtI))
  refine caP (hown_s w hw) ?_
  (try (refine xst ?_; try exact xtI))
  refine loopI (fun k : Nat => ⟨[(32, I .i64 k), (31, I .i64 w.troops.length), (30, .c (.sl 7 (w.troops.map trpP))), (10, .own 2), (9, .own 3), (7, .c (.sl 1 ((harmR w l).map i64P))), (4, .ptr 1 0 0), (2, .ptr 0 0 0)], [(0, .blk 28 (wldC w)), (1, .blk 28 [I .i64 0, I .i64 0, .c (.v (.slice none 0 0)), .c (.v (.slice none 0 0)), .c (.v (.slice none 0 0)), .c (.v (.slice none 0 0)), .c (.v (.slice none 0 0)), I .i64 0, I .i64 0]), (2, .row 89 7 ((leftK w l k).map trpP)), (3, .row 3 1 ((goneK w l k).map i64P))], 4⟩) (fun k : Nat => k ≤ w.troops.length) (fun k : Nat => w.troops.length - k) (0) (Nat.zero_le _) ((To.nil 9 3 1 rfl).trans (To.mk [0, 1, 2, 3] rfl rfl (by decide) ?_ ?_)) ?_
  ·simp (etaStruct := .none) only [push_cast, DrawG, Int.cast_ofNat_Int, seval, leftK, goneK, List.take_zero, List.map_nil, List.filter_nil]
  ·simp (etaStruct := .none) only [push_cast, DrawG, Int.cast_ofNat_Int, seval]
  rintro k hk
  (try (refine xst ?_; try exact xtI))
  refine cond_i (fun h2 => ?_) (fun h2 => ?_)
  ·(try replace h2 := xhh h2)
   have hlt : k < w.troops.length := by omega
   have hrk : k < (harmR w l).length := by rw [hr, hrl]; exact hlt
   have hrv : (harmR w l).getD k default = harmV w l (w.troops.getD k default).id := by
    rw [hr, getD_at _ _ (by rw [hrl]; exact hlt)]
    simp only [harmL, List.getElem_map]; rw [getD_at _ _ hlt]
   have hb := harmV_b w l (w.troops.getD k default).id
   have hlb := life_b hw hlt
   have st1 := leftK_step w l hlt
   have st2 := goneK_step w l hlt
   have ll1 := leftK_len w l k
   have ll2 := goneK_len w l k
   have hwl : (woundT w l (w.troops.getD k default)).life = (w.troops.getD k default).life - harmV w l (w.troops.getD k default).id := rfl
   (iterate 2 ((try simp (etaStruct := .none) only [push_cast, DrawG, Int.cast_ofNat_Int, seval, getD_in _ _ _ hlt, trpP, getD_in _ _ _ hrk, hrv, i64P]); (try (refine xsu ?_; try exact xtI))))
   (try (refine ⟨by kernel_rfl, ?_⟩))
   (iterate 2 ((try simp (etaStruct := .none) only [push_cast, DrawG, Int.cast_ofNat_Int, seval, getD_in _ _ _ hlt, trpP, getD_in _ _ _ hrk, hrv, i64P]); (try (refine xsu ?_; try exact xtI))))
   refine cond_i (fun h3 => ?_) (fun h3 => ?_)
   ·(try replace h3 := xhh h3)
    rw [if_pos (by rw [hwl]; exact h3)] at st1 st2
    rw [List.append_nil] at st2
    (iterate 2 ((try simp (etaStruct := .none) only [push_cast, DrawG, Int.cast_ofNat_Int, seval, getD_in _ _ _ hlt, trpP, getD_in _ _ _ hrk, hrv, i64P]); (try (refine xsu ?_; try exact xtI))))
    refine ⟨k + 1, by omega, by omega, To.mk [0, 1, 42, 3] rfl rfl (by decide) ?_ ?_⟩
    ·(iterate 2 ((try simp (etaStruct := .none) only [push_cast, DrawG, Int.cast_ofNat_Int, seval, st1, st2, List.map_append, trpP, woundT]); (try (refine xsu ?_; try exact xtI))))
    ·(iterate 2 ((try simp (etaStruct := .none) only [push_cast, DrawG, Int.cast_ofNat_Int, seval, getD_in _ _ _ hlt, trpP, getD_in _ _ _ hrk, hrv, i64P]); (try (refine xsu ?_; try exact xtI))))
   ·(try replace h3 := xhh h3)
    rw [if_neg (by rw [hwl]; omega)] at st1 st2
    rw [List.append_nil] at st1
    (iterate 2 ((try simp (etaStruct := .none) only [push_cast, DrawG, Int.cast_ofNat_Int, seval, getD_in _ _ _ hlt, trpP, getD_in _ _ _ hrk, hrv, i64P]); (try (refine xsu ?_; try exact xtI))))
    refine ⟨k + 1, by omega, by omega, To.mk [0, 1, 2, 42] rfl rfl (by decide) ?_ ?_⟩
    ·(iterate 2 ((try simp (etaStruct := .none) only [push_cast, DrawG, Int.cast_ofNat_Int, seval, st1, st2, List.map_append, i64P]); (try (refine xsu ?_; try exact xtI))))
    ·(iterate 2 ((try simp (etaStruct := .none) only [push_cast, DrawG, Int.cast_ofNat_Int, seval, getD_in _ _ _ hlt, trpP, getD_in _ _ _ hrk, hrv, i64P]); (try (refine xsu ?_; try exact xtI))))
  ·(try replace h2 := xhh h2)
   obtain rfl : k = w.troops.length := by omega
   have e1 : struckR w l = struckW w l := by unfold struckR; rw [if_pos h]
   have e2 : goneR w l = goneV w l := by unfold goneR; rw [if_pos h]
   rw [leftK_all, goneK_all, e1, e2]
   (try (refine xst ?_; try exact xtI))
   (first | (refine retA rfl (Wk.of ?_); (try simp (etaStruct := .none) only [push_cast, DrawG, Int.cast_ofNat_Int, seval]); first | done | (simp [struckW, h, *]; done) | (simp_all [struckW, h]; done)) | (refine retA rfl ?_; (try simp (etaStruct := .none) only [push_cast, DrawG, Int.cast_ofNat_Int, seval]); (try simp [struckW, h, *]); (try exact wkc)))
theorem struckw_s (w : Wld) (l : List Blw) (hl : wldL w) (hw : worldE w = 0) (hll : l.length ≤ 200) : Spec Tryz.prog 32 [wldA w, .c (.sl 2 (l.map blwP))] [] (.tup [wldA (struckW w l), .c (.sl 1 ((goneV w l).map i64P))]) [] := by
 have w3 := (worldE_ok hw).2.2.1
 refine spec_am Tryz.func32 rfl rfl mix 43 rfl [.cell 4 28, .tmp 5] Tryz.results32 (Nat.le_of_ble_eq_true rfl) ?_
 (try (refine xst ?_; try exact xtI))
 refine loopI (fun k : Nat => ⟨[(13, I .i64 k), (12, I .i64 w.troops.length), (11, .c (.sl 7 (w.troops.map trpP))), (7, .own 3), (6, .own 2), (4, .ptr 1 0 0), (2, .ptr 0 0 0), (1, .c (.sl 2 (l.map blwP)))], [(0, .blk 28 (wldC w)), (1, .blk 28 [I .i64 0, I .i64 0, .c (.v (.slice none 0 0)), .c (.v (.slice none 0 0)), .c (.v (.slice none 0 0)), .c (.v (.slice none 0 0)), .c (.v (.slice none 0 0)), I .i64 0, I .i64 0]), (2, .row 89 7 ((leftK w l k).map trpP)), (3, .row 3 1 ((goneK w l k).map i64P))], 4⟩) (fun k : Nat => k ≤ w.troops.length) (fun k : Nat => w.troops.length - k) (0) (Nat.zero_le _) (((To.nil 6 89 7 rfl).trans (To.nil 7 3 1 rfl)).trans (To.mk [0, 1, 2, 3] rfl rfl (by decide) ?_ ?_)) ?_
 ·simp (etaStruct := .none) only [push_cast, DrawG, Int.cast_ofNat_Int, seval, leftK, goneK, List.take_zero, List.map_nil, List.filter_nil]
 ·simp (etaStruct := .none) only [push_cast, DrawG, Int.cast_ofNat_Int, seval]
 rintro k hk
 (try (refine xst ?_; try exact xtI))
 refine cond_i (fun h1 => ?_) (fun h1 => ?_)
 ·(try replace h1 := xhh h1)
  have hlt : k < w.troops.length := by omega
  have hb := harmV_b w l (w.troops.getD k default).id
  have hlb := life_b hw hlt
  have st1 := leftK_step w l hlt
  have st2 := goneK_step w l hlt
  have ll1 := leftK_len w l k
  have ll2 := goneK_len w l k
  have hwl : (woundT w l (w.troops.getD k default)).life = (w.troops.getD k default).life - harmV w l (w.troops.getD k default).id := rfl
  (iterate 2 ((try simp (etaStruct := .none) only [push_cast, DrawG, Int.cast_ofNat_Int, seval, getD_in _ _ _ hlt, trpP]); (try (refine xsu ?_; try exact xtI))))
  refine caP (harm_a w l (w.troops.getD k default).id hl hw hll) ?_
  (iterate 2 ((try simp (etaStruct := .none) only [push_cast, DrawG, Int.cast_ofNat_Int, seval, getD_in _ _ _ hlt, trpP]); (try (refine xsu ?_; try exact xtI))))
  (try (refine ⟨by kernel_rfl, ?_⟩))
  (iterate 2 ((try simp (etaStruct := .none) only [push_cast, DrawG, Int.cast_ofNat_Int, seval, getD_in _ _ _ hlt, trpP]); (try (refine xsu ?_; try exact xtI))))
  refine cond_i (fun h2 => ?_) (fun h2 => ?_)
  ·(try replace h2 := xhh h2)
   rw [if_neg (by rw [hwl]; omega)] at st1 st2
   rw [List.append_nil] at st1
   (iterate 2 ((try simp (etaStruct := .none) only [push_cast, DrawG, Int.cast_ofNat_Int, seval, getD_in _ _ _ hlt, trpP]); (try (refine xsu ?_; try exact xtI))))
   refine ⟨k + 1, by omega, by omega, To.mk [0, 1, 2, 46] rfl rfl (by decide) ?_ ?_⟩
   ·(iterate 2 ((try simp (etaStruct := .none) only [push_cast, DrawG, Int.cast_ofNat_Int, seval, st1, st2, List.map_append, i64P]); (try (refine xsu ?_; try exact xtI))))
   ·(iterate 2 ((try simp (etaStruct := .none) only [push_cast, DrawG, Int.cast_ofNat_Int, seval, getD_in _ _ _ hlt, trpP]); (try (refine xsu ?_; try exact xtI))))
  ·(try replace h2 := xhh h2)
   rw [if_pos (by rw [hwl]; omega)] at st1 st2
   rw [List.append_nil] at st2
   (iterate 2 ((try simp (etaStruct := .none) only [push_cast, DrawG, Int.cast_ofNat_Int, seval, getD_in _ _ _ hlt, trpP]); (try (refine xsu ?_; try exact xtI))))
   refine ⟨k + 1, by omega, by omega, To.mk [0, 1, 46, 3] rfl rfl (by decide) ?_ ?_⟩
   ·(iterate 2 ((try simp (etaStruct := .none) only [push_cast, DrawG, Int.cast_ofNat_Int, seval, st1, st2, List.map_append, trpP, woundT]); (try (refine xsu ?_; try exact xtI))))
   ·(iterate 2 ((try simp (etaStruct := .none) only [push_cast, DrawG, Int.cast_ofNat_Int, seval, getD_in _ _ _ hlt, trpP]); (try (refine xsu ?_; try exact xtI))))
 ·(try replace h1 := xhh h1)
  obtain rfl : k = w.troops.length := by omega
  rw [leftK_all, goneK_all]
  (try (refine xst ?_; try exact xtI))
  (first | (refine retA rfl (Wk.of ?_); (try simp (etaStruct := .none) only [push_cast, DrawG, Int.cast_ofNat_Int, seval]); first | done | (simp [struckW, *]; done) | (simp_all [struckW]; done)) | (refine retA rfl ?_; (try simp (etaStruct := .none) only [push_cast, DrawG, Int.cast_ofNat_Int, seval]); (try simp [struckW, *]); (try exact wkc)))
end Go.Proofs.YthiddmncjafklaaGreat
namespace Go.Proofs.YthiddmncjafklaaGreat
set_option linter.all false
open Go.RowKit
set_option maxRecDepth 100000
def isId (id : Int) (t : Trp) : Bool := decide (t.id = id)
def besB (a b : Cel) : Bool := within b.x (a.x - 1) (a.x + 1) && within b.y (a.y - 1) (a.y + 1)
def withLoad (t : Trp) (n : Int) : Trp := { t with load := n }
def mineAt (w : Wld) (i m : Nat) : Wld := { w with mines := w.mines.set m (w.mines.getD m default - 1), troops := w.troops.set i (withLoad (w.troops.getD i default) ((w.troops.getD i default).load + 1)) }
def mineOk (w : Wld) (d : Ded) (i : Nat) : Bool := decide ((w.troops.getD i default).kind = 1) && decide ((w.troops.getD i default).load < 5) && besB (w.troops.getD i default).c d.c && inF w.f d.c && decide (0 < w.mines.getD (idxN w.f d.c) default)
def dropN (w : Wld) (i : Nat) : Int := min (w.troops.getD i default).load (1000000 - w.stocks.getD (w.troops.getD i default).owner.toNat default)
def dropAt (w : Wld) (i : Nat) : Wld := { w with stocks := w.stocks.set (w.troops.getD i default).owner.toNat (w.stocks.getD (w.troops.getD i default).owner.toNat default + dropN w i), troops := w.troops.set i (withLoad (w.troops.getD i default) ((w.troops.getD i default).load - dropN w i)) }
def dropOk (w : Wld) (i : Nat) : Bool := besB (w.bases.getD (w.troops.getD i default).owner.toNat default) (w.troops.getD i default).c
def around (b : Cel) : List Cel := [b, ⟨b.x - 1, b.y - 1⟩, ⟨b.x, b.y - 1⟩, ⟨b.x + 1, b.y - 1⟩, ⟨b.x - 1, b.y⟩, b, ⟨b.x + 1, b.y⟩, ⟨b.x - 1, b.y + 1⟩, ⟨b.x, b.y + 1⟩, ⟨b.x + 1, b.y + 1⟩]
def freeB (w : Wld) (c : Cel) : Bool := groundV w.f c && !(w.troops.any fun t => decide (t.c = c))
def freeV (w : Wld) (b : Cel) : Option Cel := (around b).find? (freeB w)
def hireOk (w : Wld) (d : Ded) : Bool := decide (0 ≤ d.who) && decide (d.who < w.bases.length) && (decide (d.what = 1) || decide (d.what = 2)) && decide ((kindV d.what).price ≤ w.stocks.getD d.who.toNat default) && decide (w.troops.length < 100) && decide (w.next < 1000000)
def hireAt (w : Wld) (d : Ded) (c : Cel) : Wld := { w with troops := w.troops ++ [⟨w.next, d.who, d.what, c, (kindV d.what).life, 0⟩], next := w.next + 1, stocks := w.stocks.set d.who.toNat (w.stocks.getD d.who.toNat default - (kindV d.what).price) }
def deedV (w : Wld) (d : Ded) : Wld × Bool :=
 if d.kind = 1 then match w.troops.findIdx? (isId d.who) with
  | some i => if mineOk w d i then (mineAt w i (idxN w.f d.c), true) else (w, false)
  | none => (w, false)
 else if d.kind = 2 then match w.troops.findIdx? (isId d.who) with
  | some i => if dropOk w i then (dropAt w i, decide (0 < dropN w i)) else (w, false)
  | none => (w, false)
 else if d.kind = 3 then (if hireOk w d then match freeV w (w.bases.getD d.who.toNat default) with
  | some c => (hireAt w d c, true)
  | none => (w, false)
  else (w, false))
 else (w, false)
theorem withLoad_ok {w : Wld} {t : Trp} {n : Int} (h : TrpOk w t) (hn : 0 ≤ n ∧ n ≤ 5 * (2 - t.kind)) : TrpOk w (withLoad t n) := trpOk_of h.kind h.id h.owner h.at_ h.life hn
theorem own_at {w : Wld} (h : Right w) {i : Nat} (hi : i < w.troops.length) : ∃ o : Nat, (w.troops.getD i default).owner = (o : Int) ∧ o < w.bases.length ∧ o < w.stocks.length := by
 have := (h.trp i hi).owner
 have hs := h.sl
 refine ⟨(w.troops.getD i default).owner.toNat, by omega, by omega, by omega⟩
theorem idx_in {w : Wld} (h : Right w) {c : Cel} (hc : inF w.f c = true) : idxN w.f c < w.mines.length ∧ c.y * w.f.w + c.x = ((idxN w.f c : Nat) : Int) ∧ 0 ≤ c.y * w.f.w ∧ c.y * w.f.w ≤ 1600 := by
 obtain ⟨i1, i2, i3, i4, i5⟩ := place_ix h.f hc
 have := h.ml
 unfold idxN; omega
theorem right_load {w : Wld} (h : Right w) {i : Nat} (hi : i < w.troops.length) {n : Int} (hn : 0 ≤ n ∧ n ≤ 5 * (2 - (w.troops.getD i default).kind)) {st mi : List Int} (hs : st.length = w.stocks.length) (hm : mi.length = w.mines.length) (hs2 : ∀ j, j < st.length → 0 ≤ st.getD j default ∧ st.getD j default ≤ 1000000) (hm2 : ∀ j, j < mi.length → (0 ≤ mi.getD j default ∧ mi.getD j default ≤ 1000000) ∧ (mi.getD j default = 0 ∨ w.f.p.getD j default = 3)) :
 Right { w with stocks := st, mines := mi, troops := w.troops.set i (withLoad (w.troops.getD i default) n) } := by
 have G := fun p => getD_set (withLoad (w.troops.getD i default) n) p hi
 refine ⟨h.f, h.nb, by simpa using h.nt, by rw [hs]; exact h.sl, by rw [hm]; exact h.ml, h.nx, h.nw, fun j hj => ?_, hm2, fun k hk => ?_, fun j k hjk hk => ?_⟩
 ·obtain ⟨a1, _, a3⟩ := h.base j hj
  exact ⟨a1, hs2 j (by rw [hs, h.sl]; exact hj), a3⟩
 ·have hk' : k < w.troops.length := by simpa using hk
  have e : ∀ t, TrpOk w t → TrpOk { w with stocks := st, mines := mi, troops := w.troops.set i (withLoad (w.troops.getD i default) n) } t := fun t ht => ⟨ht.kind, ht.id, ht.owner, ht.at_, ht.x, ht.y, ht.life, ht.load⟩
  simp only [G]
  split
  ·exact e _ (withLoad_ok (h.trp i hi) hn)
  ·exact e _ (h.trp k hk')
 ·have hk' : k < w.troops.length := by simpa using hk
  have := h.ord j k hjk hk'
  simp only [G]
  have f1 : ∀ m, (if m = i then withLoad (w.troops.getD i default) n else w.troops.getD m default).id = (w.troops.getD m default).id ∧ (if m = i then withLoad (w.troops.getD i default) n else w.troops.getD m default).c = (w.troops.getD m default).c := fun m => by
   split
   ·rename_i e; subst e; exact ⟨rfl, rfl⟩
   ·exact ⟨rfl, rfl⟩
  rw [(f1 j).1, (f1 k).1, (f1 j).2, (f1 k).2]; exact this
theorem right_mine {w : Wld} (h : Right w) {i : Nat} (hi : i < w.troops.length) {d : Ded} (ho : mineOk w d i = true) : Right (mineAt w i (idxN w.f d.c)) := by
 unfold mineOk at ho
 simp only [Bool.and_eq_true, decide_eq_true_eq] at ho
 obtain ⟨⟨⟨⟨o1, o2⟩, _⟩, o4⟩, o5⟩ := ho
 obtain ⟨m1, _⟩ := idx_in h o4
 have hl := (h.trp i hi).load
 have G := fun p => getD_set (w.mines.getD (idxN w.f d.c) default - 1) p m1
 refine right_load h hi (by omega) rfl (by simp) (fun j hj => (h.base j (by rw [← h.sl]; exact hj)).2.1) (fun j hj => ?_)
 have hj' : j < w.mines.length := by simpa using hj
 rw [G]
 split
 ·rename_i e; subst e
  obtain ⟨a1, a2⟩ := h.mine _ hj'
  exact ⟨by omega, by rcases a2 with a2 | a2; omega; exact .inr a2⟩
 ·exact h.mine j hj'
theorem dropN_b {w : Wld} (h : Right w) {i : Nat} (hi : i < w.troops.length) : 0 ≤ dropN w i ∧ dropN w i ≤ (w.troops.getD i default).load ∧ w.stocks.getD (w.troops.getD i default).owner.toNat default + dropN w i ≤ 1000000 ∧ 0 ≤ w.stocks.getD (w.troops.getD i default).owner.toNat default := by
 obtain ⟨o, e, ho, hs⟩ := own_at h hi
 have hl := (h.trp i hi).load
 have hb := (h.base o ho).2.1
 have e2 : (w.troops.getD i default).owner.toNat = o := by omega
 unfold dropN
 rw [e2]; omega
theorem right_drop {w : Wld} (h : Right w) {i : Nat} (hi : i < w.troops.length) : Right (dropAt w i) := by
 obtain ⟨o, e, ho, hs⟩ := own_at h hi
 have e2 : (w.troops.getD i default).owner.toNat = o := by omega
 have hl := (h.trp i hi).load
 have hn := dropN_b h hi
 unfold dropAt
 rw [e2] at hn ⊢
 have G := fun p => getD_set (w.stocks.getD o default + dropN w i) p hs
 refine right_load h hi (by omega) (by simp) rfl (fun j hj => ?_) (fun j hj => h.mine j hj)
 rw [G]
 split
 ·omega
 ·exact (h.base j (by rw [← h.sl]; simpa using hj)).2.1
theorem hireOk_iff {w : Wld} {d : Ded} : hireOk w d = true ↔ ((((0 ≤ d.who ∧ d.who < w.bases.length) ∧ (d.what = 1 ∨ d.what = 2)) ∧ (kindV d.what).price ≤ w.stocks.getD d.who.toNat default) ∧ w.troops.length < 100) ∧ w.next < 1000000 := by
 unfold hireOk
 simp only [Bool.and_eq_true, Bool.or_eq_true, decide_eq_true_eq]
theorem snoc_getD {α : Type} [Inhabited α] (l : List α) (x : α) (k : Nat) : (l ++ [x]).getD k default = if k < l.length then l.getD k default else if k = l.length then x else default := by
 by_cases h : k < l.length
 ·rw [if_pos h, getD_snoc _ _ _ h]
 ·rw [if_neg h]
  by_cases h2 : k = l.length
  ·subst h2; rw [if_pos rfl, getD_at _ _ (by simp)]; simp
  ·rw [if_neg h2]; simp only [List.getD_eq_getElem?_getD]; rw [List.getElem?_eq_none (by simp; omega)]; rfl
theorem right_hire {w : Wld} (h : Right w) {d : Ded} (ho : hireOk w d = true) {c : Cel} (hc : freeB w c = true) : Right (hireAt w d c) := by
 obtain ⟨⟨⟨⟨⟨o1, o2⟩, o3⟩, o4⟩, o5⟩, o6⟩ := hireOk_iff.1 ho
 unfold freeB at hc
 simp only [Bool.and_eq_true, Bool.not_eq_true', List.any_eq_false, decide_eq_true_eq] at hc
 obtain ⟨c1, c2⟩ := hc
 have hs : d.who.toNat < w.stocks.length := by rw [h.sl]; omega
 have G := fun p => getD_set (w.stocks.getD d.who.toNat default - (kindV d.what).price) p hs
 have hp : 0 ≤ (kindV d.what).price := by rcases o3 with e | e <;> rw [e] <;> decide
 have hx := h.nx
 have T := fun k => snoc_getD w.troops (⟨w.next, d.who, d.what, c, (kindV d.what).life, 0⟩ : Trp) k
 refine ⟨h.f, h.nb, by simp only [hireAt, List.length_append, List.length_cons, List.length_nil]; omega, by simp only [hireAt, List.length_set]; exact h.sl, h.ml, by simp only [hireAt]; omega, h.nw, fun j hj => ?_, h.mine, fun k hk => ?_, fun j k hjk hk => ?_⟩
 ·obtain ⟨a1, a2, a3⟩ := h.base j hj
  refine ⟨a1, ?_, a3⟩
  simp only [hireAt, G]
  split
  ·rename_i e; subst e; omega
  ·exact a2
 ·simp only [hireAt, List.length_append, List.length_cons, List.length_nil] at hk
  simp only [hireAt, T]
  split
  ·rename_i hk2
   have ok := h.trp k hk2
   exact trpOk_of ok.kind ⟨ok.id.1, by have := ok.id.2; simp only; omega⟩ ok.owner ok.at_ ok.life ok.load
  ·rw [if_pos (by omega)]
   refine trpOk_of o3 ⟨hx.1, by simp only; omega⟩ ⟨o1, by simp only; omega⟩ c1 ⟨?_, Int.le_refl _⟩ ⟨Int.le_refl _, ?_⟩
   ·rcases o3 with e | e <;> simp only <;> rw [e] <;> decide
   ·simp only; omega
 ·simp only [hireAt, List.length_append, List.length_cons, List.length_nil] at hk
  simp only [hireAt, T]
  rw [if_pos (show j < w.troops.length by omega)]
  split
  ·rename_i hk2
   exact h.ord j k hjk hk2
  ·have hj : j < w.troops.length := by omega
   rw [if_pos (by omega)]
   have ok := (h.trp j hj).id
   refine ⟨by simp only; omega, fun e => ?_⟩
   exact c2 _ (getD_mem _ _ hj) e
theorem find_idx {w : Wld} {id : Int} {i : Nat} (h : w.troops.findIdx? (isId id) = some i) : i < w.troops.length := by
 obtain ⟨hi, _⟩ := List.findIdx?_eq_some_iff_getElem.1 h
 exact hi
theorem right_deed {w : Wld} (h : Right w) (d : Ded) : Right (deedV w d).1 := by
 unfold deedV
 split
 ·split
  ·rename_i i hi
   split
   ·rename_i ho; exact right_mine h (find_idx hi) ho
   ·exact h
  ·exact h
 ·split
  ·split
   ·rename_i i hi
    split
    ·exact right_drop h (find_idx hi)
    ·exact h
   ·exact h
  ·split
   ·split
    ·rename_i ho
     split
     ·rename_i c hc; exact right_hire h ho (List.find?_some hc)
     ·exact h
    ·exact h
   ·exact h
def deedsA (w : Wld) : List Ded → Wld × List Bool
 | [] => (w, [])
 | d :: r => ((deedsA (deedV w d).1 r).1, (deedV w d).2 :: (deedsA (deedV w d).1 r).2)
theorem deedsA_snoc (l : List Ded) (d : Ded) : ∀ w, deedsA w (l ++ [d]) = ((deedV (deedsA w l).1 d).1, (deedsA w l).2 ++ [(deedV (deedsA w l).1 d).2]) := by
 induction l with
 | nil => intro w; rfl
 | cons a r ih => intro w; simp only [List.cons_append, deedsA]; rw [ih]
theorem right_deeds (l : List Ded) : ∀ {w : Wld}, Right w → Right (deedsA w l).1 := by
 induction l with
 | nil => intro w h; exact h
 | cons a r ih => intro w h; exact ih (right_deed h a)
theorem deedsA_len (l : List Ded) : ∀ w, (deedsA w l).2.length = l.length := by
 induction l with
 | nil => intro w; rfl
 | cons a r ih => intro w; simp only [deedsA, List.length_cons, ih]
end Go.Proofs.YthiddmncjafklaaGreat
namespace Go.Proofs.YthiddmncjafklaaGreat
set_option linter.all false
open Go.RowKit
set_option maxRecDepth 100000
set_option maxHeartbeats 1000000
theorem getD_at' {α : Type} (l : List α) (i : Nat) (d : α) (h : i < l.length) : l.getD i d = l[i] := by simp [h]
abbrev dedA (d : Ded) : AV := .agg [I .i64 d.kind, I .i64 d.who, I .i64 d.c.x, I .i64 d.c.y, I .i64 d.what]
abbrev shpC (w : Wld) (i j k : Nat) : List AV := [I .i64 w.f.w, I .i64 w.f.h, .c (.sl 1 (w.f.p.map i64P)), .c (.sl 2 (w.bases.map celP)), .own i, .own j, .own k, I .i64 w.next, I .i64 w.now]
abbrev stR (w : Wld) : Chunk := .row 3 1 (w.stocks.map i64P)
abbrev miR (w : Wld) : Chunk := .row 3 1 (w.mines.map i64P)
abbrev trR (w : Wld) : Chunk := .row 89 7 (w.troops.map trpP)
abbrev shpH (w : Wld) : List Chunk := [.blk 117 (shpC w 1 2 3), stR w, miR w, trR w]
theorem gtc_s (id : Int) (t : Trp) : Spec Tryz.prog 165 ([] ++ [trpA t] ++ [.fel 1 [[pI id]] 0 0]) [] (B (isId id t)) [] := by
 refine spec_am Tryz.func165 rfl rfl mix 8 rfl [.tmp 3] Tryz.results165 (Nat.le_of_ble_eq_true rfl) ?_
 (try (refine xst ?_; try exact xtI))
 (first | (refine retA rfl (Wk.of ?_); (try simp (etaStruct := .none) only [push_cast, DrawG, Int.cast_ofNat_Int, seval]); first | done | (simp [isId, *]; done) | (simp_all [isId]; done)) | (refine retA rfl ?_; (try simp (etaStruct := .none) only [push_cast, DrawG, Int.cast_ofNat_Int, seval]); (try simp [isId, *]); (try exact wkc)))
theorem gtr_none (w : Wld) (id : Int) (hw : Right w) (h : w.troops.findIdx? (isId id) = none) : Spec Tryz.prog 138 [.ptr 0 0 0, I .i64 id] (shpH w) (.c (.v (.pointer none))) (shpH w) := by
 have hz : ixOf (isId id) w.troops = -1 := by unfold ixOf; rw [h]
 have hnt := hw.nt
 refine spec_am Tryz.func138 rfl rfl mix 22 rfl [.tmp 4] Tryz.results138 (Nat.le_of_ble_eq_true rfl) ?_
 (try (refine xst ?_; try exact xtI))
 refine callB (trp_ix _ [] [.fel 1 [[pI id]] 0 0] w.troops (isId id) (by omega) (fun t _ => gtc_s id t) (fun _ => rfl) (fun _ => rfl)) (WkL.refl _) rfl ?_
 rw [hz]
 (try (refine xst ?_; try exact xtI))
 refine cond_i (fun h1 => ?_) (fun h1 => ?_)
 ·(try replace h1 := xhh h1)
  (try (refine xst ?_; try exact xtI))
  refine retM [0, 1, 2, 3] rfl rfl (by decide) ⟨?_, ?_, ?_, ?_, trivial⟩ trivial ?_ <;> simp (etaStruct := .none) only [push_cast, DrawG, Int.cast_ofNat_Int, seval]
 ·(try replace h1 := xhh h1)
  exact absurd h1 (by decide)
theorem gtr_some (w : Wld) (id : Int) (i : Nat) (hw : Right w) (h : w.troops.findIdx? (isId id) = some i) : Spec Tryz.prog 138 [.ptr 0 0 0, I .i64 id] (shpH w) (.ptr 3 i 0) (shpH w) := by
 have hz : ixOf (isId id) w.troops = (i : Int) := by unfold ixOf; rw [h]
 have hnt := hw.nt
 have hi := find_idx h
 refine spec_am Tryz.func138 rfl rfl mix 22 rfl [.tmp 4] Tryz.results138 (Nat.le_of_ble_eq_true rfl) ?_
 (try (refine xst ?_; try exact xtI))
 refine callB (trp_ix _ [] [.fel 1 [[pI id]] 0 0] w.troops (isId id) (by omega) (fun t _ => gtc_s id t) (fun _ => rfl) (fun _ => rfl)) (WkL.refl _) rfl ?_
 rw [hz]
 (try (refine xst ?_; try exact xtI))
 refine cond_i (fun h1 => ?_) (fun h1 => ?_)
 ·(try replace h1 := xhh h1)
  omega
 ·(try replace h1 := xhh h1)
  (try (refine xst ?_; try exact xtI))
  refine retM [0, 1, 2, 3] rfl rfl (by decide) ⟨?_, ?_, ?_, ?_, trivial⟩ trivial ?_ <;> simp (etaStruct := .none) only [push_cast, DrawG, Int.cast_ofNat_Int, seval]
theorem gbes_s (a b : Cel) (ha : -1000000 ≤ a.x ∧ a.x ≤ 1000000 ∧ -1000000 ≤ a.y ∧ a.y ≤ 1000000) : Spec Tryz.prog 139 [celA a, celA b] [] (B (besB a b)) [] := by
 refine spec_am Tryz.func139 rfl rfl mix 35 rfl [.tmp 4] Tryz.results139 (Nat.le_of_ble_eq_true rfl) ?_
 (try (refine xst ?_; try exact xtI))
 (first | (refine retA rfl (Wk.of ?_); (try simp (etaStruct := .none) only [push_cast, DrawG, Int.cast_ofNat_Int, seval]); first | done | (simp [besB, within, Bool.and_assoc, *]; done) | (simp_all [besB, within, Bool.and_assoc]; done)) | (refine retA rfl ?_; (try simp (etaStruct := .none) only [push_cast, DrawG, Int.cast_ofNat_Int, seval]); (try simp [besB, within, Bool.and_assoc, *]); (try exact wkc)))
theorem gmine_none (w : Wld) (d : Ded) (hw : Right w) (h : w.troops.findIdx? (isId d.who) = none) : Spec Tryz.prog 92 [.ptr 0 0 0, dedA d] (shpH w) (B false) (shpH w) := by
 refine spec_am Tryz.func92 rfl rfl mix 88 rfl [.tmp 4] Tryz.results92 (Nat.le_of_ble_eq_true rfl) ?_
 (try (refine xst ?_; try exact xtI))
 refine caM [0, 1, 2, 3] (gtr_none w d.who hw h) ?_
 (try (refine xst ?_; try exact xtI))
 refine gcallN ?_ ?_
 ·rfl
 (try (refine xst ?_; try exact xtI))
 (try (refine ⟨by kernel_rfl, ?_⟩))
 (try (refine xst ?_; try exact xtI))
 refine cond_i (fun h1 => ?_) (fun h1 => ?_)
 ·(try replace h1 := xhh h1)
  (try (refine xst ?_; try exact xtI))
  refine retM [0, 1, 2, 3] rfl rfl (by decide) ⟨?_, ?_, ?_, ?_, trivial⟩ trivial ?_ <;> simp (etaStruct := .none) only [push_cast, DrawG, Int.cast_ofNat_Int, seval]
 ·(try replace h1 := xhh h1)
  exact absurd h1 (by decide)
theorem gmine_s (w : Wld) (d : Ded) (i : Nat) (hw : Right w) (h : w.troops.findIdx? (isId d.who) = some i) (b : Bool) (W : Wld) (hW : (mineOk w d i = true → W = mineAt w i (idxN w.f d.c) ∧ b = true) ∧ (mineOk w d i = false → W = w ∧ b = false)) : Spec Tryz.prog 92 [.ptr 0 0 0, dedA d] (shpH w) (B b) (shpH W) := by
 have hi := find_idx h
 have ok := hw.trp i hi
 have hav : atV w.f d.c = if inF w.f d.c then (placeV w.f d.c, 0) else (0, 7) := by unfold atV; rw [if_neg (by simp [hw.f])]
 have hx := ok.x; have hy := ok.y
 have hfl := fldE_ok hw.f
 have hld := ok.load
 refine spec_am Tryz.func92 rfl rfl mix 88 rfl [.tmp 4] Tryz.results92 (Nat.le_of_ble_eq_true rfl) ?_
 (iterate 2 ((try simp (etaStruct := .none) only [push_cast, DrawG, Int.cast_ofNat_Int, seval, getD_in _ _ _ hi, trpP]); (try (refine xsu ?_; try exact xtI))))
 refine caM [0, 1, 2, 3] (gtr_some w d.who i hw h) ?_
 (iterate 2 ((try simp (etaStruct := .none) only [push_cast, DrawG, Int.cast_ofNat_Int, seval, getD_in _ _ _ hi, trpP]); (try (refine xsu ?_; try exact xtI))))
 refine gcP (fun hcc => gbes_s (w.troops.getD i default).c d.c (by omega)) ?_
 (iterate 2 ((try simp (etaStruct := .none) only [push_cast, DrawG, Int.cast_ofNat_Int, seval, getD_in _ _ _ hi, trpP]); (try (refine xsu ?_; try exact xtI))))
 (try (refine ⟨by kernel_rfl, ?_⟩))
 (iterate 2 ((try simp (etaStruct := .none) only [push_cast, DrawG, Int.cast_ofNat_Int, seval, getD_in _ _ _ hi, trpP]); (try (refine xsu ?_; try exact xtI))))
 refine cond_i (fun h1 => ?_) (fun h1 => ?_)
 ·(try replace h1 := xhh h1)
  have e : mineOk w d i = false := by
   unfold mineOk
   simp only [Bool.and_eq_false_iff, decide_eq_false_iff_not]
   rcases h1 with (h1 | h1) | h1
   ·exact .inl (.inl (.inl (.inl (by omega))))
   ·exact .inl (.inl (.inl (.inr (by omega))))
   ·exact .inl (.inl (.inr h1))
  obtain ⟨rfl, rfl⟩ := hW.2 e
  (iterate 2 ((try simp (etaStruct := .none) only [push_cast, DrawG, Int.cast_ofNat_Int, seval, getD_in _ _ _ hi, trpP]); (try (refine xsu ?_; try exact xtI))))
  refine retM [0, 1, 2, 3] rfl rfl (by decide) ⟨?_, ?_, ?_, ?_, trivial⟩ trivial ?_ <;> simp (etaStruct := .none) only [push_cast, DrawG, Int.cast_ofNat_Int, seval, mineAt, withLoad, List.map_set, i64P, trpP]
 ·(try replace h1 := xhh h1)
  (iterate 2 ((try simp (etaStruct := .none) only [push_cast, DrawG, Int.cast_ofNat_Int, seval, getD_in _ _ _ hi, trpP]); (try (refine xsu ?_; try exact xtI))))
  refine caP (at_s w.f d.c hw.l.1) ?_
  rw [hav]
  (iterate 2 ((try simp (etaStruct := .none) only [push_cast, DrawG, Int.cast_ofNat_Int, seval, getD_in _ _ _ hi, trpP]); (try (refine xsu ?_; try exact xtI))))
  (try (refine ⟨by kernel_rfl, ?_⟩))
  (iterate 2 ((try simp (etaStruct := .none) only [push_cast, DrawG, Int.cast_ofNat_Int, seval, getD_in _ _ _ hi, trpP]); (try (refine xsu ?_; try exact xtI))))
  refine cond_i (fun h2 => ?_) (fun h2 => ?_)
  ·(try replace h2 := xhh h2)
   have hin : inF w.f d.c = false := by
    cases hc : inF w.f d.c with
    | false => rfl
    | true => rw [hc] at h2; simp at h2
   have e : mineOk w d i = false := by unfold mineOk; rw [hin]; simp
   obtain ⟨rfl, rfl⟩ := hW.2 e
   (iterate 2 ((try simp (etaStruct := .none) only [push_cast, DrawG, Int.cast_ofNat_Int, seval, getD_in _ _ _ hi, trpP]); (try (refine xsu ?_; try exact xtI))))
   refine retM [0, 1, 2, 3] rfl rfl (by decide) ⟨?_, ?_, ?_, ?_, trivial⟩ trivial ?_ <;> simp (etaStruct := .none) only [push_cast, DrawG, Int.cast_ofNat_Int, seval, mineAt, withLoad, List.map_set, i64P, trpP]
  ·(try replace h2 := xhh h2)
   have hin : inF w.f d.c = true := by
    cases hc : inF w.f d.c with
    | true => rfl
    | false => rw [hc] at h2; simp at h2
   obtain ⟨m1, m2, m3, m4⟩ := idx_in hw hin
   obtain ⟨m, hm⟩ : ∃ m, m = idxN w.f d.c := ⟨_, rfl⟩
   rw [← hm] at m1 m2
   have hml := hw.ml
   have hpl := hw.places
   have ew1 : IntKind.i64.wrap (IntKind.i64.wrap (d.c.y * w.f.w) + d.c.x) = (m : Int) := by rw [wrap_in (d.c.y * w.f.w) (by omega) (by omega), wrap_in _ (by omega) (by omega)]; exact m2
   have hmb := (hw.mine m m1).1
   (iterate 2 ((try simp (etaStruct := .none) only [push_cast, DrawG, Int.cast_ofNat_Int, seval, getD_in _ _ _ hi, trpP, ew1, getD_in _ _ _ m1, i64P]); (try (refine xsu ?_; try exact xtI))))
   (try (refine ⟨by kernel_rfl, ?_⟩))
   (iterate 2 ((try simp (etaStruct := .none) only [push_cast, DrawG, Int.cast_ofNat_Int, seval, getD_in _ _ _ hi, trpP, ew1, getD_in _ _ _ m1, i64P]); (try (refine xsu ?_; try exact xtI))))
   refine cond_i (fun h3 => ?_) (fun h3 => ?_)
   ·(try replace h3 := xhh h3)
    have e : mineOk w d i = false := by
     unfold mineOk
     rw [← hm, h3]; simp
    obtain ⟨rfl, rfl⟩ := hW.2 e
    (iterate 2 ((try simp (etaStruct := .none) only [push_cast, DrawG, Int.cast_ofNat_Int, seval, getD_in _ _ _ hi, trpP, ew1, getD_in _ _ _ m1, i64P]); (try (refine xsu ?_; try exact xtI))))
    refine retM [0, 1, 2, 3] rfl rfl (by decide) ⟨?_, ?_, ?_, ?_, trivial⟩ trivial ?_ <;> simp (etaStruct := .none) only [push_cast, DrawG, Int.cast_ofNat_Int, seval, mineAt, withLoad, List.map_set, i64P, trpP]
   ·(try replace h3 := xhh h3)
    have e : mineOk w d i = true := by
     unfold mineOk
     rw [← hm, hin]
     simp only [Bool.and_eq_true, decide_eq_true_eq]
     exact ⟨⟨⟨⟨by omega, by omega⟩, h1.2⟩, trivial⟩, by omega⟩
    obtain ⟨rfl, rfl⟩ := hW.1 e
    rw [← hm]
    (iterate 2 ((try simp (etaStruct := .none) only [push_cast, DrawG, Int.cast_ofNat_Int, seval, getD_in _ _ _ hi, trpP, ew1, getD_in _ _ _ m1, i64P]); (try (refine xsu ?_; try exact xtI))))
    refine retM [0, 1, 2, 3] rfl rfl (by decide) ⟨?_, ?_, ?_, ?_, trivial⟩ trivial ?_ <;> simp (etaStruct := .none) only [push_cast, DrawG, Int.cast_ofNat_Int, seval, mineAt, withLoad, List.map_set, i64P, trpP]
theorem gdrop_none (w : Wld) (d : Ded) (hw : Right w) (h : w.troops.findIdx? (isId d.who) = none) : Spec Tryz.prog 93 [.ptr 0 0 0, dedA d] (shpH w) (B false) (shpH w) := by
 refine spec_am Tryz.func93 rfl rfl mix 80 rfl [.tmp 4] Tryz.results93 (Nat.le_of_ble_eq_true rfl) ?_
 (try (refine xst ?_; try exact xtI))
 refine caM [0, 1, 2, 3] (gtr_none w d.who hw h) ?_
 (try (refine xst ?_; try exact xtI))
 refine gcallN ?_ ?_
 ·rfl
 (try (refine xst ?_; try exact xtI))
 (try (refine ⟨by kernel_rfl, ?_⟩))
 (try (refine xst ?_; try exact xtI))
 refine cond_i (fun h1 => ?_) (fun h1 => ?_)
 ·(try replace h1 := xhh h1)
  (try (refine xst ?_; try exact xtI))
  refine retM [0, 1, 2, 3] rfl rfl (by decide) ⟨?_, ?_, ?_, ?_, trivial⟩ trivial ?_ <;> simp (etaStruct := .none) only [push_cast, DrawG, Int.cast_ofNat_Int, seval]
 ·(try replace h1 := xhh h1)
  exact absurd h1 (by decide)
theorem drop_zero {w : Wld} (hw : Right w) {i : Nat} (hi : i < w.troops.length) (h : (w.troops.getD i default).load = 0) : dropN w i = 0 ∧ dropAt w i = w := by
 have hn := dropN_b hw hi
 have h0 : dropN w i = 0 := by omega
 obtain ⟨o, e, ho, hs⟩ := own_at hw hi
 refine ⟨h0, ?_⟩
 unfold dropAt
 rw [h0, Int.add_zero, Int.sub_zero, set_same _ _ (by omega)]
 have : withLoad (w.troops.getD i default) (w.troops.getD i default).load = w.troops.getD i default := rfl
 rw [this, set_same _ _ hi]
theorem gdrop_s (w : Wld) (d : Ded) (i : Nat) (hw : Right w) (h : w.troops.findIdx? (isId d.who) = some i) (b : Bool) (W : Wld) (hW : (dropOk w i = true → W = dropAt w i ∧ b = decide (0 < dropN w i)) ∧ (dropOk w i = false → W = w ∧ b = false)) : Spec Tryz.prog 93 [.ptr 0 0 0, dedA d] (shpH w) (B b) (shpH W) := by
 have hi := find_idx h
 have ok := hw.trp i hi
 obtain ⟨o, eo, ho, hs⟩ := own_at hw hi
 have hn := dropN_b hw hi
 have hb := hw.base o ho
 have hbx := inF_iff.1 (ground_iff.1 hb.1).1
 have hfl := fldE_ok hw.f
 have hld := ok.load
 have eo2 : (w.troops.getD i default).owner.toNat = o := by omega
 have edN : dropN w i = min (w.troops.getD i default).load (1000000 - w.stocks.getD o default) := by unfold dropN; rw [eo2]
 have ew1 : IntKind.i64.wrap (1000000 - w.stocks.getD o default) = 1000000 - w.stocks.getD o default := wrap_in _ (by omega) (by omega)
 have emn : (if 1000000 - w.stocks.getD o default < (w.troops.getD i default).load then 1000000 - w.stocks.getD o default else (w.troops.getD i default).load) = dropN w i := by rw [edN]; split <;> omega
 rw [eo2] at hn
 have ew3 : IntKind.i64.wrap ((w.troops.getD i default).load - dropN w i) = (w.troops.getD i default).load - dropN w i := wrap_in _ (by rcases ok.kind with k | k <;> omega) (by rcases ok.kind with k | k <;> omega)
 have setg : ∀ x : List PV, ((w.troops.map trpP).set i x).getD i [] = x := fun x => by rw [getD_at' _ _ _ (by simpa using hi)]; simp
 refine spec_am Tryz.func93 rfl rfl mix 80 rfl [.tmp 4] Tryz.results93 (Nat.le_of_ble_eq_true rfl) ?_
 (iterate 2 ((try simp (etaStruct := .none) only [push_cast, DrawG, Int.cast_ofNat_Int, seval, setg, getD_in _ _ _ hi, trpP, eo, getD_in _ _ _ ho, celP, getD_in _ _ _ hs, i64P, ew1, emn]); (try (refine xsu ?_; try exact xtI))))
 refine caM [0, 1, 2, 3] (gtr_some w d.who i hw h) ?_
 (iterate 2 ((try simp (etaStruct := .none) only [push_cast, DrawG, Int.cast_ofNat_Int, seval, setg, getD_in _ _ _ hi, trpP, eo, getD_in _ _ _ ho, celP, getD_in _ _ _ hs, i64P, ew1, emn]); (try (refine xsu ?_; try exact xtI))))
 refine gcP (fun hcc => gbes_s (w.bases.getD o default) (w.troops.getD i default).c (by omega)) ?_
 (iterate 2 ((try simp (etaStruct := .none) only [push_cast, DrawG, Int.cast_ofNat_Int, seval, setg, getD_in _ _ _ hi, trpP, eo, getD_in _ _ _ ho, celP, getD_in _ _ _ hs, i64P, ew1, emn]); (try (refine xsu ?_; try exact xtI))))
 (try (refine ⟨by kernel_rfl, ?_⟩))
 (iterate 2 ((try simp (etaStruct := .none) only [push_cast, DrawG, Int.cast_ofNat_Int, seval, setg, getD_in _ _ _ hi, trpP, eo, getD_in _ _ _ ho, celP, getD_in _ _ _ hs, i64P, ew1, emn]); (try (refine xsu ?_; try exact xtI))))
 refine cond_i (fun h1 => ?_) (fun h1 => ?_)
 ·(try replace h1 := xhh h1)
  have hd : W = w ∧ b = false := by
   rcases h1 with h1 | h1
   ·obtain ⟨z1, z2⟩ := drop_zero hw hi h1
    cases hk : dropOk w i with
    | true => obtain ⟨q1, q2⟩ := hW.1 hk; rw [q1, q2, z1, z2]; exact ⟨rfl, rfl⟩
    | false => exact hW.2 hk
   ·exact hW.2 (by unfold dropOk; rw [eo2]; exact h1)
  obtain ⟨rfl, rfl⟩ := hd
  (iterate 2 ((try simp (etaStruct := .none) only [push_cast, DrawG, Int.cast_ofNat_Int, seval, setg, getD_in _ _ _ hi, trpP, eo, getD_in _ _ _ ho, celP, getD_in _ _ _ hs, i64P, ew1, emn]); (try (refine xsu ?_; try exact xtI))))
  refine retM [0, 1, 2, 3] rfl rfl (by decide) ⟨?_, ?_, ?_, ?_, trivial⟩ trivial ?_
  ·simp (etaStruct := .none) only [push_cast, DrawG, Int.cast_ofNat_Int, seval, dropAt]
  ·simp (etaStruct := .none) only [push_cast, DrawG, Int.cast_ofNat_Int, seval, dropAt, eo2, List.map_set, i64P]
  ·simp (etaStruct := .none) only [push_cast, DrawG, Int.cast_ofNat_Int, seval, dropAt]
  ·simp (etaStruct := .none) only [push_cast, DrawG, Int.cast_ofNat_Int, seval, dropAt, withLoad, List.map_set, trpP, eo, ew3]
  ·simp (etaStruct := .none) only [push_cast, DrawG, Int.cast_ofNat_Int, seval]
 ·(try replace h1 := xhh h1)
  obtain ⟨rfl, rfl⟩ := hW.1 (by unfold dropOk; rw [eo2]; exact h1.2)
  (iterate 2 ((try simp (etaStruct := .none) only [push_cast, DrawG, Int.cast_ofNat_Int, seval, setg, getD_in _ _ _ hi, trpP, eo, getD_in _ _ _ ho, celP, getD_in _ _ _ hs, i64P, ew1, emn]); (try (refine xsu ?_; try exact xtI))))
  (try (refine ⟨by kernel_rfl, ?_⟩))
  (iterate 2 ((try simp (etaStruct := .none) only [push_cast, DrawG, Int.cast_ofNat_Int, seval, setg, getD_in _ _ _ hi, trpP, eo, getD_in _ _ _ ho, celP, getD_in _ _ _ hs, i64P, ew1, emn]); (try (refine xsu ?_; try exact xtI))))
  (try (refine ⟨by kernel_rfl, ?_⟩))
  (iterate 2 ((try simp (etaStruct := .none) only [push_cast, DrawG, Int.cast_ofNat_Int, seval, setg, getD_in _ _ _ hi, trpP, eo, getD_in _ _ _ ho, celP, getD_in _ _ _ hs, i64P, ew1, emn]); (try (refine xsu ?_; try exact xtI))))
  refine retM [0, 1, 2, 3] rfl rfl (by decide) ⟨?_, ?_, ?_, ?_, trivial⟩ trivial ?_
  ·simp (etaStruct := .none) only [push_cast, DrawG, Int.cast_ofNat_Int, seval, dropAt]
  ·simp (etaStruct := .none) only [push_cast, DrawG, Int.cast_ofNat_Int, seval, dropAt, eo2, List.map_set, i64P]
  ·simp (etaStruct := .none) only [push_cast, DrawG, Int.cast_ofNat_Int, seval, dropAt]
  ·simp (etaStruct := .none) only [push_cast, DrawG, Int.cast_ofNat_Int, seval, dropAt, withLoad, List.map_set, trpP, eo, ew3]
  ·simp (etaStruct := .none) only [push_cast, DrawG, Int.cast_ofNat_Int, seval]
end Go.Proofs.YthiddmncjafklaaGreat
namespace Go.Proofs.YthiddmncjafklaaGreat
set_option linter.all false
open Go.RowKit
set_option maxRecDepth 100000
set_option maxHeartbeats 1000000
theorem trp_any (F : FuncId) (a b : List AV) (l : List Trp) (p : Trp → Bool) (hl : l.length ≤ 9223372036854775807) (hp : ∀ n ∈ l, Spec Tryz.prog F (a ++ [trpA n] ++ b) [] (B (p n)) []) (ha : ∀ h, cvL [] h a = a) (hb : ∀ h, cvL [] h b = b) :
 Spec Tryz.prog 66 [.c (.sl 7 (l.map trpP)), .clo (.func F) a b] [] (B (l.any p)) [] := by
 refine spec_am Tryz.func66 rfl rfl mix 9 rfl [.tmp 4] Tryz.results66 (Nat.le_of_ble_eq_true rfl) ?_
 simp (etaStruct := .none) only [push_cast, DrawG, Int.cast_ofNat_Int, seval]
 refine callP (trp_ix F a b l p hl hp ha hb) (by simp only [ha, hb, cvL, cv]; exact WkL.refl _) ?_
 simp (etaStruct := .none) only [push_cast, DrawG, Int.cast_ofNat_Int, seval]
 exact ret0 rfl trivial (Wk.of (by rw [ixOf_any]; rfl))
theorem gfc_s (t : Trp) (c : Cel) : Spec Tryz.prog 166 ([] ++ [trpA t] ++ [.fel 2 [[pI c.x, pI c.y]] 0 0]) [] (B (decide (t.c = c))) [] := by
 refine spec_am Tryz.func166 rfl rfl mix 8 rfl [.tmp 3] Tryz.results166 (Nat.le_of_ble_eq_true rfl) ?_
 (iterate 2 ((try simp (etaStruct := .none) only [push_cast, DrawG, Int.cast_ofNat_Int, seval, cel_dec]); (try (refine xsu ?_; try exact xtI))))
 exact xrz rfl
theorem around_at (b : Cel) {i j : Nat} (hi : i < 3) (hj : j < 3) : (around b).getD (1 + 3 * i + j) default = ⟨b.x + ((j : Int) - 1), b.y + ((i : Int) - 1)⟩ := by
 have h1 : i = 0 ∨ i = 1 ∨ i = 2 := by omega
 have h2 : j = 0 ∨ j = 1 ∨ j = 2 := by omega
 obtain ⟨x, y⟩ := b
 have e1 : x + (((1 : Nat) : Int) - 1) = x := by omega
 have e2 : y + (((1 : Nat) : Int) - 1) = y := by omega
 have e3 : x + (((0 : Nat) : Int) - 1) = x - 1 := by omega
 have e4 : y + (((0 : Nat) : Int) - 1) = y - 1 := by omega
 have e5 : x + (((2 : Nat) : Int) - 1) = x + 1 := by omega
 have e6 : y + (((2 : Nat) : Int) - 1) = y + 1 := by omega
 rcases h1 with rfl | rfl | rfl <;> rcases h2 with rfl | rfl | rfl <;> simp only [e1, e2, e3, e4, e5, e6] <;> rfl
theorem around_step (b : Cel) {i j : Nat} (hi : i < 3) (hj : j < 3) : (around b).take (1 + 3 * i + (j + 1)) = (around b).take (1 + 3 * i + j) ++ [(⟨b.x + ((j : Int) - 1), b.y + ((i : Int) - 1)⟩ : Cel)] := by
 rw [← around_at b hi hj]
 change (around b).take ((1 + 3 * i + j) + 1) = _
 exact take_snoc _ _ (by rw [show (around b).length = 10 from rfl]; omega)
theorem gfree_s (w : Wld) (b : Cel) (hw : Right w) (hb : -1000 ≤ b.x ∧ b.x ≤ 1000 ∧ -1000 ≤ b.y ∧ b.y ≤ 1000) (c : Cel) (q : Bool) (h : (∀ c', freeV w b = some c' → c = c' ∧ q = true) ∧ (freeV w b = none → c = ⟨0, 0⟩ ∧ q = false)) : Spec Tryz.prog 141 [.ptr 0 0 0, celA b] (shpH w) (.tup [celA c, B q]) (shpH w) := by
 have hal : (around b).length = 10 := rfl
 have hnt := hw.nt
 have hav : ∀ c, atV w.f c = if inF w.f c then (placeV w.f c, 0) else (0, 7) := fun c => by unfold atV; rw [if_neg (by simp [hw.f])]
 refine spec_am Tryz.func141 rfl rfl mix 70 rfl [.cell 4 85, .tmp 5] Tryz.results141 (Nat.le_of_ble_eq_true rfl) ?_
 (try (refine xst ?_; try exact xtI))
 refine loopI (fun i : Nat => ⟨[(7, I .i64 ((i : Int) - 1)), (6, .own 6), (4, .ptr 5 0 0), (3, .ptr 4 0 0), (0, .ptr 0 0 0)], [(0, .blk 117 (shpC w 1 2 3)), (1, stR w), (2, miR w), (3, trR w), (4, .blk 85 [I .i64 b.x, I .i64 b.y]), (5, .blk 85 [I .i64 0, I .i64 0]), (6, .row 85 2 (((around b).take (1 + 3 * i)).map celP))], 7⟩) (fun i : Nat => i ≤ 3) (fun i : Nat => 3 - i) (0) (Nat.zero_le _) (To.mk [0, 1, 2, 3, 4, 5, 6] rfl rfl (by decide) ?_ ?_) ?_
 ·simp (etaStruct := .none) only [push_cast, DrawG, Int.cast_ofNat_Int, seval, around, celP]
 ·simp (etaStruct := .none) only [push_cast, DrawG, Int.cast_ofNat_Int, seval, Int.zero_sub]
 rintro i hi
 (try (refine xst ?_; try exact xtI))
 refine cond_i (fun h1 => ?_) (fun h1 => ?_)
 ·(try replace h1 := xhh h1)
  have hi3 : i < 3 := by omega
  (try (refine xst ?_; try exact xtI))
  refine loopI (fun j : Nat => ⟨[(8, I .i64 ((j : Int) - 1)), (7, I .i64 ((i : Int) - 1)), (6, .own 6), (4, .ptr 5 0 0), (3, .ptr 4 0 0), (0, .ptr 0 0 0)], [(0, .blk 117 (shpC w 1 2 3)), (1, stR w), (2, miR w), (3, trR w), (4, .blk 85 [I .i64 b.x, I .i64 b.y]), (5, .blk 85 [I .i64 0, I .i64 0]), (6, .row 85 2 (((around b).take (1 + 3 * i + j)).map celP))], 7⟩) (fun j : Nat => j ≤ 3) (fun j : Nat => 3 - j) (0) (Nat.zero_le _) (To.mk [0, 1, 2, 3, 4, 5, 6] rfl rfl (by decide) ?_ ?_) ?_
  ·simp (etaStruct := .none) only [push_cast, DrawG, Int.cast_ofNat_Int, seval]
  ·simp (etaStruct := .none) only [push_cast, DrawG, Int.cast_ofNat_Int, seval, Int.zero_sub]
  rintro j hj
  (try (refine xst ?_; try exact xtI))
  refine cond_i (fun h2 => ?_) (fun h2 => ?_)
  ·(try replace h2 := xhh h2)
   have hj3 : j < 3 := by omega
   have hst := around_step b hi3 hj3
   have hln : ((around b).take (1 + 3 * i + j)).length ≤ 10 := by rw [List.length_take, hal]; omega
   (try (refine xst ?_; try exact xtI))
   refine ⟨j + 1, by omega, by omega, To.mk [0, 1, 2, 3, 4, 5, 8] rfl rfl (by decide) ?_ ?_⟩
   ·(iterate 2 ((try simp (etaStruct := .none) only [push_cast, DrawG, Int.cast_ofNat_Int, seval, hst, List.map_append, celP]); (try (refine xsu ?_; try exact xtI))))
   ·(iterate 2 ((try simp (etaStruct := .none) only [push_cast, DrawG, Int.cast_ofNat_Int, seval, Int.add_sub_cancel, Int.sub_add_cancel]); (try (refine xsu ?_; try exact xtI))))
  ·(try replace h2 := xhh h2)
   obtain rfl : j = 3 := by omega
   (try (refine xst ?_; try exact xtI))
   refine ⟨i + 1, by omega, by omega, To.mk [0, 1, 2, 3, 4, 5, 6] rfl rfl (by decide) ?_ ?_⟩
   ·(iterate 2 ((try simp (etaStruct := .none) only [push_cast, DrawG, Int.cast_ofNat_Int, seval, Nat.mul_add, Nat.mul_one, Nat.add_assoc]); (try (refine xsu ?_; try exact xtI))))
   ·(iterate 2 ((try simp (etaStruct := .none) only [push_cast, DrawG, Int.cast_ofNat_Int, seval, Int.add_sub_cancel, Int.sub_add_cancel]); (try (refine xsu ?_; try exact xtI))))
 ·(try replace h1 := xhh h1)
  obtain rfl : i = 3 := by omega
  have hta : (around b).take (1 + 3 * 3) = around b := rfl
  (try (refine xst ?_; try exact xtI))
  refine loopI (fun k : Nat => ⟨[(37, I .i64 k), (36, I .i64 10), (35, .own 6), (4, .ptr 5 0 0), (0, .ptr 0 0 0)], [(0, .blk 117 (shpC w 1 2 3)), (1, stR w), (2, miR w), (3, trR w), (4, .blk 85 [I .i64 b.x, I .i64 b.y]), (5, .blk 85 [I .i64 0, I .i64 0]), (6, .row 85 2 ((around b).map celP))], 7⟩) (fun k : Nat => k ≤ 10 ∧ ∀ j, j < k → freeB w ((around b).getD j default) = false) (fun k : Nat => 10 - k) (0) (⟨Nat.zero_le _, fun j h => absurd h (Nat.not_lt_zero _)⟩) (To.mk [0, 1, 2, 3, 4, 5, 6] rfl rfl (by decide) ?_ ?_) ?_
  ·simp (etaStruct := .none) only [push_cast, DrawG, Int.cast_ofNat_Int, seval, hta]
  ·simp (etaStruct := .none) only [push_cast, DrawG, Int.cast_ofNat_Int, seval, hta, hal]
  rintro k ⟨hk, hn⟩
  (try (refine xst ?_; try exact xtI))
  refine cond_i (fun h3 => ?_) (fun h3 => ?_)
  ·(try replace h3 := xhh h3)
   have hlt : k < (around b).length := by rw [hal]; omega
   obtain ⟨x, hx⟩ : ∃ x, x = (around b).getD k default := ⟨_, rfl⟩
   (iterate 2 ((try simp (etaStruct := .none) (maxSteps := 1000000) only [push_cast, DrawG, Int.cast_ofNat_Int, seval, getD_in _ _ _ hlt, ← hx, celP]); (try (refine xsu ?_; try exact xtI))))
   refine caP (at_s w.f x hw.l.1) ?_
   rw [hav]
   (iterate 2 ((try simp (etaStruct := .none) (maxSteps := 1000000) only [push_cast, DrawG, Int.cast_ofNat_Int, seval, getD_in _ _ _ hlt, ← hx, celP]); (try (refine xsu ?_; try exact xtI))))
   (try (refine ⟨by kernel_rfl, ?_⟩))
   (iterate 2 ((try simp (etaStruct := .none) (maxSteps := 1000000) only [push_cast, DrawG, Int.cast_ofNat_Int, seval, getD_in _ _ _ hlt, ← hx, celP]); (try (refine xsu ?_; try exact xtI))))
   refine gcallB (fun hcc => trp_any _ [] [.fel 2 [[pI x.x, pI x.y]] 0 0] w.troops (fun t => decide (t.c = x)) (by omega) (fun t _ => gfc_s t x) (fun _ => rfl) (fun _ => rfl)) (WkL.refl _) rfl (by intro hc; (try simp (etaStruct := .none) only [push_cast, DrawG, Int.cast_ofNat_Int, seval]); (try simp_all)) ?_
   (iterate 2 ((try simp (etaStruct := .none) (maxSteps := 1000000) only [push_cast, DrawG, Int.cast_ofNat_Int, seval, getD_in _ _ _ hlt, ← hx, celP]); (try (refine xsu ?_; try exact xtI))))
   refine cond_i (fun h4 => ?_) (fun h4 => ?_)
   ·(try replace h4 := xhh h4)
    have hfb : freeB w x = true := by
     unfold freeB groundV
     cases hc : inF w.f x with
     | false => rw [hc] at h4; simp at h4
     | true =>
      rw [hc] at h4
      simp only [if_true] at h4
      rw [h4.2]; simp; exact h4.1.2
    obtain ⟨rfl, rfl⟩ := h.1 x (by unfold freeV; rw [hx]; exact find_hit _ _ k hlt (by rw [← hx]; exact hfb) hn)
    (iterate 2 ((try simp (etaStruct := .none) (maxSteps := 1000000) only [push_cast, DrawG, Int.cast_ofNat_Int, seval, getD_in _ _ _ hlt, ← hx, celP]); (try (refine xsu ?_; try exact xtI))))
    refine retM [0, 1, 2, 3] rfl rfl (by decide) ⟨?_, ?_, ?_, ?_, trivial⟩ ?_ ?_ <;> first | exact Wk.refl _ | (try simp (etaStruct := .none) only [push_cast, DrawG, Int.cast_ofNat_Int, seval])
   ·(try replace h4 := xhh h4)
    have hfb : freeB w x = false := by
     unfold freeB groundV
     cases hc : inF w.f x with
     | false => rfl
     | true =>
      rw [hc] at h4
      simp only [if_true] at h4
      rcases h4 with h4 | h4
      ·by_cases hp : placeV w.f x = 1
       ·simp [hp]
       ·exact absurd (h4.resolve_left (fun n => n trivial)) hp
      ·rw [h4]; simp
    (iterate 2 ((try simp (etaStruct := .none) (maxSteps := 1000000) only [push_cast, DrawG, Int.cast_ofNat_Int, seval, getD_in _ _ _ hlt, ← hx, celP]); (try (refine xsu ?_; try exact xtI))))
    refine ⟨k + 1, ⟨by omega, fun j hj => by
 rcases Nat.lt_or_ge j k with h' | h'
 ·exact hn j h'
 ·rw [show j = k by omega, ← hx]; exact hfb⟩, by omega, To.mk [0, 1, 2, 3, 4, 5, 6] rfl rfl (by decide) ?_ ?_⟩
    ·(iterate 2 ((try simp (etaStruct := .none) (maxSteps := 1000000) only [push_cast, DrawG, Int.cast_ofNat_Int, seval, getD_in _ _ _ hlt, ← hx, celP]); (try (refine xsu ?_; try exact xtI))))
    ·(iterate 2 ((try simp (etaStruct := .none) (maxSteps := 1000000) only [push_cast, DrawG, Int.cast_ofNat_Int, seval, getD_in _ _ _ hlt, ← hx, celP]); (try (refine xsu ?_; try exact xtI))))
  ·(try replace h3 := xhh h3)
   obtain ⟨rfl, rfl⟩ := h.2 (find_miss _ _ (fun j hj => hn j (by rw [hal] at hj; omega)))
   (try (refine xst ?_; try exact xtI))
   refine retM [0, 1, 2, 3] rfl rfl (by decide) ⟨?_, ?_, ?_, ?_, trivial⟩ ?_ ?_ <;> first | exact Wk.refl _ | (try simp (etaStruct := .none) only [push_cast, DrawG, Int.cast_ofNat_Int, seval])
end Go.Proofs.YthiddmncjafklaaGreat
namespace Go.Proofs.YthiddmncjafklaaGreat
set_option linter.all false
open Go.RowKit
set_option maxRecDepth 100000
set_option maxHeartbeats 2000000
theorem kindE_iff (k : Int) : kindE k = 0 ↔ k = 1 ∨ k = 2 := by unfold kindE; split <;> (try split) <;> omega
theorem base_box {w : Wld} (hw : Right w) {i : Nat} (hi : i < w.bases.length) : -1000 ≤ (w.bases.getD i default).x ∧ (w.bases.getD i default).x ≤ 1000 ∧ -1000 ≤ (w.bases.getD i default).y ∧ (w.bases.getD i default).y ≤ 1000 := by
 have := inF_iff.1 (ground_iff.1 (hw.base i hi).1).1
 have := fldE_ok hw.f
 omega
theorem ghire_out (w : Wld) (d : Ded) (hw : Right w) (h : w.stocks.length ≤ d.who.toNat) : Spec Tryz.prog 94 [.ptr 0 0 0, dedA d] (shpH w) (B false) (shpH w) := by
 have hsl := hw.sl
 have hg : (w.stocks.map i64P).getD d.who.toNat [] = [] := by
  simp only [List.getD_eq_getElem?_getD]; rw [List.getElem?_eq_none (by rw [List.length_map]; exact h)]; rfl
 have hge : d.who < 0 ∨ (w.bases.length : Int) ≤ d.who := by omega
 refine spec_am Tryz.func94 rfl rfl mix 126 rfl [.tmp 4] Tryz.results94 (Nat.le_of_ble_eq_true rfl) ?_
 (iterate 2 ((try simp (etaStruct := .none) (maxSteps := 1000000) only [push_cast, DrawG, Int.cast_ofNat_Int, seval, hg]); (try (refine xsu ?_; try exact xtI))))
 refine caP (tkind_s d.what) ?_
 (iterate 2 ((try simp (etaStruct := .none) (maxSteps := 1000000) only [push_cast, DrawG, Int.cast_ofNat_Int, seval, hg]); (try (refine xsu ?_; try exact xtI))))
 (try (refine ⟨by kernel_rfl, ?_⟩))
 (iterate 2 ((try simp (etaStruct := .none) (maxSteps := 1000000) only [push_cast, DrawG, Int.cast_ofNat_Int, seval, hg]); (try (refine xsu ?_; try exact xtI))))
 refine cond_i (fun h1 => ?_) (fun h1 => ?_)
 ·(try replace h1 := xhh h1)
  (iterate 2 ((try simp (etaStruct := .none) (maxSteps := 1000000) only [push_cast, DrawG, Int.cast_ofNat_Int, seval, hg]); (try (refine xsu ?_; try exact xtI))))
  refine retM [0, 1, 2, 3] rfl rfl (by decide) ⟨?_, ?_, ?_, ?_, trivial⟩ trivial ?_ <;> first | exact Wk.refl _ | simp (etaStruct := .none) only [push_cast, DrawG, Int.cast_ofNat_Int, seval]
 ·(try replace h1 := xhh h1)
  exact absurd h1 (by decide)
theorem ghire_no (w : Wld) (d : Ded) (hw : Right w) (h : d.who.toNat < w.stocks.length) (hno : hireOk w d = false ∨ freeV w (w.bases.getD d.who.toNat default) = none) : Spec Tryz.prog 94 [.ptr 0 0 0, dedA d] (shpH w) (B false) (shpH w) := by
 have hsl := hw.sl
 have hb : d.who.toNat < w.bases.length := by omega
 have hbb := base_box hw hb
 have hnt := hw.nt
 refine spec_am Tryz.func94 rfl rfl mix 126 rfl [.tmp 4] Tryz.results94 (Nat.le_of_ble_eq_true rfl) ?_
 (iterate 2 ((try simp (etaStruct := .none) (maxSteps := 1000000) only [push_cast, DrawG, Int.cast_ofNat_Int, seval, getD_in _ _ _ h, getD_in _ _ _ hb, i64P, celP]); (try (refine xsu ?_; try exact xtI))))
 refine caP (tkind_s d.what) ?_
 (iterate 2 ((try simp (etaStruct := .none) (maxSteps := 1000000) only [push_cast, DrawG, Int.cast_ofNat_Int, seval, getD_in _ _ _ h, getD_in _ _ _ hb, i64P, celP]); (try (refine xsu ?_; try exact xtI))))
 (try (refine ⟨by kernel_rfl, ?_⟩))
 (iterate 2 ((try simp (etaStruct := .none) (maxSteps := 1000000) only [push_cast, DrawG, Int.cast_ofNat_Int, seval, getD_in _ _ _ h, getD_in _ _ _ hb, i64P, celP]); (try (refine xsu ?_; try exact xtI))))
 refine cond_i (fun h1 => ?_) (fun h1 => ?_)
 ·(try replace h1 := xhh h1)
  (iterate 2 ((try simp (etaStruct := .none) (maxSteps := 1000000) only [push_cast, DrawG, Int.cast_ofNat_Int, seval, getD_in _ _ _ h, getD_in _ _ _ hb, i64P, celP]); (try (refine xsu ?_; try exact xtI))))
  refine retM [0, 1, 2, 3] rfl rfl (by decide) ⟨?_, ?_, ?_, ?_, trivial⟩ trivial ?_ <;> first | exact Wk.refl _ | simp (etaStruct := .none) only [push_cast, DrawG, Int.cast_ofNat_Int, seval]
 ·(try replace h1 := xhh h1)
  have hy : hireOk w d = true := by rw [hireOk_iff, ← kindE_iff]; exact ⟨⟨⟨⟨⟨by omega, by omega⟩, by omega⟩, by omega⟩, by omega⟩, by omega⟩
  have hf : freeV w (w.bases.getD d.who.toNat default) = none := by rcases hno with h2 | h2; rw [hy] at h2; simp at h2; exact h2
  (iterate 2 ((try simp (etaStruct := .none) (maxSteps := 1000000) only [push_cast, DrawG, Int.cast_ofNat_Int, seval, getD_in _ _ _ h, getD_in _ _ _ hb, i64P, celP]); (try (refine xsu ?_; try exact xtI))))
  refine callM [0, 1, 2, 3] (gfree_s w (w.bases.getD d.who.toNat default) hw hbb ⟨0, 0⟩ false ⟨fun c' hc => by rw [hf] at hc; simp at hc, fun _ => ⟨rfl, rfl⟩⟩) (WkL.refl _) rfl (by decide) (by simp [lookC_c, onlyC, memN]) ?_
  (iterate 2 ((try simp (etaStruct := .none) (maxSteps := 1000000) only [push_cast, DrawG, Int.cast_ofNat_Int, seval, getD_in _ _ _ h, getD_in _ _ _ hb, i64P, celP]); (try (refine xsu ?_; try exact xtI))))
  (try (refine ⟨by kernel_rfl, ?_⟩))
  (iterate 2 ((try simp (etaStruct := .none) (maxSteps := 1000000) only [push_cast, DrawG, Int.cast_ofNat_Int, seval, getD_in _ _ _ h, getD_in _ _ _ hb, i64P, celP]); (try (refine xsu ?_; try exact xtI))))
  refine cond_i (fun h2 => ?_) (fun h2 => ?_)
  ·(try replace h2 := xhh h2)
   (iterate 2 ((try simp (etaStruct := .none) (maxSteps := 1000000) only [push_cast, DrawG, Int.cast_ofNat_Int, seval, getD_in _ _ _ h, getD_in _ _ _ hb, i64P, celP]); (try (refine xsu ?_; try exact xtI))))
   refine retM [0, 1, 2, 3] rfl rfl (by decide) ⟨?_, ?_, ?_, ?_, trivial⟩ trivial ?_ <;> first | exact Wk.refl _ | simp (etaStruct := .none) only [push_cast, DrawG, Int.cast_ofNat_Int, seval]
  ·(try replace h2 := xhh h2)
   exact absurd h2 (by decide)
abbrev shpH' (w : Wld) : List Chunk := [.blk 117 (shpC w 1 2 4), stR w, miR w, .dead, trR w]
theorem ghire_yes (w : Wld) (d : Ded) (hw : Right w) (ho : hireOk w d = true) (c : Cel) (hc : freeV w (w.bases.getD d.who.toNat default) = some c) : Spec Tryz.prog 94 [.ptr 0 0 0, dedA d] (shpH w) (B true) (shpH' (hireAt w d c)) := by
 have hsl := hw.sl
 have hoi := hireOk_iff.1 ho
 rw [← kindE_iff] at hoi
 have h : d.who.toNat < w.stocks.length := by omega
 have hb : d.who.toNat < w.bases.length := by omega
 have hbb := base_box hw hb
 have hnt := hw.nt
 have hnx := hw.nx
 have hst := (hw.base _ hb).2.1
 have hpr : 0 ≤ (kindV d.what).price ∧ (kindV d.what).price ≤ 12 := by rcases (kindE_iff _).1 hoi.1.1.1.2 with e | e <;> rw [e] <;> decide
 have ew : IntKind.i64.wrap (w.stocks.getD d.who.toNat default - (kindV d.what).price) = w.stocks.getD d.who.toNat default - (kindV d.what).price := wrap_in _ (by omega) (by omega)
 have ew2 : IntKind.i64.wrap (w.next + 1) = w.next + 1 := wrap_in _ (by omega) (by omega)
 refine spec_am Tryz.func94 rfl rfl mix 126 rfl [.tmp 4] Tryz.results94 (Nat.le_of_ble_eq_true rfl) ?_
 (iterate 2 ((try simp (etaStruct := .none) (maxSteps := 1000000) only [push_cast, DrawG, Int.cast_ofNat_Int, seval, getD_in _ _ _ h, getD_in _ _ _ hb, i64P, celP, ew, ew2]); (try (refine xsu ?_; try exact xtI))))
 refine caP (tkind_s d.what) ?_
 (iterate 2 ((try simp (etaStruct := .none) (maxSteps := 1000000) only [push_cast, DrawG, Int.cast_ofNat_Int, seval, getD_in _ _ _ h, getD_in _ _ _ hb, i64P, celP, ew, ew2]); (try (refine xsu ?_; try exact xtI))))
 (try (refine ⟨by kernel_rfl, ?_⟩))
 (iterate 2 ((try simp (etaStruct := .none) (maxSteps := 1000000) only [push_cast, DrawG, Int.cast_ofNat_Int, seval, getD_in _ _ _ h, getD_in _ _ _ hb, i64P, celP, ew, ew2]); (try (refine xsu ?_; try exact xtI))))
 refine cond_i (fun h1 => ?_) (fun h1 => ?_)
 ·(try replace h1 := xhh h1)
  exfalso; omega
 ·(try replace h1 := xhh h1)
  (iterate 2 ((try simp (etaStruct := .none) (maxSteps := 1000000) only [push_cast, DrawG, Int.cast_ofNat_Int, seval, getD_in _ _ _ h, getD_in _ _ _ hb, i64P, celP, ew, ew2]); (try (refine xsu ?_; try exact xtI))))
  refine callM [0, 1, 2, 3] (gfree_s w (w.bases.getD d.who.toNat default) hw hbb c true ⟨fun c' hc' => by rw [hc] at hc'; exact ⟨(Option.some.inj hc'), rfl⟩, fun hn => by rw [hc] at hn; simp at hn⟩) (WkL.refl _) rfl (by decide) (by simp [lookC_c, onlyC, memN]) ?_
  (iterate 2 ((try simp (etaStruct := .none) (maxSteps := 1000000) only [push_cast, DrawG, Int.cast_ofNat_Int, seval, getD_in _ _ _ h, getD_in _ _ _ hb, i64P, celP, ew, ew2]); (try (refine xsu ?_; try exact xtI))))
  (try (refine ⟨by kernel_rfl, ?_⟩))
  (iterate 2 ((try simp (etaStruct := .none) (maxSteps := 1000000) only [push_cast, DrawG, Int.cast_ofNat_Int, seval, getD_in _ _ _ h, getD_in _ _ _ hb, i64P, celP, ew, ew2]); (try (refine xsu ?_; try exact xtI))))
  refine cond_i (fun h2 => ?_) (fun h2 => ?_)
  ·(try replace h2 := xhh h2)
   exact absurd h2 (by decide)
  ·(try replace h2 := xhh h2)
   (iterate 2 ((try simp (etaStruct := .none) (maxSteps := 1000000) only [push_cast, DrawG, Int.cast_ofNat_Int, seval, getD_in _ _ _ h, getD_in _ _ _ hb, i64P, celP, ew, ew2]); (try (refine xsu ?_; try exact xtI))))
   (try (refine ⟨by kernel_rfl, ?_⟩))
   (iterate 2 ((try simp (etaStruct := .none) (maxSteps := 1000000) only [push_cast, DrawG, Int.cast_ofNat_Int, seval, getD_in _ _ _ h, getD_in _ _ _ hb, i64P, celP, ew, ew2]); (try (refine xsu ?_; try exact xtI))))
   (try (refine ⟨by kernel_rfl, ?_⟩))
   (iterate 2 ((try simp (etaStruct := .none) (maxSteps := 1000000) only [push_cast, DrawG, Int.cast_ofNat_Int, seval, getD_in _ _ _ h, getD_in _ _ _ hb, i64P, celP, ew, ew2]); (try (refine xsu ?_; try exact xtI))))
   refine retM [0, 1, 2, 3, 350] rfl rfl (by decide) ⟨?_, ?_, ?_, ?_, ?_, trivial⟩ trivial ?_
   ·simp (etaStruct := .none) (maxSteps := 1000000) only [push_cast, DrawG, Int.cast_ofNat_Int, seval, hireAt]
   ·simp (etaStruct := .none) (maxSteps := 1000000) only [push_cast, DrawG, Int.cast_ofNat_Int, seval, hireAt, List.map_set, i64P]
   ·simp (etaStruct := .none) (maxSteps := 1000000) only [push_cast, DrawG, Int.cast_ofNat_Int, seval, hireAt]
   ·simp (etaStruct := .none) (maxSteps := 1000000) only [push_cast, DrawG, Int.cast_ofNat_Int, seval, hireAt]
   ·simp (etaStruct := .none) (maxSteps := 1000000) only [push_cast, DrawG, Int.cast_ofNat_Int, seval, hireAt, List.map_append, trpP]
   ·exact Wk.refl _
theorem gdeed_1 (w W : Wld) (d : Ded) (b : Bool) (h : d.kind = 1) (M : Spec Tryz.prog 92 [.ptr 0 0 0, dedA d] (shpH w) (B b) (shpH W)) : Spec Tryz.prog 60 [.ptr 0 0 0, dedA d] (shpH w) (B b) (shpH W) := by
 refine spec_am Tryz.func60 rfl rfl mix 22 rfl [.tmp 4] Tryz.results60 (Nat.le_of_ble_eq_true rfl) ?_
 (try (refine xst ?_; try exact xtI))
 refine cond_i (fun h1 => ?_) (fun h1 => ?_)
 ·(try replace h1 := xhh h1)
  (try (refine xst ?_; try exact xtI))
  refine caM [0, 1, 2, 3] (M) ?_
  (try (refine xst ?_; try exact xtI))
  refine retM [0, 1, 2, 3] rfl rfl (by decide) ⟨?_, ?_, ?_, ?_, trivial⟩ trivial ?_ <;> first | exact Wk.refl _ | simp (etaStruct := .none) only [push_cast, DrawG, Int.cast_ofNat_Int, seval]
 ·(try replace h1 := xhh h1)
  exact absurd h h1
theorem gdeed_2 (w W : Wld) (d : Ded) (b : Bool) (h : d.kind = 2) (M : Spec Tryz.prog 93 [.ptr 0 0 0, dedA d] (shpH w) (B b) (shpH W)) : Spec Tryz.prog 60 [.ptr 0 0 0, dedA d] (shpH w) (B b) (shpH W) := by
 refine spec_am Tryz.func60 rfl rfl mix 22 rfl [.tmp 4] Tryz.results60 (Nat.le_of_ble_eq_true rfl) ?_
 (try (refine xst ?_; try exact xtI))
 refine cond_i (fun h1 => ?_) (fun h1 => ?_)
 ·(try replace h1 := xhh h1)
  exfalso; omega
 ·(try replace h1 := xhh h1)
  (try (refine xst ?_; try exact xtI))
  refine cond_i (fun h2 => ?_) (fun h2 => ?_)
  ·(try replace h2 := xhh h2)
   (try (refine xst ?_; try exact xtI))
   refine caM [0, 1, 2, 3] (M) ?_
   (try (refine xst ?_; try exact xtI))
   refine retM [0, 1, 2, 3] rfl rfl (by decide) ⟨?_, ?_, ?_, ?_, trivial⟩ trivial ?_ <;> first | exact Wk.refl _ | simp (etaStruct := .none) only [push_cast, DrawG, Int.cast_ofNat_Int, seval]
  ·(try replace h2 := xhh h2)
   exact absurd h h2
theorem gdeed_3 (w : Wld) (d : Ded) (h : d.kind = 3) (M : Spec Tryz.prog 94 [.ptr 0 0 0, dedA d] (shpH w) (B false) (shpH w)) : Spec Tryz.prog 60 [.ptr 0 0 0, dedA d] (shpH w) (B false) (shpH w) := by
 refine spec_am Tryz.func60 rfl rfl mix 22 rfl [.tmp 4] Tryz.results60 (Nat.le_of_ble_eq_true rfl) ?_
 (try (refine xst ?_; try exact xtI))
 refine cond_i (fun h1 => ?_) (fun h1 => ?_)
 ·(try replace h1 := xhh h1)
  exfalso; omega
 ·(try replace h1 := xhh h1)
  (try (refine xst ?_; try exact xtI))
  refine cond_i (fun h2 => ?_) (fun h2 => ?_)
  ·(try replace h2 := xhh h2)
   exfalso; omega
  ·(try replace h2 := xhh h2)
   (try (refine xst ?_; try exact xtI))
   refine cond_i (fun h3 => ?_) (fun h3 => ?_)
   ·(try replace h3 := xhh h3)
    (try (refine xst ?_; try exact xtI))
    refine caM [0, 1, 2, 3] (M) ?_
    (try (refine xst ?_; try exact xtI))
    refine retM [0, 1, 2, 3] rfl rfl (by decide) ⟨?_, ?_, ?_, ?_, trivial⟩ trivial ?_ <;> first | exact Wk.refl _ | simp (etaStruct := .none) only [push_cast, DrawG, Int.cast_ofNat_Int, seval]
   ·(try replace h3 := xhh h3)
    exact absurd h h3
theorem gdeed_0 (w : Wld) (d : Ded) (h : d.kind ≠ 1 ∧ d.kind ≠ 2 ∧ d.kind ≠ 3) : Spec Tryz.prog 60 [.ptr 0 0 0, dedA d] (shpH w) (B false) (shpH w) := by
 refine spec_am Tryz.func60 rfl rfl mix 22 rfl [.tmp 4] Tryz.results60 (Nat.le_of_ble_eq_true rfl) ?_
 (try (refine xst ?_; try exact xtI))
 refine cond_i (fun h1 => ?_) (fun h1 => ?_)
 ·(try replace h1 := xhh h1)
  exfalso; omega
 ·(try replace h1 := xhh h1)
  (try (refine xst ?_; try exact xtI))
  refine cond_i (fun h2 => ?_) (fun h2 => ?_)
  ·(try replace h2 := xhh h2)
   exfalso; omega
  ·(try replace h2 := xhh h2)
   (try (refine xst ?_; try exact xtI))
   refine cond_i (fun h3 => ?_) (fun h3 => ?_)
   ·(try replace h3 := xhh h3)
    exfalso; omega
   ·(try replace h3 := xhh h3)
    (try (refine xst ?_; try exact xtI))
    refine retM [0, 1, 2, 3] rfl rfl (by decide) ⟨?_, ?_, ?_, ?_, trivial⟩ trivial ?_ <;> first | exact Wk.refl _ | simp (etaStruct := .none) only [push_cast, DrawG, Int.cast_ofNat_Int, seval]
theorem gdeed_h (w W : Wld) (d : Ded) (h : d.kind = 3) (M : Spec Tryz.prog 94 [.ptr 0 0 0, dedA d] (shpH w) (B true) (shpH' W)) : Spec Tryz.prog 60 [.ptr 0 0 0, dedA d] (shpH w) (B true) (shpH' W) := by
 refine spec_am Tryz.func60 rfl rfl mix 22 rfl [.tmp 4] Tryz.results60 (Nat.le_of_ble_eq_true rfl) ?_
 (try (refine xst ?_; try exact xtI))
 refine cond_i (fun h1 => ?_) (fun h1 => ?_)
 ·(try replace h1 := xhh h1)
  exfalso; omega
 ·(try replace h1 := xhh h1)
  (try (refine xst ?_; try exact xtI))
  refine cond_i (fun h2 => ?_) (fun h2 => ?_)
  ·(try replace h2 := xhh h2)
   exfalso; omega
  ·(try replace h2 := xhh h2)
   (try (refine xst ?_; try exact xtI))
   refine cond_i (fun h3 => ?_) (fun h3 => ?_)
   ·(try replace h3 := xhh h3)
    (try (refine xst ?_; try exact xtI))
    refine caM [0, 1, 2, 3] (M) ?_
    (try (refine xst ?_; try exact xtI))
    refine retM [0, 1, 2, 3, 5] rfl rfl (by decide) ⟨?_, ?_, ?_, ?_, ?_, trivial⟩ trivial ?_ <;> first | exact Wk.refl _ | simp (etaStruct := .none) only [push_cast, DrawG, Int.cast_ofNat_Int, seval]
   ·(try replace h3 := xhh h3)
    exact absurd h h3
theorem gdeed_s (w : Wld) (d : Ded) (hw : Right w) : Spec Tryz.prog 60 [.ptr 0 0 0, dedA d] (shpH w) (B (deedV w d).2) (shpH (deedV w d).1) ∨ Spec Tryz.prog 60 [.ptr 0 0 0, dedA d] (shpH w) (B (deedV w d).2) (shpH' (deedV w d).1) := by
 unfold deedV
 split
 ·rename_i h
  split
  ·rename_i i hi
   split
   ·rename_i ho; exact .inl (gdeed_1 w _ d true h (gmine_s w d i hw hi true _ ⟨fun _ => ⟨rfl, rfl⟩, fun h2 => by rw [ho] at h2; simp at h2⟩))
   ·rename_i ho; exact .inl (gdeed_1 w _ d false h (gmine_s w d i hw hi false _ ⟨fun h2 => absurd h2 ho, fun _ => ⟨rfl, rfl⟩⟩))
  ·rename_i hi; exact .inl (gdeed_1 w _ d false h (gmine_none w d hw hi))
 ·split
  ·rename_i h
   split
   ·rename_i i hi
    split
    ·rename_i ho; exact .inl (gdeed_2 w _ d _ h (gdrop_s w d i hw hi _ _ ⟨fun _ => ⟨rfl, rfl⟩, fun h2 => by rw [ho] at h2; simp at h2⟩))
    ·rename_i ho; exact .inl (gdeed_2 w _ d false h (gdrop_s w d i hw hi false _ ⟨fun h2 => absurd h2 ho, fun _ => ⟨rfl, rfl⟩⟩))
   ·rename_i hi; exact .inl (gdeed_2 w _ d false h (gdrop_none w d hw hi))
  ·split
   ·rename_i h
    split
    ·rename_i ho
     split
     ·rename_i c hc; exact .inr (gdeed_h w _ d h (ghire_yes w d hw ho c hc))
     ·rename_i hc
      have hoi := hireOk_iff.1 ho
      exact .inl (gdeed_3 w d h (ghire_no w d hw (by have := hw.sl; omega) (.inr hc)))
    ·rename_i ho
     rcases Nat.lt_or_ge d.who.toNat w.stocks.length with h2 | h2
     ·exact .inl (gdeed_3 w d h (ghire_no w d hw h2 (.inl (by simpa using ho))))
     ·exact .inl (gdeed_3 w d h (ghire_out w d hw h2))
   ·exact .inl (gdeed_0 w d ⟨by assumption, by assumption, by assumption⟩)
end Go.Proofs.YthiddmncjafklaaGreat
namespace Go.Proofs.YthiddmncjafklaaGreat
set_option linter.all false
open Go.RowKit
set_option maxRecDepth 100000
set_option maxHeartbeats 2000000
theorem gown_s (w : Wld) (hw : Right w) : Spec Tryz.prog 59 [wldA w] [] (.agg [I .i64 w.f.w, I .i64 w.f.h, .c (.sl 1 (w.f.p.map i64P)), .c (.sl 2 (w.bases.map celP)), .own 0, .own 1, .own 2, I .i64 w.next, I .i64 w.now]) [stR w, miR w, trR w] := by
 have h1 := hw.places
 have h2 := hw.nb
 have h3 := hw.sl
 have h4 := hw.ml
 have h5 := hw.nt
 refine spec_am Tryz.func59 rfl rfl mix 26 rfl [.cell 2 28] Tryz.results59 (Nat.le_of_ble_eq_true rfl) ?_
 (try (refine xst ?_; try exact xtI))
 refine caP (int_copy w.f.p (by omega)) ?_
 (try (refine xst ?_; try exact xtI))
 refine caP (cel_copy w.bases (by omega)) ?_
 (try (refine xst ?_; try exact xtI))
 refine caM [] (int_clone w.stocks (by omega)) ?_
 (try (refine xst ?_; try exact xtI))
 (try (refine ⟨by kernel_rfl, ?_⟩))
 (try (refine xst ?_; try exact xtI))
 refine caM [] (int_clone w.mines (by omega)) ?_
 (try (refine xst ?_; try exact xtI))
 refine caM [] (trp_clone w.troops (by omega)) ?_
 (try (refine xst ?_; try exact xtI))
 (try (refine ⟨by kernel_rfl, ?_⟩))
 (try (refine xst ?_; try exact xtI))
 refine retM [22, 50, 62] rfl rfl (by decide) ⟨?_, ?_, ?_, trivial⟩ ?_ ?_ <;> first | exact Wk.refl _ | (try simp (etaStruct := .none) only [push_cast, DrawG, Int.cast_ofNat_Int, seval])
theorem do_k (w : Wld) (l : List Ded) (hw : Right w) (hll : l.length ≤ 200) : Spec Tryz.prog 27 [wldA w, .c (.sl 5 (l.map dedP))] [] (.tup [wldA (deedsA w l).1, .c (.sl 1 ((deedsA w l).2.map boolP)), I .i64 0]) [] := by
 have he := hw.e
 refine spec_am Tryz.func27 rfl rfl mix 40 rfl [.cell 4 28, .tmp 5, .tmp 6] Tryz.results27 (Nat.le_of_ble_eq_true rfl) ?_
 (try (refine xst ?_; try exact xtI))
 refine caP (tcheck_s w hw.l) ?_
 (try (refine xst ?_; try exact xtI))
 refine cond_i (fun h1 => ?_) (fun h1 => ?_)
 ·(try replace h1 := xhh h1)
  exact absurd he h1
 ·(try replace h1 := xhh h1)
  (try (refine xst ?_; try exact xtI))
  refine cond_i (fun h2 => ?_) (fun h2 => ?_)
  ·(try replace h2 := xhh h2)
   omega
  ·(try replace h2 := xhh h2)
   (try (refine xst ?_; try exact xtI))
   refine caM [] (gown_s w hw) ?_
   (try (refine xst ?_; try exact xtI))
   refine loopI (fun k : Nat => ⟨[(27, I .i64 k), (26, I .i64 l.length), (25, .c (.sl 5 (l.map dedP))), (9, .own 5), (8, .ptr 1 0 0), (4, .ptr 0 0 0)], [(0, .blk 28 [I .i64 0, I .i64 0, .c (.v (.slice none 0 0)), .c (.v (.slice none 0 0)), .c (.v (.slice none 0 0)), .c (.v (.slice none 0 0)), .c (.v (.slice none 0 0)), I .i64 0, I .i64 0]), (1, .blk 117 (shpC (deedsA w (l.take k)).1 2 3 4)), (2, stR (deedsA w (l.take k)).1), (3, miR (deedsA w (l.take k)).1), (4, trR (deedsA w (l.take k)).1), (5, .row 4 1 ((deedsA w (l.take k)).2.map boolP))], 6⟩) (fun k : Nat => k ≤ l.length) (fun k : Nat => l.length - k) (0) (Nat.zero_le _) ((To.nil 9 4 1 rfl).trans (To.mk [1, 5, 2, 3, 4, 6] rfl rfl (by decide) ?_ ?_)) ?_
   ·simp (etaStruct := .none) only [push_cast, DrawG, Int.cast_ofNat_Int, seval, List.take_zero, deedsA]
   ·simp (etaStruct := .none) only [push_cast, DrawG, Int.cast_ofNat_Int, seval]
   rintro k hk
   (try (refine xst ?_; try exact xtI))
   refine cond_i (fun h3 => ?_) (fun h3 => ?_)
   ·(try replace h3 := xhh h3)
    have hlt : k < l.length := by omega
    obtain ⟨d, hd⟩ : ∃ d, d = l.getD k default := ⟨_, rfl⟩
    have hst : deedsA w (l.take (k + 1)) = ((deedV (deedsA w (l.take k)).1 d).1, (deedsA w (l.take k)).2 ++ [(deedV (deedsA w (l.take k)).1 d).2]) := by rw [take_snoc _ _ hlt, ← hd, deedsA_snoc]
    have hR := right_deeds (l.take k) hw
    have hbl := deedsA_len (l.take k) w
    rw [List.length_take] at hbl
    generalize (deedsA w (l.take k)).1 = W at *
    generalize (deedsA w (l.take k)).2 = bs at *
    (iterate 2 ((try simp (etaStruct := .none) only [push_cast, DrawG, Int.cast_ofNat_Int, seval, getD_in _ _ _ hlt, ← hd, dedP]); (try (refine xsu ?_; try exact xtI))))
    rcases gdeed_s W d hR with M | M
    ·refine callM [1, 2, 3, 4] M (WkL.refl _) rfl (by decide) (by simp [lookC_c]) ?_
     (iterate 2 ((try simp (etaStruct := .none) only [push_cast, DrawG, Int.cast_ofNat_Int, seval, boolP]); (try (refine xsu ?_; try exact xtI))))
     refine ⟨k + 1, by omega, by omega, To.mk [0, 1, 2, 3, 4, 8] rfl rfl (by decide) ?_ ?_⟩
     ·(iterate 2 ((try simp (etaStruct := .none) only [push_cast, DrawG, Int.cast_ofNat_Int, seval, hst, List.map_append, boolP]); (try (refine xsu ?_; try exact xtI))))
     ·(try (refine xst ?_; try exact xtI))
    ·refine callM [1, 2, 3, 4] M (WkL.refl _) rfl (by decide) (by simp [lookC_c]) ?_
     (iterate 2 ((try simp (etaStruct := .none) only [push_cast, DrawG, Int.cast_ofNat_Int, seval, boolP]); (try (refine xsu ?_; try exact xtI))))
     refine ⟨k + 1, by omega, by omega, To.mk [0, 1, 2, 3, 7, 9] rfl rfl (by decide) ?_ ?_⟩
     ·(iterate 2 ((try simp (etaStruct := .none) only [push_cast, DrawG, Int.cast_ofNat_Int, seval, hst, List.map_append, boolP]); (try (refine xsu ?_; try exact xtI))))
     ·(try (refine xst ?_; try exact xtI))
   ·(try replace h3 := xhh h3)
    obtain rfl : k = l.length := by omega
    (iterate 2 ((try simp (etaStruct := .none) only [push_cast, DrawG, Int.cast_ofNat_Int, seval, List.take_length]); (try (refine xsu ?_; try exact xtI))))
    exact xrz rfl
end Go.Proofs.YthiddmncjafklaaGreat
namespace Go.Proofs.YthiddmncjafklaaGreat
set_option linter.all false
open Go.RowKit
set_option maxRecDepth 100000
set_option maxHeartbeats 1000000
theorem add_blow (o : Ord) (b : List Blw) (g : List Gop) (d : List Ded) (h : o.kind = 1) (hb : b.length ≤ 1000) :
 Spec Tryz.prog 54 [.ptr 0 0 0, ordA o] [.blk 109 [.own 1, .own 2, .own 3], .row 124 2 (b.map blwP), .row 126 3 (g.map gopP), .row 119 5 (d.map dedP)] (.tup [])
  [.blk 109 [.own 4, .own 2, .own 3], .dead, .row 126 3 (g.map gopP), .row 119 5 (d.map dedP), .row 124 2 ((b ++ [(⟨o.who, o.what⟩ : Blw)]).map blwP)] := by
 refine spec_am Tryz.func54 rfl rfl mix 84 rfl [] Tryz.results54 (Nat.le_of_ble_eq_true rfl) ?_
 (try (refine xst ?_; try exact xtI))
 refine cond_i (fun h1 => ?_) (fun h1 => ?_)
 ·(try replace h1 := xhh h1)
  (try (refine xst ?_; try exact xtI))
  (try (refine ⟨by kernel_rfl, ?_⟩))
  (try (refine xst ?_; try exact xtI))
  refine retM [0, 1, 2, 3, 49] rfl rfl (by decide) ⟨?_, ?_, ?_, ?_, ?_, trivial⟩ trivial ?_
  ·simp (etaStruct := .none) only [push_cast, DrawG, Int.cast_ofNat_Int, seval]
  ·simp (etaStruct := .none) only [push_cast, DrawG, Int.cast_ofNat_Int, seval]
  ·simp (etaStruct := .none) only [push_cast, DrawG, Int.cast_ofNat_Int, seval]
  ·simp (etaStruct := .none) only [push_cast, DrawG, Int.cast_ofNat_Int, seval]
  ·simp (etaStruct := .none) only [push_cast, DrawG, Int.cast_ofNat_Int, seval, List.map_append, blwP]
  ·simp (etaStruct := .none) only [push_cast, DrawG, Int.cast_ofNat_Int, seval]
 ·(try replace h1 := xhh h1)
  omega
theorem add_go (o : Ord) (b : List Blw) (g : List Gop) (d : List Ded) (h : o.kind = 2) (hb : g.length ≤ 1000) :
 Spec Tryz.prog 54 [.ptr 0 0 0, ordA o] [.blk 109 [.own 1, .own 2, .own 3], .row 124 2 (b.map blwP), .row 126 3 (g.map gopP), .row 119 5 (d.map dedP)] (.tup [])
  [.blk 109 [.own 1, .own 4, .own 3], .row 124 2 (b.map blwP), .dead, .row 119 5 (d.map dedP), .row 126 3 ((g ++ [(⟨o.who, o.c⟩ : Gop)]).map gopP)] := by
 refine spec_am Tryz.func54 rfl rfl mix 84 rfl [] Tryz.results54 (Nat.le_of_ble_eq_true rfl) ?_
 (try (refine xst ?_; try exact xtI))
 refine cond_i (fun h1 => ?_) (fun h1 => ?_)
 ·(try replace h1 := xhh h1)
  omega
 ·(try replace h1 := xhh h1)
  (try (refine xst ?_; try exact xtI))
  refine cond_i (fun h2 => ?_) (fun h2 => ?_)
  ·(try replace h2 := xhh h2)
   (try (refine xst ?_; try exact xtI))
   (try (refine ⟨by kernel_rfl, ?_⟩))
   (try (refine xst ?_; try exact xtI))
   refine retM [0, 1, 2, 3, 49] rfl rfl (by decide) ⟨?_, ?_, ?_, ?_, ?_, trivial⟩ trivial ?_
   ·simp (etaStruct := .none) only [push_cast, DrawG, Int.cast_ofNat_Int, seval]
   ·simp (etaStruct := .none) only [push_cast, DrawG, Int.cast_ofNat_Int, seval]
   ·simp (etaStruct := .none) only [push_cast, DrawG, Int.cast_ofNat_Int, seval]
   ·simp (etaStruct := .none) only [push_cast, DrawG, Int.cast_ofNat_Int, seval]
   ·simp (etaStruct := .none) only [push_cast, DrawG, Int.cast_ofNat_Int, seval, List.map_append, gopP]
   ·simp (etaStruct := .none) only [push_cast, DrawG, Int.cast_ofNat_Int, seval]
  ·(try replace h2 := xhh h2)
   omega
theorem add_mine (o : Ord) (b : List Blw) (g : List Gop) (d : List Ded) (h : o.kind = 3) (hb : d.length ≤ 1000) :
 Spec Tryz.prog 54 [.ptr 0 0 0, ordA o] [.blk 109 [.own 1, .own 2, .own 3], .row 124 2 (b.map blwP), .row 126 3 (g.map gopP), .row 119 5 (d.map dedP)] (.tup [])
  [.blk 109 [.own 1, .own 2, .own 4], .row 124 2 (b.map blwP), .row 126 3 (g.map gopP), .dead, .row 119 5 ((d ++ [(⟨1, o.who, o.c, 0⟩ : Ded)]).map dedP)] := by
 refine spec_am Tryz.func54 rfl rfl mix 84 rfl [] Tryz.results54 (Nat.le_of_ble_eq_true rfl) ?_
 (try (refine xst ?_; try exact xtI))
 refine cond_i (fun h1 => ?_) (fun h1 => ?_)
 ·(try replace h1 := xhh h1)
  omega
 ·(try replace h1 := xhh h1)
  (try (refine xst ?_; try exact xtI))
  refine cond_i (fun h2 => ?_) (fun h2 => ?_)
  ·(try replace h2 := xhh h2)
   omega
  ·(try replace h2 := xhh h2)
   (try (refine xst ?_; try exact xtI))
   refine cond_i (fun h3 => ?_) (fun h3 => ?_)
   ·(try replace h3 := xhh h3)
    (try (refine xst ?_; try exact xtI))
    (try (refine ⟨by kernel_rfl, ?_⟩))
    (try (refine xst ?_; try exact xtI))
    refine retM [0, 1, 2, 3, 49] rfl rfl (by decide) ⟨?_, ?_, ?_, ?_, ?_, trivial⟩ trivial ?_
    ·simp (etaStruct := .none) only [push_cast, DrawG, Int.cast_ofNat_Int, seval]
    ·simp (etaStruct := .none) only [push_cast, DrawG, Int.cast_ofNat_Int, seval]
    ·simp (etaStruct := .none) only [push_cast, DrawG, Int.cast_ofNat_Int, seval]
    ·simp (etaStruct := .none) only [push_cast, DrawG, Int.cast_ofNat_Int, seval]
    ·simp (etaStruct := .none) only [push_cast, DrawG, Int.cast_ofNat_Int, seval, List.map_append, dedP]
    ·simp (etaStruct := .none) only [push_cast, DrawG, Int.cast_ofNat_Int, seval]
   ·(try replace h3 := xhh h3)
    omega
theorem add_drop (o : Ord) (b : List Blw) (g : List Gop) (d : List Ded) (h : o.kind = 4) (hb : d.length ≤ 1000) :
 Spec Tryz.prog 54 [.ptr 0 0 0, ordA o] [.blk 109 [.own 1, .own 2, .own 3], .row 124 2 (b.map blwP), .row 126 3 (g.map gopP), .row 119 5 (d.map dedP)] (.tup [])
  [.blk 109 [.own 1, .own 2, .own 4], .row 124 2 (b.map blwP), .row 126 3 (g.map gopP), .dead, .row 119 5 ((d ++ [(⟨2, o.who, ⟨0, 0⟩, 0⟩ : Ded)]).map dedP)] := by
 refine spec_am Tryz.func54 rfl rfl mix 84 rfl [] Tryz.results54 (Nat.le_of_ble_eq_true rfl) ?_
 (try (refine xst ?_; try exact xtI))
 refine cond_i (fun h1 => ?_) (fun h1 => ?_)
 ·(try replace h1 := xhh h1)
  omega
 ·(try replace h1 := xhh h1)
  (try (refine xst ?_; try exact xtI))
  refine cond_i (fun h2 => ?_) (fun h2 => ?_)
  ·(try replace h2 := xhh h2)
   omega
  ·(try replace h2 := xhh h2)
   (try (refine xst ?_; try exact xtI))
   refine cond_i (fun h3 => ?_) (fun h3 => ?_)
   ·(try replace h3 := xhh h3)
    omega
   ·(try replace h3 := xhh h3)
    (try (refine xst ?_; try exact xtI))
    refine cond_i (fun h4 => ?_) (fun h4 => ?_)
    ·(try replace h4 := xhh h4)
     (try (refine xst ?_; try exact xtI))
     (try (refine ⟨by kernel_rfl, ?_⟩))
     (try (refine xst ?_; try exact xtI))
     refine retM [0, 1, 2, 3, 41] rfl rfl (by decide) ⟨?_, ?_, ?_, ?_, ?_, trivial⟩ trivial ?_
     ·simp (etaStruct := .none) only [push_cast, DrawG, Int.cast_ofNat_Int, seval]
     ·simp (etaStruct := .none) only [push_cast, DrawG, Int.cast_ofNat_Int, seval]
     ·simp (etaStruct := .none) only [push_cast, DrawG, Int.cast_ofNat_Int, seval]
     ·simp (etaStruct := .none) only [push_cast, DrawG, Int.cast_ofNat_Int, seval]
     ·simp (etaStruct := .none) only [push_cast, DrawG, Int.cast_ofNat_Int, seval, List.map_append, dedP]
     ·simp (etaStruct := .none) only [push_cast, DrawG, Int.cast_ofNat_Int, seval]
    ·(try replace h4 := xhh h4)
     omega
theorem add_make (o : Ord) (b : List Blw) (g : List Gop) (d : List Ded) (h : o.kind = 5) (hb : d.length ≤ 1000) :
 Spec Tryz.prog 54 [.ptr 0 0 0, ordA o] [.blk 109 [.own 1, .own 2, .own 3], .row 124 2 (b.map blwP), .row 126 3 (g.map gopP), .row 119 5 (d.map dedP)] (.tup [])
  [.blk 109 [.own 1, .own 2, .own 4], .row 124 2 (b.map blwP), .row 126 3 (g.map gopP), .dead, .row 119 5 ((d ++ [(⟨3, o.by_, ⟨0, 0⟩, o.what⟩ : Ded)]).map dedP)] := by
 refine spec_am Tryz.func54 rfl rfl mix 84 rfl [] Tryz.results54 (Nat.le_of_ble_eq_true rfl) ?_
 (try (refine xst ?_; try exact xtI))
 refine cond_i (fun h1 => ?_) (fun h1 => ?_)
 ·(try replace h1 := xhh h1)
  omega
 ·(try replace h1 := xhh h1)
  (try (refine xst ?_; try exact xtI))
  refine cond_i (fun h2 => ?_) (fun h2 => ?_)
  ·(try replace h2 := xhh h2)
   omega
  ·(try replace h2 := xhh h2)
   (try (refine xst ?_; try exact xtI))
   refine cond_i (fun h3 => ?_) (fun h3 => ?_)
   ·(try replace h3 := xhh h3)
    omega
   ·(try replace h3 := xhh h3)
    (try (refine xst ?_; try exact xtI))
    refine cond_i (fun h4 => ?_) (fun h4 => ?_)
    ·(try replace h4 := xhh h4)
     omega
    ·(try replace h4 := xhh h4)
     (try (refine xst ?_; try exact xtI))
     refine cond_i (fun h5 => ?_) (fun h5 => ?_)
     ·(try replace h5 := xhh h5)
      (try (refine xst ?_; try exact xtI))
      (try (refine ⟨by kernel_rfl, ?_⟩))
      (try (refine xst ?_; try exact xtI))
      refine retM [0, 1, 2, 3, 49] rfl rfl (by decide) ⟨?_, ?_, ?_, ?_, ?_, trivial⟩ trivial ?_
      ·simp (etaStruct := .none) only [push_cast, DrawG, Int.cast_ofNat_Int, seval]
      ·simp (etaStruct := .none) only [push_cast, DrawG, Int.cast_ofNat_Int, seval]
      ·simp (etaStruct := .none) only [push_cast, DrawG, Int.cast_ofNat_Int, seval]
      ·simp (etaStruct := .none) only [push_cast, DrawG, Int.cast_ofNat_Int, seval]
      ·simp (etaStruct := .none) only [push_cast, DrawG, Int.cast_ofNat_Int, seval, List.map_append, dedP]
      ·simp (etaStruct := .none) only [push_cast, DrawG, Int.cast_ofNat_Int, seval]
     ·(try replace h5 := xhh h5)
      omega
end Go.Proofs.YthiddmncjafklaaGreat
namespace Go.Proofs.YthiddmncjafklaaGreat
set_option linter.all false
open Go.RowKit
set_option maxRecDepth 100000
set_option maxHeartbeats 1000000
def OwnM (w : Wld) (k : Nat) (es : List (List Int × Int)) : Prop := (∀ i : Int, mhas [i] es = (w.troops.take k).any fun t => decide (t.id = i)) ∧ ∀ j, j < k → mget [(w.troops.getD j default).id] es = (w.troops.getD j default).owner
theorem OwnM.step {w : Wld} (hw : worldE w = 0) {k : Nat} {es : List (List Int × Int)} (h : OwnM w k es) (hk : k < w.troops.length) : OwnM w (k + 1) (mput [(w.troops.getD k default).id] (w.troops.getD k default).owner es) := by
 refine ⟨fun i => ?_, fun j hj => ?_⟩
 ·rw [mhas_put_if, take_snoc _ _ hk, List.any_append, h.1 i]
  simp only [List.any_cons, List.any_nil, Bool.or_false, List.cons.injEq, and_true]
  by_cases hi : i = (w.troops.getD k default).id
  ·rw [if_pos hi, decide_eq_true hi.symm, Bool.or_true]
  ·rw [if_neg hi, decide_eq_false (Ne.symm hi), Bool.or_false]
 ·rw [mget_put_if]
  by_cases hjk : j = k
  ·subst hjk; rw [if_pos rfl]
  ·have h2 := (troop_ok hw hk).2
   unfold trp2 at h2
   rw [and_all, Bool.and_eq_true] at h2
   have := (allN_iff _ _).1 h2.1 j (by omega)
   rw [decide_eq_true_eq] at this
   rw [if_neg (fun h => by have := (List.cons.inj h).1; omega)]
   exact h.2 j (by omega)
theorem OwnM.find {w : Wld} {es : List (List Int × Int)} (h : OwnM w w.troops.length es) (i b : Int) : (mhas [i] es && decide (mget [i] es = b)) = match findT w i with | some t => decide (t.owner = b) | none => false := by
 have h1 := h.1 i
 rw [List.take_length] at h1
 unfold findT
 cases hf : w.troops.find? (fun t => decide (t.id = i)) with
 | none =>
  have : (w.troops.any fun t => decide (t.id = i)) = false := by
   rw [List.any_eq_false]; intro x hx; simpa using List.find?_eq_none.1 hf x hx
  rw [h1, this]; rfl
 | some t =>
  have hm := List.mem_of_find?_eq_some hf
  have hp := List.find?_some hf
  rw [decide_eq_true_eq] at hp
  have : (w.troops.any fun t => decide (t.id = i)) = true := by
   rw [List.any_eq_true]; exact ⟨t, hm, by simpa using hp⟩
  obtain ⟨j, hj, rfl⟩ := List.getElem_of_mem hm
  have h2 := h.2 j hj
  rw [getD_at _ _ hj, hp] at h2
  rw [h1, this, h2]; rfl
def splitE (l : List Ord) (w : Wld) : Int := if ordsE l ≠ 0 then ordsE l else worldE w
theorem addB_of {o : Ord} (h : o.kind ≠ 1) : addB o = [] := by unfold addB; rw [if_neg h]
theorem addG_of {o : Ord} (h : o.kind ≠ 2) : addG o = [] := by unfold addG; rw [if_neg h]
theorem addD_of {o : Ord} (h : ¬ 2 < o.kind) : addD o = [] := by unfold addD; rw [if_neg h]
theorem addB_1 {o : Ord} (h : o.kind = 1) : addB o = [⟨o.who, o.what⟩] := by unfold addB; rw [if_pos h]
theorem addG_2 {o : Ord} (h : o.kind = 2) : addG o = [⟨o.who, o.c⟩] := by unfold addG; rw [if_pos h]
theorem addD_3 {o : Ord} (ho : ordE o = 0) (h : o.kind = 3) : addD o = [⟨1, o.who, o.c, 0⟩] := by
 have := ordE_ok ho
 unfold addD dedOf; rw [if_pos (by omega), h, if_neg (by decide), this.2.2.2.2.2.2.2 (by omega) (by omega)]; rfl
theorem addD_4 {o : Ord} (ho : ordE o = 0) (h : o.kind = 4) : addD o = [⟨2, o.who, ⟨0, 0⟩, 0⟩] := by
 have := ordE_ok ho
 unfold addD dedOf; rw [if_pos (by omega), h, if_neg (by decide), this.2.2.2.2.2.2.2 (by omega) (by omega), this.2.2.2.2.2.2.1 (by omega) (by omega)]; rfl
theorem addD_5 {o : Ord} (ho : ordE o = 0) (h : o.kind = 5) : addD o = [⟨3, o.by_, ⟨0, 0⟩, o.what⟩] := by
 have := ordE_ok ho
 unfold addD dedOf; rw [if_pos (by omega), h, if_pos rfl, this.2.2.2.2.2.2.1 (by omega) (by omega)]; rfl
theorem split_bad (l : List Ord) (w : Wld) (hll : l.length ≤ 9223372036854775807) (hl : wldL w) (h : splitE l w ≠ 0) : Spec Tryz.prog 24 [.c (.sl 6 (l.map ordP)), wldA w] [] (.tup [.c (.v (.slice none 0 0)), .c (.v (.slice none 0 0)), .c (.v (.slice none 0 0)), I .i64 (splitE l w)]) [] := by
 refine spec_am Tryz.func24 rfl rfl mix 82 rfl [.tmp 4, .tmp 5, .tmp 6, .tmp 7] Tryz.results24 (Nat.le_of_ble_eq_true rfl) ?_
 (try (refine xst ?_; try exact xtI))
 refine caP (oall_s l hll) ?_
 (try (refine xst ?_; try exact xtI))
 refine cond_i (fun h1 => ?_) (fun h1 => ?_)
 ·(try replace h1 := xhh h1)
  have e : splitE l w = ordsE l := by unfold splitE; rw [if_pos h1]
  (try (refine xst ?_; try exact xtI))
  (first | (refine retA rfl (Wk.of ?_); (try simp (etaStruct := .none) only [push_cast, DrawG, Int.cast_ofNat_Int, seval]); first | done | (simp [e, *]; done) | (simp_all [e]; done)) | (refine retA rfl ?_; (try simp (etaStruct := .none) only [push_cast, DrawG, Int.cast_ofNat_Int, seval]); (try simp [e, *]); (try exact wkc)))
 ·(try replace h1 := xhh h1)
  (try (refine xst ?_; try exact xtI))
  refine caP (tcheck_s w hl) ?_
  (try (refine xst ?_; try exact xtI))
  refine cond_i (fun h2 => ?_) (fun h2 => ?_)
  ·(try replace h2 := xhh h2)
   have e : splitE l w = worldE w := by unfold splitE; rw [if_neg (by simpa using h1)]
   (try (refine xst ?_; try exact xtI))
   (first | (refine retA rfl (Wk.of ?_); (try simp (etaStruct := .none) only [push_cast, DrawG, Int.cast_ofNat_Int, seval]); first | done | (simp [e, *]; done) | (simp_all [e]; done)) | (refine retA rfl ?_; (try simp (etaStruct := .none) only [push_cast, DrawG, Int.cast_ofNat_Int, seval]); (try simp [e, *]); (try exact wkc)))
  ·(try replace h2 := xhh h2)
   exact absurd (by unfold splitE; rw [if_neg (by simpa using h1)]; exact h2) h
theorem split_s (l : List Ord) (w : Wld) (hll : l.length ≤ 9223372036854775807) (hl : wldL w) (ho : ordsE l = 0) (hw : worldE w = 0) : Spec Tryz.prog 24 [.c (.sl 6 (l.map ordP)), wldA w] [] (.tup [.c (.sl 2 ((blowsV l w).map blwP)), .c (.sl 3 ((goesV l w).map gopP)), .c (.sl 5 ((deedsV l w).map dedP)), I .i64 0]) [] := by
 obtain ⟨ho1, ho2⟩ := ordsE_ok ho
 obtain ⟨w1, w2, w3, w4, w5⟩ := worldE_ok hw
 refine spec_am Tryz.func24 rfl rfl mix 82 rfl [.tmp 4, .tmp 5, .tmp 6, .tmp 7] Tryz.results24 (Nat.le_of_ble_eq_true rfl) ?_
 (try (refine xst ?_; try exact xtI))
 refine caP (oall_s l hll) ?_
 (try (refine xst ?_; try exact xtI))
 refine cond_i (fun h1 => ?_) (fun h1 => ?_)
 ·(try replace h1 := xhh h1)
  exact absurd ho h1
 ·(try replace h1 := xhh h1)
  (try (refine xst ?_; try exact xtI))
  refine caP (tcheck_s w hl) ?_
  (try (refine xst ?_; try exact xtI))
  refine cond_i (fun h2 => ?_) (fun h2 => ?_)
  ·(try replace h2 := xhh h2)
   exact absurd hw h2
  ·(try replace h2 := xhh h2)
   (try (refine xst ?_; try exact xtI))
   refine loopI (fun x : Nat × List (List Int × Int) => ⟨[(32, I .i64 x.1), (31, I .i64 w.troops.length), (30, .c (.sl 7 (w.troops.map trpP))), (10, .map 1), (3, .ptr 0 0 0), (0, .c (.sl 6 (l.map ordP)))], [(0, .blk 28 (wldC w)), (1, .mp false 1 x.2)], 2⟩) (fun x : Nat × List (List Int × Int) => x.1 ≤ w.troops.length ∧ OwnM w x.1 x.2) (fun x : Nat × List (List Int × Int) => w.troops.length - x.1) ((0, [])) (⟨Nat.zero_le _, fun i => rfl, fun j h => absurd h (Nat.not_lt_zero _)⟩) (To.mk [0, 1] rfl rfl (by decide) ?_ ?_) ?_
   ·simp (etaStruct := .none) only [push_cast, DrawG, Int.cast_ofNat_Int, seval]
   ·simp (etaStruct := .none) only [push_cast, DrawG, Int.cast_ofNat_Int, seval]
   rintro ⟨k, es⟩ ⟨hk, hn⟩
   simp only at hk hn
   (try (refine xst ?_; try exact xtI))
   refine cond_i (fun h3 => ?_) (fun h3 => ?_)
   ·(try replace h3 := xhh h3)
    have hlt : k < w.troops.length := by omega
    (iterate 2 ((try simp (etaStruct := .none) only [push_cast, DrawG, Int.cast_ofNat_Int, seval, getD_in _ _ _ hlt, trpP]); (try (refine xsu ?_; try exact xtI))))
    refine ⟨(k + 1, mput [(w.troops.getD k default).id] (w.troops.getD k default).owner es), ⟨by simp only; omega, hn.step hw hlt⟩, by simp only; omega, To.mk [0, 1] rfl rfl (by decide) ?_ ?_⟩
    ·(iterate 2 ((try simp (etaStruct := .none) only [push_cast, DrawG, Int.cast_ofNat_Int, seval, getD_in _ _ _ hlt, trpP]); (try (refine xsu ?_; try exact xtI))))
    ·(iterate 2 ((try simp (etaStruct := .none) only [push_cast, DrawG, Int.cast_ofNat_Int, seval, getD_in _ _ _ hlt, trpP]); (try (refine xsu ?_; try exact xtI))))
   ·(try replace h3 := xhh h3)
    obtain rfl : k = w.troops.length := by omega
    have of := hn.find
    (try (refine xst ?_; try exact xtI))
    refine loopI (fun k : Nat => ⟨[(44, I .i64 k), (43, I .i64 l.length), (42, .c (.sl 6 (l.map ordP))), (13, .ptr 2 0 0), (10, .map 1), (3, .ptr 0 0 0)], [(0, .blk 28 (wldC w)), (1, .mp false 1 es), (2, .blk 109 [.own 3, .own 4, .own 5]), (3, .row 124 2 ((blowsV (l.take k) w).map blwP)), (4, .row 126 3 ((goesV (l.take k) w).map gopP)), (5, .row 119 5 ((deedsV (l.take k) w).map dedP))], 6⟩) (fun k : Nat => k ≤ l.length) (fun k : Nat => l.length - k) (0) (Nat.zero_le _) (((To.nilC 2 0 124 2 109 _ rfl rfl).trans ((To.nilC 2 1 126 3 109 _ rfl rfl).trans (To.nilC 2 2 119 5 109 _ rfl rfl))).trans (To.mk [0, 1, 2, 3, 4, 5] rfl rfl (by decide) ?_ ?_)) ?_
    ·simp (etaStruct := .none) only [push_cast, DrawG, Int.cast_ofNat_Int, seval, List.set_cons_zero, List.set_cons_succ, blowsV, goesV, deedsV, List.filter_nil, List.flatMap_nil]
    ·simp (etaStruct := .none) only [push_cast, DrawG, Int.cast_ofNat_Int, seval]
    rintro k hk
    (try (refine xst ?_; try exact xtI))
    refine cond_i (fun h4 => ?_) (fun h4 => ?_)
    ·(try replace h4 := xhh h4)
     have hlt : k < l.length := by omega
     have hor := ho2 _ (getD_mem l k hlt)
     have hok := ordE_ok hor
     have st1 := flat_step (fun o => allowV o w) addB l k hlt
     have st2 := flat_step (fun o => allowV o w) addG l k hlt
     have st3 := flat_step (fun o => allowV o w) addD l k hlt
     have fl1 := ford_len (fun o => allowV o w) addB addB_len (l.take k)
     have fl2 := ford_len (fun o => allowV o w) addG addG_len (l.take k)
     have fl3 := ford_len (fun o => allowV o w) addD addD_len (l.take k)
     rw [List.length_take] at fl1 fl2 fl3
     change blowsV (l.take (k + 1)) w = blowsV (l.take k) w ++ _ at st1
     change goesV (l.take (k + 1)) w = goesV (l.take k) w ++ _ at st2
     change deedsV (l.take (k + 1)) w = deedsV (l.take k) w ++ _ at st3
     change (blowsV (l.take k) w).length ≤ _ at fl1
     change (goesV (l.take k) w).length ≤ _ at fl2
     change (deedsV (l.take k) w).length ≤ _ at fl3
     (iterate 2 ((try simp (etaStruct := .none) only [push_cast, DrawG, Int.cast_ofNat_Int, seval, getD_in _ _ _ hlt, ordP]); (try (refine xsu ?_; try exact xtI))))
     refine cond_j (fun x : Int × Bool => ⟨[(44, I .i64 k), (43, I .i64 l.length), (42, .c (.sl 6 (l.map ordP))), (17, B x.2), (16, I .i64 x.1), (15, .ptr 6 0 0), (13, .ptr 2 0 0), (10, .map 1), (3, .ptr 0 0 0)], [(0, .blk 28 (wldC w)), (1, .mp false 1 es), (2, .blk 109 [.own 3, .own 4, .own 5]), (3, .row 124 2 ((blowsV (l.take k) w).map blwP)), (4, .row 126 3 ((goesV (l.take k) w).map gopP)), (5, .row 119 5 ((deedsV (l.take k) w).map dedP)), (6, .blk 96 [I .i64 (l.getD k default).by_, I .i64 (l.getD k default).kind, I .i64 (l.getD k default).who, I .i64 (l.getD k default).c.x, I .i64 (l.getD k default).c.y, I .i64 (l.getD k default).what])], 7⟩) (fun x : Int × Bool => (x.2 && decide (x.1 = (l.getD k default).by_)) = allowV (l.getD k default) w) (fun h5 => ?_) (fun h5 => ?_) ?_
     ·(try replace h5 := xhh h5)
      (iterate 2 ((try simp (etaStruct := .none) only [push_cast, DrawG, Int.cast_ofNat_Int, seval, getD_in _ _ _ hlt, ordP]); (try (refine xsu ?_; try exact xtI))))
      (try (refine ⟨by kernel_rfl, ?_⟩))
      (iterate 2 ((try simp (etaStruct := .none) only [push_cast, DrawG, Int.cast_ofNat_Int, seval, getD_in _ _ _ hlt, ordP]); (try (refine xsu ?_; try exact xtI))))
      refine ⟨((l.getD k default).by_, decide ((l.getD k default).by_ < w.bases.length)), by unfold allowV; rw [if_pos h5]; simp, To.mk [0, 1, 2, 3, 4, 5, 6] rfl rfl (by decide) ?_ ?_⟩
      ·(iterate 2 ((try simp (etaStruct := .none) only [push_cast, DrawG, Int.cast_ofNat_Int, seval, getD_in _ _ _ hlt, ordP]); (try (refine xsu ?_; try exact xtI))))
      ·(iterate 2 ((try simp (etaStruct := .none) only [push_cast, DrawG, Int.cast_ofNat_Int, seval, getD_in _ _ _ hlt, ordP]); (try (refine xsu ?_; try exact xtI))))
     ·(try replace h5 := xhh h5)
      (iterate 2 ((try simp (etaStruct := .none) only [push_cast, DrawG, Int.cast_ofNat_Int, seval, getD_in _ _ _ hlt, ordP]); (try (refine xsu ?_; try exact xtI))))
      refine ⟨(mget [(l.getD k default).who] es, mhas [(l.getD k default).who] es), by rw [of]; unfold allowV; rw [if_neg h5]; cases findT w (l.getD k default).who <;> rfl, To.mk [0, 1, 2, 3, 4, 5, 6] rfl rfl (by decide) ?_ ?_⟩
      ·(iterate 2 ((try simp (etaStruct := .none) only [push_cast, DrawG, Int.cast_ofNat_Int, seval, getD_in _ _ _ hlt, ordP]); (try (refine xsu ?_; try exact xtI))))
      ·(iterate 2 ((try simp (etaStruct := .none) only [push_cast, DrawG, Int.cast_ofNat_Int, seval, getD_in _ _ _ hlt, ordP]); (try (refine xsu ?_; try exact xtI))))
     ·rintro ⟨by1, ok1⟩ hx
      simp only at hx
      (iterate 2 ((try simp (etaStruct := .none) only [push_cast, DrawG, Int.cast_ofNat_Int, seval, getD_in _ _ _ hlt, ordP]); (try (refine xsu ?_; try exact xtI))))
      refine cond_i (fun h6 => ?_) (fun h6 => ?_)
      ·(try replace h6 := xhh h6)
       have ha : allowV (l.getD k default) w = true := by rw [← hx]; simp only [h6.1, h6.2, decide_true, Bool.and_self]
       rw [if_pos ha] at st1 st2 st3
       (iterate 2 ((try simp (etaStruct := .none) only [push_cast, DrawG, Int.cast_ofNat_Int, seval, getD_in _ _ _ hlt, ordP]); (try (refine xsu ?_; try exact xtI))))
       have hkind : (l.getD k default).kind = 1 ∨ (l.getD k default).kind = 2 ∨ (l.getD k default).kind = 3 ∨ (l.getD k default).kind = 4 ∨ (l.getD k default).kind = 5 := by omega
       rcases hkind with h | h | h | h | h
       ·rw [addB_1 h] at st1; rw [addG_of (by omega)] at st2; rw [addD_of (by omega)] at st3
        refine callM [2, 3, 4, 5] (add_blow (l.getD k default) (blowsV (l.take k) w) (goesV (l.take k) w) (deedsV (l.take k) w) h (by omega)) (WkL.refl _) rfl (by decide) (by simp [lookC_c]) ?_
        (iterate 2 ((try simp (etaStruct := .none) only [push_cast, DrawG, Int.cast_ofNat_Int, seval, getD_in _ _ _ hlt, ordP]); (try (refine xsu ?_; try exact xtI))))
        refine ⟨k + 1, by omega, by omega, To.mk [0, 1, 2, 7, 4, 5] rfl rfl (by decide) ?_ ?_⟩
        ·(iterate 2 ((try simp (etaStruct := .none) only [push_cast, DrawG, Int.cast_ofNat_Int, seval, st1, st2, st3, List.append_nil, List.map_append, blwP]); (try (refine xsu ?_; try exact xtI))))
        ·(try (refine xst ?_; try exact xtI))
       ·rw [addB_of (by omega)] at st1; rw [addG_2 h] at st2; rw [addD_of (by omega)] at st3
        refine callM [2, 3, 4, 5] (add_go (l.getD k default) (blowsV (l.take k) w) (goesV (l.take k) w) (deedsV (l.take k) w) h (by omega)) (WkL.refl _) rfl (by decide) (by simp [lookC_c]) ?_
        (iterate 2 ((try simp (etaStruct := .none) only [push_cast, DrawG, Int.cast_ofNat_Int, seval, getD_in _ _ _ hlt, ordP]); (try (refine xsu ?_; try exact xtI))))
        refine ⟨k + 1, by omega, by omega, To.mk [0, 1, 2, 3, 7, 5] rfl rfl (by decide) ?_ ?_⟩
        ·(iterate 2 ((try simp (etaStruct := .none) only [push_cast, DrawG, Int.cast_ofNat_Int, seval, st1, st2, st3, List.append_nil, List.map_append, gopP]); (try (refine xsu ?_; try exact xtI))))
        ·(try (refine xst ?_; try exact xtI))
       ·rw [addB_of (by omega)] at st1; rw [addG_of (by omega)] at st2; rw [addD_3 hor h] at st3
        refine callM [2, 3, 4, 5] (add_mine (l.getD k default) (blowsV (l.take k) w) (goesV (l.take k) w) (deedsV (l.take k) w) h (by omega)) (WkL.refl _) rfl (by decide) (by simp [lookC_c]) ?_
        (iterate 2 ((try simp (etaStruct := .none) only [push_cast, DrawG, Int.cast_ofNat_Int, seval, getD_in _ _ _ hlt, ordP]); (try (refine xsu ?_; try exact xtI))))
        refine ⟨k + 1, by omega, by omega, To.mk [0, 1, 2, 3, 4, 7] rfl rfl (by decide) ?_ ?_⟩
        ·(iterate 2 ((try simp (etaStruct := .none) only [push_cast, DrawG, Int.cast_ofNat_Int, seval, st1, st2, st3, List.append_nil, List.map_append, dedP]); (try (refine xsu ?_; try exact xtI))))
        ·(try (refine xst ?_; try exact xtI))
       ·rw [addB_of (by omega)] at st1; rw [addG_of (by omega)] at st2; rw [addD_4 hor h] at st3
        refine callM [2, 3, 4, 5] (add_drop (l.getD k default) (blowsV (l.take k) w) (goesV (l.take k) w) (deedsV (l.take k) w) h (by omega)) (WkL.refl _) rfl (by decide) (by simp [lookC_c]) ?_
        (iterate 2 ((try simp (etaStruct := .none) only [push_cast, DrawG, Int.cast_ofNat_Int, seval, getD_in _ _ _ hlt, ordP]); (try (refine xsu ?_; try exact xtI))))
        refine ⟨k + 1, by omega, by omega, To.mk [0, 1, 2, 3, 4, 7] rfl rfl (by decide) ?_ ?_⟩
        ·(iterate 2 ((try simp (etaStruct := .none) only [push_cast, DrawG, Int.cast_ofNat_Int, seval, st1, st2, st3, List.append_nil, List.map_append, dedP]); (try (refine xsu ?_; try exact xtI))))
        ·(try (refine xst ?_; try exact xtI))
       ·rw [addB_of (by omega)] at st1; rw [addG_of (by omega)] at st2; rw [addD_5 hor h] at st3
        refine callM [2, 3, 4, 5] (add_make (l.getD k default) (blowsV (l.take k) w) (goesV (l.take k) w) (deedsV (l.take k) w) h (by omega)) (WkL.refl _) rfl (by decide) (by simp [lookC_c]) ?_
        (iterate 2 ((try simp (etaStruct := .none) only [push_cast, DrawG, Int.cast_ofNat_Int, seval, getD_in _ _ _ hlt, ordP]); (try (refine xsu ?_; try exact xtI))))
        refine ⟨k + 1, by omega, by omega, To.mk [0, 1, 2, 3, 4, 7] rfl rfl (by decide) ?_ ?_⟩
        ·(iterate 2 ((try simp (etaStruct := .none) only [push_cast, DrawG, Int.cast_ofNat_Int, seval, st1, st2, st3, List.append_nil, List.map_append, dedP]); (try (refine xsu ?_; try exact xtI))))
        ·(try (refine xst ?_; try exact xtI))
      ·(try replace h6 := xhh h6)
       have ha : allowV (l.getD k default) w = false := by
        rw [← hx]
        rcases h6 with h | h
        ·rw [h]; rfl
        ·rw [decide_eq_false h, Bool.and_false]
       rw [ha] at st1 st2 st3
       simp only [Bool.false_eq_true, if_false, List.append_nil] at st1 st2 st3
       (iterate 2 ((try simp (etaStruct := .none) only [push_cast, DrawG, Int.cast_ofNat_Int, seval, getD_in _ _ _ hlt, ordP]); (try (refine xsu ?_; try exact xtI))))
       refine ⟨k + 1, by omega, by omega, To.mk [0, 1, 2, 3, 4, 5] rfl rfl (by decide) ?_ ?_⟩
       ·(iterate 2 ((try simp (etaStruct := .none) only [push_cast, DrawG, Int.cast_ofNat_Int, seval, st1, st2, st3]); (try (refine xsu ?_; try exact xtI))))
       ·(iterate 2 ((try simp (etaStruct := .none) only [push_cast, DrawG, Int.cast_ofNat_Int, seval, getD_in _ _ _ hlt, ordP]); (try (refine xsu ?_; try exact xtI))))
    ·(try replace h4 := xhh h4)
     obtain rfl : k = l.length := by omega
     (iterate 2 ((try simp (etaStruct := .none) only [push_cast, DrawG, Int.cast_ofNat_Int, seval, List.take_length]); (try (refine xsu ?_; try exact xtI))))
     (try (refine ⟨by kernel_rfl, ?_⟩))
     (iterate 2 ((try simp (etaStruct := .none) only [push_cast, DrawG, Int.cast_ofNat_Int, seval, List.take_length]); (try (refine xsu ?_; try exact xtI))))
     exact xrz rfl
end Go.Proofs.YthiddmncjafklaaGreat
namespace Go.Proofs.YthiddmncjafklaaGreat
set_option linter.all false
open Go.RowKit
set_option maxRecDepth 100000
theorem deedV_now (w : Wld) (d : Ded) : (deedV w d).1.now = w.now := by
 unfold deedV
 repeat' split
 all_goals rfl
theorem deedsA_now (l : List Ded) : ∀ w, (deedsA w l).1.now = w.now := by
 induction l with
 | nil => intro w; rfl
 | cons a r ih => intro w; rw [deedsA, ih, deedV_now]
def tkA (w : Wld) (l : List Ord) : Wld := struckW w (blowsV l w)
def tkB (WR : Cel → List Int) (w : Wld) (l : List Ord) : Wld := setT (tkA w l) (marchV w.f WR (goesV l w) (tkA w l).troops).1
def tkC (WR : Cel → List Int) (w : Wld) (l : List Ord) : Wld := (deedsA (tkB WR w l) (deedsV l w)).1
def nowUp (w : Wld) : Wld := { w with now := w.now + 1 }
def turnV (WR : Cel → List Int) (w : Wld) (l : List Ord) : Wld := nowUp (tkC WR w l)
def turnG (w : Wld) (l : List Ord) : List Int := goneV w (blowsV l w)
def turnM (WR : Cel → List Int) (w : Wld) (l : List Ord) : List Int := (marchV w.f WR (goesV l w) (tkA w l).troops).2
def turnD (WR : Cel → List Int) (w : Wld) (l : List Ord) : List Bool := (deedsA (tkB WR w l) (deedsV l w)).2
def turnE (l : List Ord) (w : Wld) : Int := if splitE l w ≠ 0 then splitE l w else if 1000000 ≤ w.now then 6 else 0
theorem splitE_ok {l : List Ord} {w : Wld} (h : splitE l w = 0) : ordsE l = 0 ∧ worldE w = 0 := by
 have ho : ordsE l = 0 := by
  unfold splitE at h
  split at h
  ·rename_i h1; exact absurd h h1
  ·rename_i h1; simpa using h1
 exact ⟨ho, by unfold splitE at h; rwa [if_neg (by simp [ho])] at h⟩
theorem split_lens {l : List Ord} {w : Wld} (h : ordsE l = 0) : (blowsV l w).length ≤ 100 ∧ (goesV l w).length ≤ 100 ∧ (deedsV l w).length ≤ 100 := by
 obtain ⟨o1, o2⟩ := ordsE_ok h
 have f1 := ford_len (fun o => allowV o w) addB addB_len l
 have f2 := ford_len (fun o => allowV o w) addG addG_len l
 have f3 := ford_len (fun o => allowV o w) addD addD_len l
 change (blowsV l w).length ≤ _ at f1
 change (goesV l w).length ≤ _ at f2
 change (deedsV l w).length ≤ _ at f3
 omega
theorem right_tkA {w : Wld} (h : Right w) (l : List Ord) : Right (tkA w l) := right_struck h _ fun id => (harmV_b w _ id).1
theorem right_tkB {w : Wld} (h : Right w) {WR : Cel → List Int} (hWR : ∀ a, FloodIs w.f [a] (WR a)) (l : List Ord) : Right (tkB WR w l) := right_marched (w := tkA w l) (right_tkA h l) hWR _
theorem right_tkC {w : Wld} (h : Right w) {WR : Cel → List Int} (hWR : ∀ a, FloodIs w.f [a] (WR a)) (l : List Ord) : Right (tkC WR w l) := right_deeds _ (right_tkB h hWR l)
theorem tkC_now (WR : Cel → List Int) (w : Wld) (l : List Ord) : (tkC WR w l).now = w.now := by unfold tkC; rw [deedsA_now]; rfl
theorem right_nowUp {w : Wld} (h : Right w) (hn : w.now < 1000000) : Right (nowUp w) := by
 have := h.nw
 refine ⟨h.f, h.nb, h.nt, h.sl, h.ml, h.nx, ?_, h.base, h.mine, fun k hk => ?_, h.ord⟩
 ·change 0 ≤ w.now + 1 ∧ w.now + 1 ≤ 1000000; omega
 ·have t := h.trp k hk
  exact ⟨t.kind, t.id, t.owner, t.at_, t.x, t.y, t.life, t.load⟩
theorem right_turn {w : Wld} (h : Right w) {WR : Cel → List Int} (hWR : ∀ a, FloodIs w.f [a] (WR a)) (l : List Ord) (hn : w.now < 1000000) : Right (turnV WR w l) := right_nowUp (right_tkC h hWR l) (by rw [tkC_now]; exact hn)
end Go.Proofs.YthiddmncjafklaaGreat
namespace Go.Proofs.YthiddmncjafklaaGreat
set_option linter.all false
open Go.RowKit
set_option maxRecDepth 100000
set_option maxHeartbeats 1000000
abbrev repA (g m : List Int) (d : List Bool) : AV := .agg [.c (.sl 1 (g.map i64P)), .c (.sl 1 (m.map i64P)), .c (.sl 1 (d.map boolP))]
theorem tturn_k (w : Wld) (l : List Ord) (WR : Cel → List Int) (hWR : ∀ a, FloodIs w.f [a] (WR a)) (hll : l.length ≤ 9223372036854775807) (h : turnE l w = 0) : Spec Tryz.prog 7 [wldA w, .c (.sl 6 (l.map ordP))] [] (.tup [wldA (turnV WR w l), repA (turnG w l) (turnM WR w l) (turnD WR w l), I .i64 0]) [] := by
 have hs : splitE l w = 0 := by unfold turnE at h; split at h; rename_i h1; exact absurd h h1; rename_i h1; simpa using h1
 have hn : w.now < 1000000 := by unfold turnE at h; rw [if_neg (by simp [hs])] at h; split at h; exact absurd h (by decide); omega
 obtain ⟨ho, hw⟩ := splitE_ok hs
 have R0 := right_of hw
 have RA := right_tkA R0 l
 have RB := right_tkB R0 hWR l
 have RC := right_tkC R0 hWR l
 obtain ⟨n1, n2, n3⟩ := split_lens (w := w) ho
 have hnow : (tkC WR w l).now = w.now := tkC_now WR w l
 have hnw := R0.nw
 have e1 : blowsE w (blowsV l w) = 0 := by unfold blowsE; rw [if_neg (by simp [hw]), if_neg (by omega)]
 have HK := hstruck_k w (blowsV l w) R0.l (by omega) e1
 rw [e1, show struckR w (blowsV l w) = tkA w l from by unfold struckR; rw [if_pos e1]; rfl, show goneR w (blowsV l w) = turnG w l from by unfold goneR; rw [if_pos e1]; rfl] at HK
 have e2 : stepE (tkA w l) (goesV l w) = 0 := by unfold stepE; rw [if_neg (by simp [RA.e]), if_neg (by omega)]
 have MK := mstepW_s (tkA w l) (goesV l w) WR hWR RA.l (by omega)
 rw [e2, if_pos rfl, if_pos rfl, show setT (tkA w l) (marchV (tkA w l).f WR (goesV l w) (tkA w l).troops).1 = tkB WR w l from rfl, show (marchV (tkA w l).f WR (goesV l w) (tkA w l).troops).2 = turnM WR w l from rfl] at MK
 have DK := do_k (tkB WR w l) (deedsV l w) RB (by omega)
 rw [show (deedsA (tkB WR w l) (deedsV l w)).1 = tkC WR w l from rfl, show (deedsA (tkB WR w l) (deedsV l w)).2 = turnD WR w l from rfl] at DK
 have hup : IntKind.i64.wrap ((tkC WR w l).now + 1) = w.now + 1 := by rw [hnow]; exact wrap_in _ (by omega) (by omega)
 have htv : turnV WR w l = { tkC WR w l with now := w.now + 1 } := by unfold turnV nowUp; rw [hnow]
 rw [htv]
 refine spec_am Tryz.func7 rfl rfl mix 62 rfl [.cell 4 28, .cell 5 32, .tmp 6] Tryz.results7 (Nat.le_of_ble_eq_true rfl) ?_
 (try (refine xst ?_; try exact xtI))
 refine caP (split_s l w hll R0.l ho hw) ?_
 (try (refine xst ?_; try exact xtI))
 refine cond_i (fun h1 => ?_) (fun h1 => ?_)
 ·(try replace h1 := xhh h1)
  omega
 ·(try replace h1 := xhh h1)
  (try (refine xst ?_; try exact xtI))
  refine cond_i (fun h2 => ?_) (fun h2 => ?_)
  ·(try replace h2 := xhh h2)
   simp at h2
  ·(try replace h2 := xhh h2)
   (iterate 2 ((try simp (etaStruct := .none) only [push_cast, DrawG, Int.cast_ofNat_Int, seval, hup]); (try (refine xsu ?_; try exact xtI))))
   refine caP (HK) ?_
   (iterate 2 ((try simp (etaStruct := .none) only [push_cast, DrawG, Int.cast_ofNat_Int, seval, hup]); (try (refine xsu ?_; try exact xtI))))
   refine caP (MK) ?_
   (iterate 2 ((try simp (etaStruct := .none) only [push_cast, DrawG, Int.cast_ofNat_Int, seval, hup]); (try (refine xsu ?_; try exact xtI))))
   refine caP (DK) ?_
   (iterate 2 ((try simp (etaStruct := .none) only [push_cast, DrawG, Int.cast_ofNat_Int, seval, hup]); (try (refine xsu ?_; try exact xtI))))
   (try (refine ⟨by kernel_rfl, ?_⟩))
   (iterate 2 ((try simp (etaStruct := .none) only [push_cast, DrawG, Int.cast_ofNat_Int, seval, hup]); (try (refine xsu ?_; try exact xtI))))
   exact xrz rfl
theorem tturn_e (w : Wld) (l : List Ord) (hl : wldL w) (hll : l.length ≤ 9223372036854775807) (h : splitE l w ≠ 0) : Spec Tryz.prog 7 [wldA w, .c (.sl 6 (l.map ordP))] [] (.tup [wldA default, repA [] [] [], I .i64 (splitE l w)]) [] := by
 refine spec_am Tryz.func7 rfl rfl mix 62 rfl [.cell 4 28, .cell 5 32, .tmp 6] Tryz.results7 (Nat.le_of_ble_eq_true rfl) ?_
 (try (refine xst ?_; try exact xtI))
 refine caP (split_bad l w hll hl h) ?_
 (try (refine xst ?_; try exact xtI))
 refine cond_i (fun h1 => ?_) (fun h1 => ?_)
 ·(try replace h1 := xhh h1)
  exact absurd h1.1 h
 ·(try replace h1 := xhh h1)
  (try (refine xst ?_; try exact xtI))
  refine cond_i (fun h2 => ?_) (fun h2 => ?_)
  ·(try replace h2 := xhh h2)
   (try (refine xst ?_; try exact xtI))
   exact xrz rfl
  ·(try replace h2 := xhh h2)
   exact absurd h2 h
theorem tturn_f (w : Wld) (l : List Ord) (hl : wldL w) (hll : l.length ≤ 9223372036854775807) (hs : splitE l w = 0) (hn : 1000000 ≤ w.now) : Spec Tryz.prog 7 [wldA w, .c (.sl 6 (l.map ordP))] [] (.tup [wldA default, repA [] [] [], I .i64 6]) [] := by
 obtain ⟨ho, hw⟩ := splitE_ok hs
 refine spec_am Tryz.func7 rfl rfl mix 62 rfl [.cell 4 28, .cell 5 32, .tmp 6] Tryz.results7 (Nat.le_of_ble_eq_true rfl) ?_
 (try (refine xst ?_; try exact xtI))
 refine caP (split_s l w hll hl ho hw) ?_
 (try (refine xst ?_; try exact xtI))
 refine cond_i (fun h1 => ?_) (fun h1 => ?_)
 ·(try replace h1 := xhh h1)
  (try (refine xst ?_; try exact xtI))
  refine cond_i (fun h2 => ?_) (fun h2 => ?_)
  ·(try replace h2 := xhh h2)
   (try (refine xst ?_; try exact xtI))
   exact xrz rfl
  ·(try replace h2 := xhh h2)
   simp at h2
 ·(try replace h1 := xhh h1)
  omega
end Go.Proofs.YthiddmncjafklaaGreat
namespace Go.Proofs.YthiddmncjafklaaGreat
set_option linter.all false
open Go.RowKit
set_option maxRecDepth 100000
set_option maxHeartbeats 2000000
theorem mat_s (wl : List Cel) (h1 : 1 < wl.length) (o : Trp) : Spec Tryz.prog 67 [trpA o, .fel 1 [[.sl 2 (wl.map celP)]] 0 0] [] (B (decide (o.c = wl.getD 1 default))) [] := by
 have e := cel_dec o.c (wl.getD 1 default)
 refine spec_am Tryz.func67 rfl rfl mix 10 rfl [.tmp 3] Tryz.results67 (Nat.le_of_ble_eq_true rfl) ?_
 (iterate 2 ((try simp (etaStruct := .none) only [push_cast, DrawG, Int.cast_ofNat_Int, seval, getD_in _ _ _ h1, celP]); (try (refine xsu ?_; try exact xtI))))
 (try (refine ⟨by kernel_rfl, ?_⟩))
 (iterate 2 ((try simp (etaStruct := .none) only [push_cast, DrawG, Int.cast_ofNat_Int, seval, getD_in _ _ _ h1, celP]); (try (refine xsu ?_; try exact xtI))))
 (first | (refine retA rfl (Wk.of ?_); (try simp (etaStruct := .none) only [push_cast, DrawG, Int.cast_ofNat_Int, seval]); first | done | (simp [e, *]; done) | (simp_all [e]; done)) | (refine retA rfl ?_; (try simp (etaStruct := .none) only [push_cast, DrawG, Int.cast_ofNat_Int, seval]); (try simp [e, *]); (try exact wkc)))
theorem marched_s (w : Wld) (l : List Gop) (WR : Cel → List Int) (hWR : ∀ a, FloodIs w.f [a] (WR a)) (hl : w.f.p.length ≤ 9223372036854775807) (hll : l.length ≤ 1000) (hnt : w.troops.length ≤ 100) : Spec Tryz.prog 33 [wldA w, .c (.sl 3 (l.map gopP))] [] (.tup [wldA (setT w (marchV w.f WR l w.troops).1), .c (.sl 1 ((marchV w.f WR l w.troops).2.map i64P))]) [] := by
 refine spec_am Tryz.func33 rfl rfl mix 75 rfl [.cell 4 28, .tmp 5] Tryz.results33 (Nat.le_of_ble_eq_true rfl) ?_
 (try (refine xst ?_; try exact xtI))
 refine caM [] (trp_clone w.troops (by omega)) ?_
 (try (refine xst ?_; try exact xtI))
 refine loopI (fun k : Nat => ⟨[(21, I .i64 k), (20, I .i64 w.troops.length), (19, .own 1), (6, .own 2), (4, .ptr 3 0 0), (2, .ptr 0 0 0), (1, .c (.sl 3 (l.map gopP)))], [(0, .blk 28 (wldT w (.own 1))), (1, .row 89 7 ((marchK w.f WR l w.troops k).1.map trpP)), (2, .row 3 1 ((marchK w.f WR l w.troops k).2.map i64P)), (3, .blk 28 [I .i64 0, I .i64 0, .c (.v (.slice none 0 0)), .c (.v (.slice none 0 0)), .c (.v (.slice none 0 0)), .c (.v (.slice none 0 0)), .c (.v (.slice none 0 0)), I .i64 0, I .i64 0])], 4⟩) (fun k : Nat => k ≤ w.troops.length) (fun k : Nat => w.troops.length - k) (0) (Nat.zero_le _) ((To.nil 6 3 1 rfl).trans (To.mk [0, 2, 3, 1] rfl rfl (by decide) ?_ ?_)) ?_
 ·simp (etaStruct := .none) only [push_cast, DrawG, Int.cast_ofNat_Int, seval, marchK_zero, List.map_nil]
 ·simp (etaStruct := .none) only [push_cast, DrawG, Int.cast_ofNat_Int, seval]
 rintro k hk
 have hln := marchK_len w.f WR l w.troops k
 have hsk := marchK_succ w.f WR l w.troops k
 obtain ⟨S, hS⟩ : ∃ S, S = marchK w.f WR l w.troops k := ⟨_, rfl⟩
 rw [← hS] at hln hsk
 (iterate 2 ((try simp (etaStruct := .none) only [push_cast, DrawG, Int.cast_ofNat_Int, seval, ← hS, hln.1]); (try (refine xsu ?_; try exact xtI))))
 refine cond_i (fun h1 => ?_) (fun h1 => ?_)
 ·(try replace h1 := xhh h1)
  have hlt : k < S.1.length := by omega
  (iterate 2 ((try simp (etaStruct := .none) only [push_cast, DrawG, Int.cast_ofNat_Int, seval, ← hS, hln.1, getD_in _ _ _ hlt, trpP]); (try (refine xsu ?_; try exact xtI))))
  refine loopI (fun j : Nat => ⟨[(28, I .i64 j), (27, I .i64 l.length), (26, .c (.sl 3 (l.map gopP))), (21, I .i64 k), (20, I .i64 w.troops.length), (19, .own 1), (8, .ptr 4 0 0), (7, I .i64 k), (6, .own 2), (4, .ptr 3 0 0), (2, .ptr 0 0 0), (1, .c (.sl 3 (l.map gopP)))], [(0, .blk 28 (wldT w (.own 1))), (1, .row 89 7 (S.1.map trpP)), (2, .row 3 1 (S.2.map i64P)), (3, .blk 28 [I .i64 0, I .i64 0, .c (.v (.slice none 0 0)), .c (.v (.slice none 0 0)), .c (.v (.slice none 0 0)), .c (.v (.slice none 0 0)), .c (.v (.slice none 0 0)), I .i64 0, I .i64 0]), (4, .blk 89 (trpC (S.1.getD k default)))], 5⟩) (fun j : Nat => j ≤ l.length ∧ ∀ i, i < j → ¬ (l.getD i default).id = (S.1.getD k default).id) (fun j : Nat => l.length - j) (0) (⟨Nat.zero_le _, fun i h => absurd h (Nat.not_lt_zero _)⟩) (To.mk [0, 1, 2, 3, 4] rfl rfl (by decide) ?_ ?_) ?_
  ·simp (etaStruct := .none) only [push_cast, DrawG, Int.cast_ofNat_Int, seval, ← hS]
  ·simp (etaStruct := .none) only [push_cast, DrawG, Int.cast_ofNat_Int, seval]
  rintro j ⟨hj, hno⟩
  (iterate 2 ((try simp (etaStruct := .none) only [push_cast, DrawG, Int.cast_ofNat_Int, seval, ← hS, hln.1, getD_in _ _ _ hlt, trpP]); (try (refine xsu ?_; try exact xtI))))
  refine cond_i (fun h2 => ?_) (fun h2 => ?_)
  ·(try replace h2 := xhh h2)
   have hjl : j < l.length := by omega
   (iterate 2 ((try simp (etaStruct := .none) only [push_cast, DrawG, Int.cast_ofNat_Int, seval, ← hS, hln.1, getD_in _ _ _ hlt, trpP, getD_in _ _ _ hjl, gopP]); (try (refine xsu ?_; try exact xtI))))
   refine cond_i (fun h3 => ?_) (fun h3 => ?_)
   ·(try replace h3 := xhh h3)
    have hno2 : ∀ i, i < j + 1 → ¬ (l.getD i default).id = (S.1.getD k default).id := fun i hi => by
     rcases Nat.lt_or_ge i j with h | h
     ·exact hno i h
     ·rw [show i = j by omega]; exact h3
    (iterate 2 ((try simp (etaStruct := .none) only [push_cast, DrawG, Int.cast_ofNat_Int, seval, ← hS, hln.1, getD_in _ _ _ hlt, trpP, getD_in _ _ _ hjl, gopP]); (try (refine xsu ?_; try exact xtI))))
    refine ⟨j + 1, ⟨by omega, hno2⟩, by omega, To.mk [0, 1, 2, 3, 4] rfl rfl (by decide) ?_ ?_⟩
    ·(iterate 2 ((try simp (etaStruct := .none) only [push_cast, DrawG, Int.cast_ofNat_Int, seval, ← hS, hln.1, getD_in _ _ _ hlt, trpP, getD_in _ _ _ hjl, gopP]); (try (refine xsu ?_; try exact xtI))))
    ·(iterate 2 ((try simp (etaStruct := .none) only [push_cast, DrawG, Int.cast_ofNat_Int, seval, ← hS, hln.1, getD_in _ _ _ hlt, trpP, getD_in _ _ _ hjl, gopP]); (try (refine xsu ?_; try exact xtI))))
   ·(try replace h3 := xhh h3)
    have hg : findG l (S.1.getD k default).id = some (l.getD j default) := find_hit _ l j hjl (by simpa using h3) (fun i hi => by simpa using hno i hi)
    obtain ⟨wl, hwl⟩ : ∃ wl, wl = wayW w.f WR (S.1.getD k default).c (l.getD j default).to := ⟨_, rfl⟩
    have hwy : (if wayE (WR (S.1.getD k default).c) w.f (S.1.getD k default).c (l.getD j default).to = 0 then wayV (WR (S.1.getD k default).c) w.f (S.1.getD k default).c (l.getD j default).to else []) = wl := hwl.symm
    have hst := stepT_some (f := w.f) (WR := WR) (ts := S.1) hg
    rw [← hwl] at hst
    (iterate 2 ((try simp (etaStruct := .none) only [push_cast, DrawG, Int.cast_ofNat_Int, seval, ← hS, hln.1, getD_in _ _ _ hlt, trpP, getD_in _ _ _ hjl, gopP]); (try (refine xsu ?_; try exact xtI))))
    refine caP (wayOf_s w.f (S.1.getD k default).c (l.getD j default).to hl (WR (S.1.getD k default).c) (hWR _)) ?_
    rw [hwy]
    (iterate 2 ((try simp (etaStruct := .none) only [push_cast, DrawG, Int.cast_ofNat_Int, seval, ← hS, hln.1, getD_in _ _ _ hlt, trpP, getD_in _ _ _ hjl, gopP]); (try (refine xsu ?_; try exact xtI))))
    refine gcallB (fun hcc => trp_any 67 [] [.fel 1 [[.sl 2 (wl.map celP)]] 0 0] S.1 (fun o => decide (o.c = wl.getD 1 default)) (by omega) (fun o _ => mat_s wl (by simp only [decide_eq_true_eq] at hcc; omega) o) (fun _ => rfl) (fun _ => rfl)) (WkL.refl _) rfl (by intro hc; (try simp (etaStruct := .none) only [push_cast, DrawG, Int.cast_ofNat_Int, seval]); (try simp_all)) ?_
    (iterate 2 ((try simp (etaStruct := .none) only [push_cast, DrawG, Int.cast_ofNat_Int, seval, ← hS, hln.1, getD_in _ _ _ hlt, trpP, getD_in _ _ _ hjl, gopP]); (try (refine xsu ?_; try exact xtI))))
    refine cond_i (fun h4 => ?_) (fun h4 => ?_)
    ·(try replace h4 := xhh h4)
     have hB1 : 1 < wl.length := by omega
     have hms : marchS w.f WR l S k = (S.1.set k (setC (S.1.getD k default) (wl.getD 1 default)), S.2 ++ [(S.1.getD k default).id]) := marchS_some (by
      rw [hst, if_neg]
      rintro (h | h)
      ·omega
      ·rw [h] at h4; simp at h4)
     (iterate 2 ((try simp (etaStruct := .none) only [push_cast, DrawG, Int.cast_ofNat_Int, seval, ← hS, hln.1, getD_in _ _ _ hlt, trpP, getD_in _ _ _ hjl, gopP, getD_in _ _ _ hB1, celP]); (try (refine xsu ?_; try exact xtI))))
     (try (refine ⟨by kernel_rfl, ?_⟩))
     (iterate 2 ((try simp (etaStruct := .none) only [push_cast, DrawG, Int.cast_ofNat_Int, seval, ← hS, hln.1, getD_in _ _ _ hlt, trpP, getD_in _ _ _ hjl, gopP, getD_in _ _ _ hB1, celP]); (try (refine xsu ?_; try exact xtI))))
     refine ⟨k + 1, by omega, by omega, To.mk [0, 1, 44, 3] rfl rfl (by decide) ?_ ?_⟩
     ·(iterate 2 ((try simp (etaStruct := .none) only [push_cast, DrawG, Int.cast_ofNat_Int, seval, hsk, hms, List.map_set, List.map_append, trpP, setC, i64P]); (try (refine xsu ?_; try exact xtI))))
     ·(iterate 2 ((try simp (etaStruct := .none) only [push_cast, DrawG, Int.cast_ofNat_Int, seval, ← hS, hln.1, getD_in _ _ _ hlt, trpP, getD_in _ _ _ hjl, gopP, getD_in _ _ _ hB1, celP]); (try (refine xsu ?_; try exact xtI))))
    ·(try replace h4 := xhh h4)
     have hms : marchS w.f WR l S k = S := marchS_none (by
      rw [hst, if_pos]
      rcases h4 with h | h
      ·exact .inl (by omega)
      ·exact .inr h)
     (iterate 2 ((try simp (etaStruct := .none) only [push_cast, DrawG, Int.cast_ofNat_Int, seval, ← hS, hln.1, getD_in _ _ _ hlt, trpP, getD_in _ _ _ hjl, gopP]); (try (refine xsu ?_; try exact xtI))))
     refine ⟨k + 1, by omega, by omega, To.mk [0, 1, 2, 3] rfl rfl (by decide) ?_ ?_⟩
     ·(iterate 2 ((try simp (etaStruct := .none) only [push_cast, DrawG, Int.cast_ofNat_Int, seval, hsk, hms]); (try (refine xsu ?_; try exact xtI))))
     ·(iterate 2 ((try simp (etaStruct := .none) only [push_cast, DrawG, Int.cast_ofNat_Int, seval, ← hS, hln.1, getD_in _ _ _ hlt, trpP, getD_in _ _ _ hjl, gopP]); (try (refine xsu ?_; try exact xtI))))
  ·(try replace h2 := xhh h2)
   have hnone : findG l (S.1.getD k default).id = none := by
    unfold findG
    rw [List.find?_eq_none]
    intro g hg
    obtain ⟨i, hi, rfl⟩ := mem_getD.1 hg
    simpa using hno i (by omega)
   have hms : marchS w.f WR l S k = S := marchS_none (by unfold stepT; rw [hnone])
   (iterate 2 ((try simp (etaStruct := .none) only [push_cast, DrawG, Int.cast_ofNat_Int, seval, ← hS, hln.1, getD_in _ _ _ hlt, trpP]); (try (refine xsu ?_; try exact xtI))))
   refine ⟨k + 1, by omega, by omega, To.mk [0, 1, 2, 3] rfl rfl (by decide) ?_ ?_⟩
   ·(iterate 2 ((try simp (etaStruct := .none) only [push_cast, DrawG, Int.cast_ofNat_Int, seval, hsk, hms]); (try (refine xsu ?_; try exact xtI))))
   ·(iterate 2 ((try simp (etaStruct := .none) only [push_cast, DrawG, Int.cast_ofNat_Int, seval, ← hS, hln.1, getD_in _ _ _ hlt, trpP]); (try (refine xsu ?_; try exact xtI))))
 ·(try replace h1 := xhh h1)
  obtain rfl : k = w.troops.length := by omega
  have hmv : marchV w.f WR l w.troops = S := hS.symm
  rw [hmv]
  (iterate 2 ((try simp (etaStruct := .none) only [push_cast, DrawG, Int.cast_ofNat_Int, seval, ← hS, hln.1]); (try (refine xsu ?_; try exact xtI))))
  refine ret0 rfl (by repeat' (first | exact trivial | exact rfl | refine ⟨?_, ?_⟩)) (Wk.of ?_)
  first | rfl | kernel_rfl
end Go.Proofs.YthiddmncjafklaaGreat
