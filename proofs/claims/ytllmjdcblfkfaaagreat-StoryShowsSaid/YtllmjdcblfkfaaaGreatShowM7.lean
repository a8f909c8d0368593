/- Lemmas for the proof of storyShows.proved. -/
import Derived.Test.YtllmjdcblfkfaaaGreatShowM6
namespace Go.Proofs.YtllmjdcblfkfaaaGreat
set_option linter.all false
open Go.RowKit
set_option maxRecDepth 100000
set_option maxHeartbeats 2000000
def idxG (f : Fld) (c : Cel) : Nat := if inF f c = true then idxN f c else 0
theorem idxG_in {f : Fld} {c : Cel} (h : inF f c = true) : idxG f c = idxN f c := if_pos h
theorem idxG_lt {f : Fld} (hf : fldE f = 0) (c : Cel) : idxG f c < f.p.length := by
 have hfo := fldE_ok hf
 unfold idxG
 split
 ·rename_i h
  have := place_ix hf h
  unfold idxN; omega
 ·have h1 : 0 < f.w * f.h := Int.mul_pos (by omega) (by omega)
  omega
theorem pindexG_s (f : Fld) (b : Cel) (far : List Int) (q : List Nod) (c : Cel) (hf : fldE f = 0) (hc : (costC f c).2 = true) : Spec Tryz.prog 148 [.fel 7 [srPV f b far q] 0 0, celA c] [] (I .i64 (idxG f c)) [] := by
 have hin : inF f c = true := by
  cases hi : inF f c with
  | true => rfl
  | false => unfold costC at hc; rw [hi] at hc; simp at hc
 rw [idxG_in hin]; exact pindex_s f b far q c hf hin
theorem sides_cells (c : Cel) (k : Nat) (hk : k < 4) : List.take 2 (List.drop (k * 2) ([I .i64 c.x, I .i64 (c.y - 1), I .i64 (c.x - 1), I .i64 c.y, I .i64 (c.x + 1), I .i64 c.y, I .i64 c.x, I .i64 (c.y + 1)] : List AV)) = [I .i64 ((sidesC c).getD k default).x, I .i64 ((sidesC c).getD k default).y] := by
 have : k = 0 ∨ k = 1 ∨ k = 2 ∨ k = 3 := by omega
 rcases this with rfl | rfl | rfl | rfl <;> rfl
theorem side_near {f : Fld} {c : Cel} (hf : fldE f = 0) (hc : inF f c = true) (k : Nat) (hk : k < 4) : (-1000 ≤ ((sidesC c).getD k default).x ∧ ((sidesC c).getD k default).x ≤ 1000) ∧ -1000 ≤ ((sidesC c).getD k default).y ∧ ((sidesC c).getD k default).y ≤ 1000 := by
 have h1 := inF_iff.1 hc
 have h2 := fldE_ok hf
 have : k = 0 ∨ k = 1 ∨ k = 2 ∨ k = 3 := by omega
 rcases this with rfl | rfl | rfl | rfl <;> simp only [sidesC, List.getD_cons_zero, List.getD_cons_succ] <;> omega
theorem runF_go {f : Fld} {b : Cel} {fr : List Int} {m : List Nod} (h : 0 < m.length ∧ (fr.getD (idxN f b) default < 0 ∨ (m.getD 0 default).all ≤ fr.getD (idxN f b) default)) (M : Nat) : runF f b (M + 1) fr m = if 0 ≤ fr.getD (idxN f (m.getD 0 default).c) default then runF f b M fr (hpop Nod.all m)
 else runF f b M (fr.set (idxN f (m.getD 0 default).c) (m.getD 0 default).far) (lookF f b (fr.set (idxN f (m.getD 0 default).c) (m.getD 0 default).far) (m.getD 0 default).far (hpop Nod.all m) (sidesC (m.getD 0 default).c)) := by
 rw [runF, if_pos h]
theorem runF_no {f : Fld} {b : Cel} {fr : List Int} {m : List Nod} (h : ¬ (0 < m.length ∧ (fr.getD (idxN f b) default < 0 ∨ (m.getD 0 default).all ≤ fr.getD (idxN f b) default))) (M : Nat) : runF f b M fr m = (fr, m) := by
 cases M with
 | zero => rfl
 | succ M => rw [runF, if_neg h]
theorem prun_s (f : Fld) (b : Cel) {W H : Nat} (hw : f.w = (W : Int)) (hh : f.h = (H : Int)) (hW : 0 < W) (hf : fldE f = 0) (hL : f.p.length = W * H) (hb : inF f b = true) (a N : Nat) (far : List Int) (q : List Nod) (hA : As W f.p a (fun n => leftH b (celW W n)) far q (fun _ _ => True)) (hm : muS f far q ≤ N) (hN : N ≤ 100000) : Spec Tryz.prog 156 [.ptr 0 0 0] [.blk 209 [I .i64 f.w, I .i64 f.h, .c (.sl 1 (f.p.map i64P)), I .i64 b.x, I .i64 b.y, .own 1, .own 2], .row 3 1 (far.map i64P), .row 225 4 (q.map nodP)] (.tup []) [.blk 209 [I .i64 f.w, I .i64 f.h, .c (.sl 1 (f.p.map i64P)), I .i64 b.x, I .i64 b.y, .own 1, .own 3], .row 3 1 ((runF f b N far q).1.map i64P), .dead, .row 225 4 ((runF f b N far q).2.map nodP)] := by
 have hbW : idxN f b < f.p.length := (in_celW hw hh hW hf hb).2
 have hbi := inF_iff.1 hb
 have hfo := fldE_ok hf
 have hpl := (place_ix hf hb).2.2.2.2
 refine spec_am Tryz.func156 rfl rfl mix 108 rfl [] Tryz.results156 (Nat.le_of_ble_eq_true rfl) ?_
 (iterate 2 ((try simp (etaStruct := .none) only [push_cast, seval]); (try (refine xsu ?_; try exact xtI))))
 refine callB (pindex_s f b far q b hf hb) (WkL.refl _) rfl ?_
 (iterate 2 ((try simp (etaStruct := .none) only [push_cast, seval]); (try (refine xsu ?_; try exact xtI))))
 refine loopI (fun x : Nat × List Int × List Nod => ⟨[(2, I .i64 (idxN f b)), (0, .ptr 0 0 0)], [(0, .blk 209 [I .i64 f.w, I .i64 f.h, .c (.sl 1 (f.p.map i64P)), I .i64 b.x, I .i64 b.y, .own 1, .own 3]), (1, .row 3 1 (x.2.1.map i64P)), (2, .dead), (3, .row 225 4 (x.2.2.map nodP))], 4⟩) (fun x : Nat × List Int × List Nod => As W f.p a (fun n => leftH b (celW W n)) x.2.1 x.2.2 (fun _ _ => True) ∧ muS f x.2.1 x.2.2 ≤ x.1 ∧ x.1 ≤ N ∧ runF f b x.1 x.2.1 x.2.2 = runF f b N far q) (fun x : Nat × List Int × List Nod => x.1) ((N, far, q)) (⟨hA, hm, Nat.le_refl _, rfl⟩) ((To.moveC 0 6 2 225 4 209 _ (q.map nodP) rfl rfl rfl).trans (To.mk [0, 1, 2, 3] rfl rfl (by decide) ?_ ?_)) ?_
 ·simp (etaStruct := .none) only [push_cast, DrawG, seval, List.set_cons_zero, List.set_cons_succ]
 ·simp (etaStruct := .none) only [push_cast, DrawG, seval]
 rintro ⟨M, fr, m⟩ ⟨hA, hm, hMN, hu⟩
 simp only at hA hm hMN hu
 have hbF : idxN f b < fr.length := by rw [hA.len]; exact hbW
 rcases Nat.eq_zero_or_pos m.length with hz | hz
 ·obtain rfl := List.length_eq_zero_iff.1 hz
  have e : runF f b M fr [] = (fr, []) := by
   cases M with
   | zero => rfl
   | succ M => rw [runF, if_neg (fun h => by simp at h)]
  simp only [awp, seqK]
  refine drawG_w _ rfl ?_
  intro O l R hl hd hR
  subst hl
  iterate 4 (refine peelD fun r hr => ?_; simp (etaStruct := .none) only [push_cast, DrawG, seval, hd]; subst hr)
  refine peelD fun r hr => ?_
  simp (etaStruct := .none) only [push_cast, DrawG, seval, hd]
  refine callB (olen_s []) (WkL.refl _) rfl ?_
  simp (etaStruct := .none) only [push_cast, DrawG, seval, hd, List.length_nil, Int.ofNat_zero, Int.lt_irrefl]
  subst hr
  iterate 28 (refine peelD fun r hr => ?_; simp (etaStruct := .none) only [push_cast, DrawG, seval, hd, getD_in _ _ _ hbF, i64P, List.length_nil, Int.ofNat_zero, Int.lt_irrefl, id]; (try refine ⟨fun h => absurd h (by decide), ?_⟩); (try refine ⟨fun h => h.elim, ?_⟩); subst hr)
  refine endD ?_
  subst hR
  refine endE (by kernel_rfl) ?_
  simp (etaStruct := .none) only [push_cast, DrawG, seval]
  refine cond_i (fun h1 => ?_) (fun h1 => ?_)
  ·exact absurd h1 (by decide)
  ·rw [← hu, e]
   (try (refine xst ?_; try exact xtI))
   refine retM [0, 1, 2, 3] rfl rfl (by decide) ⟨?_, ?_, ?_, ?_, trivial⟩ trivial ?_ <;> simp (etaStruct := .none) only [push_cast, DrawG, seval]
 have hzd : (0 < (m.length : Int)) = True := eq_true (by omega)
 have hmu5 : m.length ≤ 100000 := by unfold muS at hm; omega
 (iterate 2 ((try simp (etaStruct := .none) only [push_cast, seval, hzd, getD_in _ _ _ hbF, getD_in _ _ _ hz, i64P, nodP]); (try (refine xsu ?_; try exact xtI))))
 refine drawG_w [some 14, some 15, some 16, some 17, some 18, some 19, some 20, some 21, some 22, some 23, some 24, some 25, some 26, some 27, some 28, some 29, some 30, some 31, some 32, some 33, some 34, some 35, some 36, some 37, some 38, some 39, some 40, some 41, some 42, some 43, some 44, some 45, some 46] rfl ?_
 intro Oq lq Rq hlq hdq hRq
 subst hlq
 iterate 4 (refine peelD fun rq hrq => ?_; (iterate 2 ((try simp (etaStruct := .none) only [push_cast, seval, hdq, id, hzd, getD_in _ _ _ hbF, getD_in _ _ _ hz, i64P, nodP]); (try (refine xsu ?_; try exact xtI)))); subst hrq)
 refine peelD fun rq hrq => ?_
 (iterate 2 ((try simp (etaStruct := .none) only [push_cast, seval, hdq, id, hzd, getD_in _ _ _ hbF, getD_in _ _ _ hz, i64P, nodP]); (try (refine xsu ?_; try exact xtI))))
 refine callB (olen_s m) (WkL.refl _) rfl ?_
 (iterate 2 ((try simp (etaStruct := .none) only [push_cast, seval, hdq, id, hzd, getD_in _ _ _ hbF, getD_in _ _ _ hz, i64P, nodP]); (try (refine xsu ?_; try exact xtI))))
 subst hrq
 iterate 28 (refine peelD fun rq hrq => ?_; (iterate 2 ((try simp (etaStruct := .none) only [push_cast, seval, hdq, id, hzd, getD_in _ _ _ hbF, getD_in _ _ _ hz, i64P, nodP]); (try (refine xsu ?_; try exact xtI)))); subst hrq)
 refine endD ?_
 subst hRq
 clear hdq Oq
 refine endE (by kernel_rfl) ?_
 (iterate 2 ((try simp (etaStruct := .none) only [push_cast, seval, hzd, getD_in _ _ _ hbF, getD_in _ _ _ hz, i64P, nodP]); (try (refine xsu ?_; try exact xtI))))
 refine cond_i (fun h1 => ?_) (fun h1 => ?_)
 ·(try replace h1 := xhh h1)
  have hg : goB f b fr m := ⟨hz, h1⟩
  obtain ⟨p, e1, hp, j0, jb, _⟩ := hA.itm _ ((hpop_mem Nod.all m hz _).2 (.inl rfl))
  obtain ⟨hin, hidx⟩ := celW_in (f := f) hw hh hW (p := p) (by omega)
  rw [← e1] at hin hidx
  have hpF : idxN f (m.getD 0 default).c < fr.length := by rw [hidx, hA.len]; exact hp
  have hci := inF_iff.1 hin
  have hcl := sumL_le one0 1 one0_le fr
  rw [hA.len] at hcl
  obtain ⟨M', rfl⟩ : ∃ M', M = M' + 1 := ⟨M - 1, by unfold muS at hm; omega⟩
  have hrun := runF_go hg M'
  (iterate 2 ((try simp (etaStruct := .none) only [push_cast, seval, hzd, getD_in _ _ _ hbF, getD_in _ _ _ hz, i64P, nodP, getD_in _ _ _ hpF]); (try (refine xsu ?_; try exact xtI))))
  refine caM [0, 1, 3] (ohpop_s f b fr m hz (by omega)) ?_
  (iterate 2 ((try simp (etaStruct := .none) only [push_cast, seval, hzd, getD_in _ _ _ hbF, getD_in _ _ _ hz, i64P, nodP, getD_in _ _ _ hpF]); (try (refine xsu ?_; try exact xtI))))
  refine drawG_w [some 53, some 54, some 55, some 56, some 57, some 58, some 59, some 60, some 61, some 62, some 63] rfl ?_
  intro Oq lq Rq hlq hdq hRq
  subst hlq
  iterate 7 (refine peelD fun rq hrq => ?_; (iterate 2 ((try simp (etaStruct := .none) only [push_cast, seval, hdq, id, hzd, getD_in _ _ _ hbF, getD_in _ _ _ hz, i64P, nodP, getD_in _ _ _ hpF]); (try (refine xsu ?_; try exact xtI)))); subst hrq)
  refine peelD fun rq hrq => ?_
  (iterate 2 ((try simp (etaStruct := .none) only [push_cast, seval, hdq, id, hzd, getD_in _ _ _ hbF, getD_in _ _ _ hz, i64P, nodP, getD_in _ _ _ hpF]); (try (refine xsu ?_; try exact xtI))))
  refine callB (pindex_s f b fr (hpop Nod.all m) (m.getD 0 default).c hf hin) (WkL.refl _) rfl ?_
  (iterate 2 ((try simp (etaStruct := .none) only [push_cast, seval, hdq, id, hzd, getD_in _ _ _ hbF, getD_in _ _ _ hz, i64P, nodP, getD_in _ _ _ hpF]); (try (refine xsu ?_; try exact xtI))))
  subst hrq
  iterate 3 (refine peelD fun rq hrq => ?_; (iterate 2 ((try simp (etaStruct := .none) only [push_cast, seval, hdq, id, hzd, getD_in _ _ _ hbF, getD_in _ _ _ hz, i64P, nodP, getD_in _ _ _ hpF]); (try (refine xsu ?_; try exact xtI)))); subst hrq)
  refine endD ?_
  subst hRq
  clear hdq Oq
  refine endE (by kernel_rfl) ?_
  (iterate 2 ((try simp (etaStruct := .none) only [push_cast, seval, hzd, getD_in _ _ _ hbF, getD_in _ _ _ hz, i64P, nodP, getD_in _ _ _ hpF]); (try (refine xsu ?_; try exact xtI))))
  refine cond_i (fun h2 => ?_) (fun h2 => ?_)
  ·(try replace h2 := xhh h2)
   skip
   (iterate 2 ((try simp (etaStruct := .none) only [push_cast, seval, hzd, getD_in _ _ _ hbF, getD_in _ _ _ hz, i64P, nodP, getD_in _ _ _ hpF]); (try (refine xsu ?_; try exact xtI))))
   refine ⟨(M', fr, hpop Nod.all m), ⟨hA.skip hz e1 (by rw [← hidx]; exact h2), by simp only; unfold muS at hm ⊢; rw [hpop_len]; omega, by simp only; omega, by rw [← hu, hrun, if_pos h2]⟩, by simp only; omega, To.mk [0, 1, 2, 136] rfl rfl (by decide) ?_ ?_⟩
   ·(iterate 2 ((try simp (etaStruct := .none) only [push_cast, seval, hzd, getD_in _ _ _ hbF, getD_in _ _ _ hz, i64P, nodP, getD_in _ _ _ hpF]); (try (refine xsu ?_; try exact xtI))))
   ·(iterate 2 ((try simp (etaStruct := .none) only [push_cast, seval, hzd, getD_in _ _ _ hbF, getD_in _ _ _ hz, i64P, nodP, getD_in _ _ _ hpF]); (try (refine xsu ?_; try exact xtI))))
  ·(try replace h2 := xhh h2)
   obtain ⟨p', e1', _, _, _, hA2, hself, cnt, top, hb3⟩ := close_ok hw hh hW hf hL b hA hz (by omega)
   obtain rfl : p = p' := celW_inj (e1.symm.trans e1')
   obtain ⟨C, hC⟩ : ∃ C, C = (m.getD 0 default).c := ⟨_, rfl⟩
   obtain ⟨D, hD⟩ : ∃ D, D = (m.getD 0 default).far := ⟨_, rfl⟩
   rw [← hidx, ← hC, ← hD] at hA2 hself cnt top hb3
   rw [← hC, ← hD] at hrun
   rw [← hC] at hin hci e1 hidx hpF
   rw [← hD] at j0 jb
   obtain ⟨Fq, hFS⟩ : ∃ Fq, Fq = fr.set (idxN f C) D := ⟨_, rfl⟩
   rw [← hFS] at hA2 hself cnt top hb3 hrun
   have hFl : Fq.length = f.p.length := by rw [hFS, List.length_set]; exact hA.len
   (iterate 2 ((try simp (etaStruct := .none) only [push_cast, seval, hzd, getD_in _ _ _ hbF, getD_in _ _ _ hz, i64P, nodP, getD_in _ _ _ hpF, ← hC, ← hD]); (try (refine xsu ?_; try exact xtI))))
   refine drawG_w [some 64, some 65, some 66, some 67, some 68, some 69, some 70, some 71, some 72, some 73, some 74, none] rfl ?_
   intro Oq lq Rq hlq hdq hRq
   subst hlq
   iterate 7 (refine peelD fun rq hrq => ?_; (iterate 2 ((try simp (etaStruct := .none) only [push_cast, seval, hdq, id, hzd, getD_in _ _ _ hbF, getD_in _ _ _ hz, i64P, nodP, getD_in _ _ _ hpF, ← hC, ← hD]); (try (refine xsu ?_; try exact xtI)))); subst hrq)
   refine peelD fun rq hrq => ?_
   (iterate 2 ((try simp (etaStruct := .none) only [push_cast, seval, hdq, id, hzd, getD_in _ _ _ hbF, getD_in _ _ _ hz, i64P, nodP, getD_in _ _ _ hpF, ← hC, ← hD]); (try (refine xsu ?_; try exact xtI))))
   refine callB (pindex_s f b fr (hpop Nod.all m) C hf hin) (WkL.refl _) rfl ?_
   (iterate 2 ((try simp (etaStruct := .none) only [push_cast, seval, hdq, id, hzd, getD_in _ _ _ hbF, getD_in _ _ _ hz, i64P, nodP, getD_in _ _ _ hpF, ← hC, ← hD]); (try (refine xsu ?_; try exact xtI))))
   subst hrq
   iterate 4 (refine peelD fun rq hrq => ?_; (iterate 2 ((try simp (etaStruct := .none) only [push_cast, seval, hdq, id, hzd, getD_in _ _ _ hbF, getD_in _ _ _ hz, i64P, nodP, getD_in _ _ _ hpF, ← hC, ← hD]); (try (refine xsu ?_; try exact xtI)))); subst hrq)
   refine endD ?_
   subst hRq
   clear hdq Oq
   refine endE (by kernel_rfl) ?_
   (iterate 2 ((try simp (etaStruct := .none) only [push_cast, seval, hzd, getD_in _ _ _ hbF, getD_in _ _ _ hz, i64P, nodP, getD_in _ _ _ hpF, ← hC, ← hD]); (try (refine xsu ?_; try exact xtI))))
   refine caP (psides_s C (by omega) (by omega)) ?_
   (iterate 2 ((try simp (etaStruct := .none) only [push_cast, seval, hzd, getD_in _ _ _ hbF, getD_in _ _ _ hz, i64P, nodP, getD_in _ _ _ hpF, ← hC, ← hD]); (try (refine xsu ?_; try exact xtI))))
   refine loopI (fun k : Nat => ⟨[(78, I .i64 k), (77, .agg [I .i64 C.x, I .i64 (C.y - 1), I .i64 (C.x - 1), I .i64 C.y, I .i64 (C.x + 1), I .i64 C.y, I .i64 C.x, I .i64 (C.y + 1)]), (3, .ptr 4 0 0), (2, I .i64 (idxN f b)), (0, .ptr 0 0 0)], [(0, .blk 209 [I .i64 f.w, I .i64 f.h, .c (.sl 1 (f.p.map i64P)), I .i64 b.x, I .i64 b.y, .own 1, .own 3]), (1, .row 3 1 (Fq.map i64P)), (2, .dead), (3, .row 225 4 ((lookF f b Fq D (hpop Nod.all m) ((sidesC C).take k)).map nodP)), (4, .blk 225 [I .i64 C.x, I .i64 C.y, I .i64 D, I .i64 (m.getD 0 default).all])], 5⟩) (fun k : Nat => k ≤ 4) (fun k : Nat => 4 - k) (0) (Nat.zero_le _) (To.mk [0, 1, 2, 136, 137] rfl rfl (by decide) ?_ ?_) ?_
   ·simp (etaStruct := .none) only [push_cast, DrawG, seval, List.map_set, i64P, List.take_zero, lookF, List.foldl_nil, hFS]
   ·simp (etaStruct := .none) only [push_cast, DrawG, seval, Int.ofNat_zero]
   rintro k hk2
   (iterate 2 ((try simp (etaStruct := .none) only [push_cast, seval, hzd, getD_in _ _ _ hbF, getD_in _ _ _ hz, i64P, nodP, getD_in _ _ _ hpF, ← hC, ← hD]); (try (refine xsu ?_; try exact xtI))))
   refine cond_i (fun h3 => ?_) (fun h3 => ?_)
   ·(try replace h3 := xhh h3)
    have hlt : k < 4 := by omega
    have hsc := sides_cells C k hlt
    have hsn := side_near hf hin k hlt
    have hst : lookF f b Fq D (hpop Nod.all m) ((sidesC C).take (k + 1)) = lk f b Fq D (lookF f b Fq D (hpop Nod.all m) ((sidesC C).take k)) ((sidesC C).getD k default) := by rw [take_snoc _ _ (show k < (sidesC C).length from hlt), lookF_snoc]
    have hgG : idxG f ((sidesC C).getD k default) < Fq.length := by rw [hFl]; exact idxG_lt hf _
    have hcb : 0 ≤ (costC f ((sidesC C).getD k default)).1 ∧ (costC f ((sidesC C).getD k default)).1 ≤ 3 := by
     have := kV_b (placeV f ((sidesC C).getD k default))
     unfold costC
     split
     ·split <;> simp only <;> omega
     ·simp only; omega
    have hql : ((lookF f b Fq D (hpop Nod.all m) ((sidesC C).take k))).length ≤ 100004 := by
     have h1 := lookF_len f b Fq D ((sidesC C).take k) (hpop Nod.all m)
     rw [hpop_len, List.length_take] at h1
     omega
    (iterate 2 ((try simp (etaStruct := .none) only [push_cast, seval, hzd, getD_in _ _ _ hbF, getD_in _ _ _ hz, i64P, nodP, getD_in _ _ _ hpF, ← hC, ← hD, hsc, getD_in _ _ _ hgG, i64P]); (try (refine xsu ?_; try exact xtI))))
    refine callB (pcost_s f b Fq (lookF f b Fq D (hpop Nod.all m) ((sidesC C).take k)) ((sidesC C).getD k default) hf) (WkL.refl _) rfl ?_
    (iterate 2 ((try simp (etaStruct := .none) only [push_cast, seval, hzd, getD_in _ _ _ hbF, getD_in _ _ _ hz, i64P, nodP, getD_in _ _ _ hpF, ← hC, ← hD, hsc, getD_in _ _ _ hgG, i64P]); (try (refine xsu ?_; try exact xtI))))
    refine drawG_w [some 87, some 88, some 89, some 90, some 91, some 92, some 93, some 94, some 95, some 96, some 97, some 98, some 99] rfl ?_
    intro Oq lq Rq hlq hdq hRq
    subst hlq
    iterate 8 (refine peelD fun rq hrq => ?_; (iterate 2 ((try simp (etaStruct := .none) only [push_cast, seval, hdq, id, hzd, getD_in _ _ _ hbF, getD_in _ _ _ hz, i64P, nodP, getD_in _ _ _ hpF, ← hC, ← hD, hsc, getD_in _ _ _ hgG, i64P]); (try (refine xsu ?_; try exact xtI)))); subst hrq)
    refine peelD fun rq hrq => ?_
    (iterate 2 ((try simp (etaStruct := .none) only [push_cast, seval, hdq, id, hzd, getD_in _ _ _ hbF, getD_in _ _ _ hz, i64P, nodP, getD_in _ _ _ hpF, ← hC, ← hD, hsc, getD_in _ _ _ hgG, i64P]); (try (refine xsu ?_; try exact xtI))))
    refine gcallB (fun hcc => pindexG_s f b Fq (lookF f b Fq D (hpop Nod.all m) ((sidesC C).take k)) ((sidesC C).getD k default) hf hcc) (WkL.refl _) rfl (by intro hc; (try simp (etaStruct := .none) only [push_cast, DrawG, seval]); (try simp_all)) ?_
    (iterate 2 ((try simp (etaStruct := .none) only [push_cast, seval, hdq, id, hzd, getD_in _ _ _ hbF, getD_in _ _ _ hz, i64P, nodP, getD_in _ _ _ hpF, ← hC, ← hD, hsc, getD_in _ _ _ hgG, i64P]); (try (refine xsu ?_; try exact xtI))))
    subst hrq
    iterate 4 (refine peelD fun rq hrq => ?_; (iterate 2 ((try simp (etaStruct := .none) only [push_cast, seval, hdq, id, hzd, getD_in _ _ _ hbF, getD_in _ _ _ hz, i64P, nodP, getD_in _ _ _ hpF, ← hC, ← hD, hsc, getD_in _ _ _ hgG, i64P]); (try (refine xsu ?_; try exact xtI)))); subst hrq)
    refine endD ?_
    subst hRq
    clear hdq Oq
    refine endE (by kernel_rfl) ?_
    (iterate 2 ((try simp (etaStruct := .none) only [push_cast, seval, hzd, getD_in _ _ _ hbF, getD_in _ _ _ hz, i64P, nodP, getD_in _ _ _ hpF, ← hC, ← hD, hsc, getD_in _ _ _ hgG, i64P]); (try (refine xsu ?_; try exact xtI))))
    refine cond_i (fun h4 => ?_) (fun h4 => ?_)
    ·(try replace h4 := xhh h4)
     have hin2 : inF f ((sidesC C).getD k default) = true := by
      cases hi : inF f ((sidesC C).getD k default) with
      | true => rfl
      | false => have := h4.1; unfold costC at this; rw [hi] at this; simp at this
     have hlk : lk f b Fq D (lookF f b Fq D (hpop Nod.all m) ((sidesC C).take k)) ((sidesC C).getD k default) = hpush Nod.all (lookF f b Fq D (hpop Nod.all m) ((sidesC C).take k)) ⟨((sidesC C).getD k default), D + (costC f ((sidesC C).getD k default)).1, D + (costC f ((sidesC C).getD k default)).1 + leftH b ((sidesC C).getD k default)⟩ := by unfold lk; rw [if_pos ⟨h4.1, by rw [← idxG_in hin2]; exact h4.2⟩]
     rw [hlk] at hst
     (iterate 2 ((try simp (etaStruct := .none) only [push_cast, seval, hzd, getD_in _ _ _ hbF, getD_in _ _ _ hz, i64P, nodP, getD_in _ _ _ hpF, ← hC, ← hD, hsc, getD_in _ _ _ hgG, i64P, hst]); (try (refine xsu ?_; try exact xtI))))
     refine caM [0, 1, 3] (ppush_s f b Fq (lookF f b Fq D (hpop Nod.all m) ((sidesC C).take k)) ((sidesC C).getD k default) (D + (costC f ((sidesC C).getD k default)).1) (by omega) hsn.1 hsn.2 (by omega) (by omega) (by omega)) ?_
     (iterate 2 ((try simp (etaStruct := .none) only [push_cast, seval, hzd, getD_in _ _ _ hbF, getD_in _ _ _ hz, i64P, nodP, getD_in _ _ _ hpF, ← hC, ← hD, hsc, getD_in _ _ _ hgG, i64P, hst]); (try (refine xsu ?_; try exact xtI))))
     refine ⟨k + 1, by omega, by omega, To.mk [0, 1, 2, 58, 4] rfl rfl (by decide) ?_ ?_⟩
     ·(iterate 2 ((try simp (etaStruct := .none) only [push_cast, seval, hzd, getD_in _ _ _ hbF, getD_in _ _ _ hz, i64P, nodP, getD_in _ _ _ hpF, ← hC, ← hD, hsc, getD_in _ _ _ hgG, i64P, hst]); (try (refine xsu ?_; try exact xtI))))
     ·(iterate 2 ((try simp (etaStruct := .none) only [push_cast, seval, hzd, getD_in _ _ _ hbF, getD_in _ _ _ hz, i64P, nodP, getD_in _ _ _ hpF, ← hC, ← hD, hsc, getD_in _ _ _ hgG, i64P, hst]); (try (refine xsu ?_; try exact xtI))))
    ·(try replace h4 := xhh h4)
     have hlk : lk f b Fq D (lookF f b Fq D (hpop Nod.all m) ((sidesC C).take k)) ((sidesC C).getD k default) = (lookF f b Fq D (hpop Nod.all m) ((sidesC C).take k)) := by
      unfold lk
      rw [if_neg]
      rintro ⟨c1, c2⟩
      have hin2 : inF f ((sidesC C).getD k default) = true := by
       cases hi : inF f ((sidesC C).getD k default) with
       | true => rfl
       | false => unfold costC at c1; rw [hi] at c1; simp at c1
      rw [← idxG_in hin2] at c2
      rcases h4 with h4 | h4
      ·rw [c1] at h4; exact absurd h4 (by decide)
      ·omega
     rw [hlk] at hst
     (iterate 2 ((try simp (etaStruct := .none) only [push_cast, seval, hzd, getD_in _ _ _ hbF, getD_in _ _ _ hz, i64P, nodP, getD_in _ _ _ hpF, ← hC, ← hD, hsc, getD_in _ _ _ hgG, i64P, hst]); (try (refine xsu ?_; try exact xtI))))
     refine ⟨k + 1, by omega, by omega, To.mk [0, 1, 2, 3, 4] rfl rfl (by decide) ?_ ?_⟩
     ·(iterate 2 ((try simp (etaStruct := .none) only [push_cast, seval, hzd, getD_in _ _ _ hbF, getD_in _ _ _ hz, i64P, nodP, getD_in _ _ _ hpF, ← hC, ← hD, hsc, getD_in _ _ _ hgG, i64P, hst]); (try (refine xsu ?_; try exact xtI))))
     ·(iterate 2 ((try simp (etaStruct := .none) only [push_cast, seval, hzd, getD_in _ _ _ hbF, getD_in _ _ _ hz, i64P, nodP, getD_in _ _ _ hpF, ← hC, ← hD, hsc, getD_in _ _ _ hgG, i64P, hst]); (try (refine xsu ?_; try exact xtI))))
   ·(try replace h3 := xhh h3)
    obtain rfl : k = 4 := by omega
    have ht4 : (sidesC C).take 4 = sidesC C := rfl
    have hpc : idxN f C < f.p.length := by omega
    have h4 := look_k hw hh hW hf hL b hA2 hpc hself j0 top hb3 4 (Nat.le_refl _)
    rw [hidx, ← e1, ht4, ← hidx] at h4
    have h5 := look_all hw hh hW hL hpc h4
    have hll := lookF_len f b Fq D (sidesC C) (hpop Nod.all m)
    rw [hpop_len, show (sidesC C).length = 4 from rfl] at hll
    have hcl2 := sumL_le one0 1 one0_le Fq
    rw [hFl] at hcl2
    (iterate 2 ((try simp (etaStruct := .none) only [push_cast, seval, hzd, getD_in _ _ _ hbF, getD_in _ _ _ hz, i64P, nodP, getD_in _ _ _ hpF, ← hC, ← hD, ht4]); (try (refine xsu ?_; try exact xtI))))
    refine ⟨(M', Fq, lookF f b Fq D (hpop Nod.all m) (sidesC C)), ⟨h5, by simp only; unfold muS at hm ⊢; omega, by simp only; omega, by rw [← hu, hrun, if_neg (by rw [hC]; omega)]⟩, by simp only; omega, To.mk [0, 1, 2, 3] rfl rfl (by decide) ?_ ?_⟩
    ·(iterate 2 ((try simp (etaStruct := .none) only [push_cast, seval, hzd, getD_in _ _ _ hbF, getD_in _ _ _ hz, i64P, nodP, getD_in _ _ _ hpF, ← hC, ← hD, ht4]); (try (refine xsu ?_; try exact xtI))))
    ·(iterate 2 ((try simp (etaStruct := .none) only [push_cast, seval, hzd, getD_in _ _ _ hbF, getD_in _ _ _ hz, i64P, nodP, getD_in _ _ _ hpF, ← hC, ← hD, ht4]); (try (refine xsu ?_; try exact xtI))))
 ·(try replace h1 := xhh h1)
  rw [← hu, runF_no (fun h => by have := h.2; omega) M]
  (iterate 2 ((try simp (etaStruct := .none) only [push_cast, seval, hzd, getD_in _ _ _ hbF, getD_in _ _ _ hz, i64P, nodP]); (try (refine xsu ?_; try exact xtI))))
  refine retM [0, 1, 2, 3] rfl rfl (by decide) ⟨?_, ?_, ?_, ?_, trivial⟩ trivial ?_ <;> simp (etaStruct := .none) only [push_cast, DrawG, seval]
theorem oqpush0_s (f : Fld) (b : Cel) (far : List Int) (x : Nod) : Spec Tryz.prog 191 [.ptr 0 0 6, .ifc 225 (nodA x)] [.blk 209 [I .i64 f.w, I .i64 f.h, .c (.sl 1 (f.p.map i64P)), I .i64 b.x, I .i64 b.y, .own 1, .c (.v (.slice none 0 0))], .row 3 1 (far.map i64P)] (.tup []) [.blk 209 [I .i64 f.w, I .i64 f.h, .c (.sl 1 (f.p.map i64P)), I .i64 b.x, I .i64 b.y, .own 1, .own 2], .row 3 1 (far.map i64P), .row 225 4 ([x].map nodP)] := by
 refine spec_am Tryz.func191 rfl rfl mix 13 rfl [] Tryz.results191 (Nat.le_of_ble_eq_true rfl) ?_
 (try (refine xst ?_; try exact xtI))
 (try (refine ⟨by kernel_rfl, ?_⟩))
 (try (refine xst ?_; try exact xtI))
 refine retM [0, 1, 30] rfl rfl (by decide) ⟨?_, ?_, ?_, trivial⟩ trivial ?_ <;> simp (etaStruct := .none) only [push_cast, DrawG, seval, nodP]
theorem ohpush0_s (f : Fld) (b : Cel) (far : List Int) (x : Nod) : Spec Tryz.prog 162 [.ifc 223 (.ptr 0 0 6), .ifc 225 (nodA x)] [.blk 209 [I .i64 f.w, I .i64 f.h, .c (.sl 1 (f.p.map i64P)), I .i64 b.x, I .i64 b.y, .own 1, .c (.v (.slice none 0 0))], .row 3 1 (far.map i64P)] (.tup []) [.blk 209 [I .i64 f.w, I .i64 f.h, .c (.sl 1 (f.p.map i64P)), I .i64 b.x, I .i64 b.y, .own 1, .own 2], .row 3 1 (far.map i64P), .row 225 4 ((hpush Nod.all [] x).map nodP)] := by
 refine spec_am Tryz.func162 rfl rfl mix 12 rfl [] Tryz.results162 (Nat.le_of_ble_eq_true rfl) ?_
 (try (refine xst ?_; try exact xtI))
 refine caM [0, 1] (oqpush0_s f b far x) ?_
 (try (refine xst ?_; try exact xtI))
 refine callB (olen_s [x]) (WkL.refl _) rfl ?_
 (try (refine xst ?_; try exact xtI))
 refine caM [0, 1, 2] (oup_s f b far [x] 0 (by simp) (by simp)) ?_
 (try (refine xst ?_; try exact xtI))
 refine retM [0, 1, 2] rfl rfl (by decide) ⟨?_, ?_, ?_, trivial⟩ trivial ?_ <;> simp (etaStruct := .none) only [push_cast, DrawG, seval, hpush]
abbrev srB (f : Fld) (b : Cel) (x y : AV) : Chunk := .blk 209 [I .i64 f.w, I .i64 f.h, .c (.sl 1 (f.p.map i64P)), I .i64 b.x, I .i64 b.y, x, y]
theorem ppush0_s (f : Fld) (b : Cel) (far : List Int) (c : Cel) (d : Int) (hx : -1000 ≤ c.x ∧ c.x ≤ 1000) (hy : -1000 ≤ c.y ∧ c.y ≤ 1000) (hbx : 0 ≤ b.x ∧ b.x ≤ 40) (hby : 0 ≤ b.y ∧ b.y ≤ 40) (hd : 0 ≤ d ∧ d ≤ 1000000) : Spec Tryz.prog 155 [.ptr 0 0 0, celA c, I .i64 d] [.blk 209 [I .i64 f.w, I .i64 f.h, .c (.sl 1 (f.p.map i64P)), I .i64 b.x, I .i64 b.y, .own 1, .c (.v (.slice none 0 0))], .row 3 1 (far.map i64P)] (.tup []) [.blk 209 [I .i64 f.w, I .i64 f.h, .c (.sl 1 (f.p.map i64P)), I .i64 b.x, I .i64 b.y, .own 1, .own 2], .row 3 1 (far.map i64P), .row 225 4 ((hpush Nod.all [] ⟨c, d, d + leftH b c⟩).map nodP)] := by
 have e1 : IntKind.i64.wrap (d + IntKind.i64.wrap (2 * (((b.x - c.x).natAbs + (b.y - c.y).natAbs : Nat) : Int))) = d + leftH b c := by unfold leftH; rw [wrap_in (2 * _) (by omega) (by omega), wrap_in _ (by omega) (by omega)]
 refine spec_am Tryz.func155 rfl rfl mix 32 rfl [] Tryz.results155 (Nat.le_of_ble_eq_true rfl) ?_
 (iterate 2 ((try simp (etaStruct := .none) only [push_cast, DrawG, seval, e1]); (try (refine xsu ?_; try exact xtI))))
 refine caP (lapart_s c b (by simp [nearB]; omega) (by simp [nearB]; omega)) ?_
 (iterate 2 ((try simp (etaStruct := .none) only [push_cast, DrawG, seval, e1]); (try (refine xsu ?_; try exact xtI))))
 (try (refine ⟨by kernel_rfl, ?_⟩))
 (iterate 2 ((try simp (etaStruct := .none) only [push_cast, DrawG, seval, e1]); (try (refine xsu ?_; try exact xtI))))
 refine callM [0, 1] (ohpush0_s f b far ⟨c, d, d + leftH b c⟩) (WkL.refl _) rfl (by decide) (by simp [lookC_c, onlyC, memN]) ?_
 (iterate 2 ((try simp (etaStruct := .none) only [push_cast, DrawG, seval, e1]); (try (refine xsu ?_; try exact xtI))))
 (try (refine ⟨by kernel_rfl, ?_⟩))
 (iterate 2 ((try simp (etaStruct := .none) only [push_cast, DrawG, seval, e1]); (try (refine xsu ?_; try exact xtI))))
 refine retM [0, 1, 103] rfl rfl (by decide) ⟨?_, ?_, ?_, trivial⟩ trivial ?_ <;> simp (etaStruct := .none) only [push_cast, DrawG, seval]
theorem atV_at {f : Fld} {c : Cel} (hf : fldE f = 0) : atV f c = if inF f c then (placeV f c, 0) else (0, 7) := by unfold atV; rw [if_neg (by simp [hf])]
theorem searched_no (f : Fld) (a b : Cel) (hl : f.p.length ≤ 9223372036854775807) (hE : fldE f ≠ 0 ∨ ¬ (inF f a = true ∧ inF f b = true) ∨ placeV f a = 1 ∨ placeV f b = 1) (R : List Int) : Spec Tryz.prog 145 [fldA f, celA a, celA b] [] (.tup [.c (.v (.pointer none)), I .i64 (wayE R f a b)]) [] := by
 have key : (atV f a).2 ≠ 0 ∧ wayE R f a b = (atV f a).2 ∨ (atV f a).2 = 0 ∧ (atV f b).2 ≠ 0 ∧ wayE R f a b = (atV f b).2 ∨ (atV f a).2 = 0 ∧ (atV f b).2 = 0 ∧ wayE R f a b = 9 ∧ ((atV f a).1 = 1 ∨ (atV f b).1 = 1) := by
  by_cases hf : fldE f = 0
  ·rw [atV_at hf, atV_at hf]
   unfold wayE
   cases ha : inF f a with
   | false => exact .inl ⟨by simp [ha], by simp [ha, hf]⟩
   | true =>
    cases hb : inF f b with
    | false => exact .inr (.inl ⟨by simp [ha], by simp [hb], by simp [hb, hf]⟩)
    | true =>
     rcases hE with h | h | h
     ·exact absurd hf h
     ·exact absurd ⟨ha, hb⟩ h
     ·exact .inr (.inr ⟨by simp [ha], by simp [hb], by simp [ha, hb, hf, h], by simpa [ha, hb] using h⟩)
  ·have e : ∀ c, atV f c = (0, fldE f) := fun c => by unfold atV; rw [if_pos hf]
   rw [e]
   unfold wayE
   rw [if_pos hf]
   exact .inl ⟨hf, rfl⟩
 refine spec_am Tryz.func145 rfl rfl mix 61 rfl [.tmp 6, .tmp 7] Tryz.results145 (Nat.le_of_ble_eq_true rfl) ?_
 (try (refine xst ?_; try exact xtI))
 refine caP (at_s f a hl) ?_
 (try (refine xst ?_; try exact xtI))
 refine cond_i (fun h1 => ?_) (fun h1 => ?_)
 ·(try replace h1 := xhh h1)
  have e : wayE R f a b = (atV f a).2 := by
   rcases key with k | k | k
   ·exact k.2
   ·exact absurd k.1 h1
   ·exact absurd k.1 h1
  (try (refine xst ?_; try exact xtI))
  (first | (refine retA rfl (Wk.of ?_); (try simp (etaStruct := .none) only [push_cast, DrawG, seval]); first | done | (simp [e, *]; done) | (simp_all [e]; done)) | (refine retA rfl ?_; (try simp (etaStruct := .none) only [push_cast, DrawG, seval]); (try simp [e, *]); (try exact wkc)))
 ·(try replace h1 := xhh h1)
  (try (refine xst ?_; try exact xtI))
  refine caP (at_s f b hl) ?_
  (try (refine xst ?_; try exact xtI))
  refine cond_i (fun h2 => ?_) (fun h2 => ?_)
  ·(try replace h2 := xhh h2)
   have e : wayE R f a b = (atV f b).2 := by
    rcases key with k | k | k
    ·exact absurd h1 k.1
    ·exact k.2.2
    ·exact absurd k.2.1 h2
   (try (refine xst ?_; try exact xtI))
   (first | (refine retA rfl (Wk.of ?_); (try simp (etaStruct := .none) only [push_cast, DrawG, seval]); first | done | (simp [e, *]; done) | (simp_all [e]; done)) | (refine retA rfl ?_; (try simp (etaStruct := .none) only [push_cast, DrawG, seval]); (try simp [e, *]); (try exact wkc)))
  ·(try replace h2 := xhh h2)
   (try (refine xst ?_; try exact xtI))
   refine cond_i (fun h3 => ?_) (fun h3 => ?_)
   ·(try replace h3 := xhh h3)
    have e : wayE R f a b = 9 := by
     rcases key with k | k | k
     ·exact absurd h1 k.1
     ·exact absurd h2 k.2.1
     ·exact k.2.2.1
    (try (refine xst ?_; try exact xtI))
    (first | (refine retA rfl (Wk.of ?_); (try simp (etaStruct := .none) only [push_cast, DrawG, seval]); first | done | (simp [e, *]; done) | (simp_all [e]; done)) | (refine retA rfl ?_; (try simp (etaStruct := .none) only [push_cast, DrawG, seval]); (try simp [e, *]); (try exact wkc)))
   ·(try replace h3 := xhh h3)
    exfalso
    rcases key with k | k | k
    ·exact absurd h1 k.1
    ·exact absurd h2 k.2.1
    ·have := k.2.2.2; omega
def runS (f : Fld) (a b : Cel) : List Int × List Nod := runF f b 8001 (List.replicate f.p.length (-1)) (hpush Nod.all [] ⟨a, 0, 0 + leftH b a⟩)
theorem muS0 (f : Fld) (x : Nod) (h : f.p.length ≤ 1600) : muS f (List.replicate f.p.length (-1)) (hpush Nod.all [] x) ≤ 8001 := by
 unfold muS; rw [hpush_len]; simp only [List.length_nil]; omega
theorem As0 {f : Fld} {W H : Nat} (hw : f.w = (W : Int)) (hh : f.h = (H : Int)) (hW : 0 < W) (hf : fldE f = 0) (b : Cel) {a : Cel} (ha : inF f a = true) : As W f.p (idxN f a) (fun n => leftH b (celW W n)) (List.replicate f.p.length (-1)) (hpush Nod.all [] ⟨a, 0, 0 + leftH b a⟩) fun _ _ => True := by
 obtain ⟨e, hlt⟩ := in_celW hw hh hW hf ha
 have := As.start (W := W) (pl := f.p) (a := idxN f a) (hh := fun n => leftH b (celW W n)) hlt
 rw [← e] at this
 exact this
theorem fld_nat {f : Fld} (hf : fldE f = 0) : ∃ W H : Nat, f.w = (W : Int) ∧ f.h = (H : Int) ∧ 0 < W ∧ f.p.length = W * H := by
 obtain ⟨⟨w1, w2⟩, ⟨w3, w4⟩, wl, wp⟩ := fldE_ok hf
 obtain ⟨W, hW⟩ : ∃ W : Nat, f.w = (W : Int) := Int.eq_ofNat_of_zero_le (by omega)
 obtain ⟨H, hH⟩ : ∃ H : Nat, f.h = (H : Int) := Int.eq_ofNat_of_zero_le (by omega)
 exact ⟨W, H, hW, hH, by omega, by rw [hW, hH] at wl; exact_mod_cast wl⟩
structure Srch (f : Fld) (a b : Cel) (R : List Int) (W H : Nat) : Prop where
 w : f.w = (W : Int)
 h : f.h = (H : Int)
 w0 : 0 < W
 l : f.p.length = W * H
 r : Flood W f.p [idxN f a] R
 ass : As W f.p (idxN f a) (fun n => leftH b (celW W n)) (runS f a b).1 (runS f a b).2 fun _ _ => True
 no : ¬ goB f b (runS f a b).1 (runS f a b).2
theorem srch {f : Fld} {a b : Cel} {R : List Int} (hf : fldE f = 0) (ha : inF f a = true) (hpa : placeV f a ≠ 1) (hR : FloodIs f [a] R) : ∃ W H, Srch f a b R W H := by
 obtain ⟨W, H, hw, hh, hW, hL⟩ := fld_nat hf
 have hA := run_ok hw hh hW hf hL b 8001 _ _ (As0 hw hh hW hf b ha) (muS0 f _ (place_ix hf ha).2.2.2.2)
 have hlt := (in_celW hw hh hW hf ha).2
 obtain ⟨F, hF⟩ := flood_ex (W := W) (pl := f.p) (s := [idxN f a]) hW (place_ix hf ha).2.2.2.2 (by intro p hp; rw [List.mem_singleton] at hp; rw [hp]; exact hlt)
 have e : floodE f [a] = 0 := by
  unfold floodE srcE srcE
  rw [if_neg (by simp [hf]), if_neg (by simp), if_pos ha, if_neg hpa]
 have := hR.1 e F (by rw [hw, Int.toNat_natCast]; exact hF)
 subst this
 exact ⟨W, H, hw, hh, hW, hL, hF, hA.1, hA.2⟩
theorem Srch.end {f : Fld} {a b : Cel} {R : List Int} {W H : Nat} (s : Srch f a b R W H) (hf : fldE f = 0) (ha : inF f a = true) (hb : inF f b = true) : ((runS f a b).1.getD (idxN f b) default < 0 ↔ R.getD (idxN f b) default < 0) ∧ (0 ≤ R.getD (idxN f b) default → (runS f a b).1.getD (idxN f b) default = R.getD (idxN f b) default ∧ ∀ x ∈ (runS f a b).2, R.getD (idxN f b) default < x.all) := by
 have hcons := hh_cons s.w s.h s.w0 b
 rw [← s.l] at hcons
 have haL := (in_celW s.w s.h s.w0 hf ha).2
 have hbL := (in_celW s.w s.h s.w0 hf hb).2
 have h1 : ∀ h : 0 ≤ (runS f a b).1.getD (idxN f b) default, (runS f a b).1.getD (idxN f b) default = R.getD (idxN f b) default := fun h => s.ass.same hcons haL s.r hbL h
 have h2 : (runS f a b).1.getD (idxN f b) default < 0 → R.getD (idxN f b) default < 0 := fun h => by
  rcases Int.lt_or_le (R.getD (idxN f b) default) 0 with h3 | h3
  ·exact h3
  ·have hq : (runS f a b).2 = [] := by
    have := s.no
    unfold goB at this
    cases hq : (runS f a b).2 with
    | nil => rfl
    | cons x r => exact absurd ⟨by rw [hq]; simp, .inl h⟩ this
   have := s.ass.known hcons haL s.r hbL h3 (by rw [hq]; intro x hx; simp at hx)
   omega
 refine ⟨⟨h2, fun h => ?_⟩, fun h => ?_⟩
 ·rcases Int.lt_or_le ((runS f a b).1.getD (idxN f b) default) 0 with h3 | h3
  ·exact h3
  ·have := h1 h3; omega
 ·have h3 : 0 ≤ (runS f a b).1.getD (idxN f b) default := by
   rcases Int.lt_or_le ((runS f a b).1.getD (idxN f b) default) 0 with h3 | h3
   ·have := h2 h3; omega
   ·exact h3
  have h4 := h1 h3
  refine ⟨h4, fun x hx => ?_⟩
  obtain ⟨k, hk, rfl⟩ := mem_getD.1 hx
  have hle := heap_min _ s.ass.heap k hk
  have := s.no
  unfold goB at this
  rw [h4] at this
  rcases Int.lt_or_le (R.getD (idxN f b) default) ((runS f a b).2.getD k default).all with h5 | h5
  ·exact h5
  ·exact absurd ⟨by omega, .inr (by omega)⟩ this
theorem searched_six (f : Fld) (a b : Cel) (hl : f.p.length ≤ 9223372036854775807) {R : List Int} (hf : fldE f = 0) (ha : inF f a = true) (hb : inF f b = true) (hpa : placeV f a ≠ 1) (hpb : placeV f b ≠ 1) (hR : FloodIs f [a] R) (h0 : R.getD (idxN f b) default < 0) : Spec Tryz.prog 145 [fldA f, celA a, celA b] [] (.tup [.c (.v (.pointer none)), I .i64 6]) [] := by
 obtain ⟨W, H, s⟩ := srch (b := b) hf ha hpa hR
 have hend := s.end hf ha hb
 obtain ⟨hw, hh, hW, hL, hFl, hAe, _⟩ := s
 have hA0 := As0 hw hh hW hf b ha
 have hmu0 := muS0 f ⟨a, 0, 0 + leftH b a⟩ (place_ix hf ha).2.2.2.2
 have hai := inF_iff.1 ha
 have hbi := inF_iff.1 hb
 have hfo := fldE_ok hf
 have hpx := place_ix hf ha
 have hrunS : runF f b 8001 (List.replicate f.p.length (-1)) (hpush Nod.all [] ⟨a, 0, 0 + leftH b a⟩) = runS f a b := rfl
 have hbF : idxN f b < (runS f a b).1.length := by rw [hAe.len]; exact (in_celW hw hh hW hf hb).2
 refine spec_am Tryz.func145 rfl rfl mix 61 rfl [.tmp 6, .tmp 7] Tryz.results145 (Nat.le_of_ble_eq_true rfl) ?_
 (iterate 2 ((try simp (etaStruct := .none) only [push_cast, DrawG, seval, Int.ofNat_zero, hrunS, getD_in _ _ _ hbF, i64P]); (try (refine xsu ?_; try exact xtI))))
 refine caP (at_s f a hl) ?_
 rw [atV_at hf, if_pos ha]
 (iterate 2 ((try simp (etaStruct := .none) only [push_cast, DrawG, seval, Int.ofNat_zero, hrunS, getD_in _ _ _ hbF, i64P]); (try (refine xsu ?_; try exact xtI))))
 refine cond_i (fun h1 => ?_) (fun h1 => ?_)
 ·(try replace h1 := xhh h1)
  exact absurd h1 (by decide)
 ·(try replace h1 := xhh h1)
  (iterate 2 ((try simp (etaStruct := .none) only [push_cast, DrawG, seval, Int.ofNat_zero, hrunS, getD_in _ _ _ hbF, i64P]); (try (refine xsu ?_; try exact xtI))))
  refine caP (at_s f b hl) ?_
  rw [atV_at hf, if_pos hb]
  (iterate 2 ((try simp (etaStruct := .none) only [push_cast, DrawG, seval, Int.ofNat_zero, hrunS, getD_in _ _ _ hbF, i64P]); (try (refine xsu ?_; try exact xtI))))
  refine cond_i (fun h2 => ?_) (fun h2 => ?_)
  ·(try replace h2 := xhh h2)
   exact absurd h2 (by decide)
  ·(try replace h2 := xhh h2)
   (iterate 2 ((try simp (etaStruct := .none) only [push_cast, DrawG, seval, Int.ofNat_zero, hrunS, getD_in _ _ _ hbF, i64P]); (try (refine xsu ?_; try exact xtI))))
   refine cond_i (fun h3 => ?_) (fun h3 => ?_)
   ·(try replace h3 := xhh h3)
    rcases h3 with h3 | h3
    ·exact absurd h3 hpa
    ·exact absurd h3 hpb
   ·(try replace h3 := xhh h3)
    (iterate 2 ((try simp (etaStruct := .none) only [push_cast, DrawG, seval, Int.ofNat_zero, hrunS, getD_in _ _ _ hbF, i64P]); (try (refine xsu ?_; try exact xtI))))
    refine callM [11] (repeat_s f.p.length (by omega) (by omega)) (WkL.refl _) rfl (by decide) (by simp [lookC_c, onlyC, memN]) ?_
    (iterate 2 ((try simp (etaStruct := .none) only [push_cast, DrawG, seval, Int.ofNat_zero, hrunS, getD_in _ _ _ hbF, i64P]); (try (refine xsu ?_; try exact xtI))))
    (try (refine ⟨by kernel_rfl, ?_⟩))
    (iterate 2 ((try simp (etaStruct := .none) only [push_cast, DrawG, seval, Int.ofNat_zero, hrunS, getD_in _ _ _ hbF, i64P]); (try (refine xsu ?_; try exact xtI))))
    refine caM [35, 27] (ppush0_s f b (List.replicate f.p.length (-1)) a 0 (by omega) (by omega) (by omega) (by omega) (by omega)) ?_
    (iterate 2 ((try simp (etaStruct := .none) only [push_cast, DrawG, seval, Int.ofNat_zero, hrunS, getD_in _ _ _ hbF, i64P]); (try (refine xsu ?_; try exact xtI))))
    refine caM [35, 27, 43] (prun_s f b hw hh hW hf hL hb (idxN f a) 8001 (List.replicate f.p.length (-1)) (hpush Nod.all [] ⟨a, 0, 0 + leftH b a⟩) hA0 hmu0 (by decide)) ?_
    (iterate 2 ((try simp (etaStruct := .none) only [push_cast, DrawG, seval, Int.ofNat_zero, hrunS, getD_in _ _ _ hbF, i64P]); (try (refine xsu ?_; try exact xtI))))
    refine callB (pindex_s f b (runS f a b).1 (runS f a b).2 b hf hb) (WkL.refl _) rfl ?_
    (iterate 2 ((try simp (etaStruct := .none) only [push_cast, DrawG, seval, Int.ofNat_zero, hrunS, getD_in _ _ _ hbF, i64P]); (try (refine xsu ?_; try exact xtI))))
    (try (refine ⟨by kernel_rfl, ?_⟩))
    (iterate 2 ((try simp (etaStruct := .none) only [push_cast, DrawG, seval, Int.ofNat_zero, hrunS, getD_in _ _ _ hbF, i64P]); (try (refine xsu ?_; try exact xtI))))
    refine cond_i (fun h4 => ?_) (fun h4 => ?_)
    ·(try replace h4 := xhh h4)
     (iterate 2 ((try simp (etaStruct := .none) only [push_cast, DrawG, seval, Int.ofNat_zero, hrunS, getD_in _ _ _ hbF, i64P]); (try (refine xsu ?_; try exact xtI))))
     exact xrz rfl
    ·(try replace h4 := xhh h4)
     exact absurd (hend.1.2 h0) (by omega)
theorem searched_ok (f : Fld) (a b : Cel) (hl : f.p.length ≤ 9223372036854775807) {R : List Int} (hf : fldE f = 0) (ha : inF f a = true) (hb : inF f b = true) (hpa : placeV f a ≠ 1) (hpb : placeV f b ≠ 1) (hR : FloodIs f [a] R) (h0 : 0 ≤ R.getD (idxN f b) default) : Spec Tryz.prog 145 [fldA f, celA a, celA b] [] (.tup [.ptr 0 0 0, I .i64 0]) [srB f b (.own 1) (.own 2), .row 3 1 ((runS f a b).1.map i64P), .row 225 4 ((runS f a b).2.map nodP)] := by
 obtain ⟨W, H, s⟩ := srch (b := b) hf ha hpa hR
 have hend := s.end hf ha hb
 obtain ⟨hw, hh, hW, hL, hFl, hAe, _⟩ := s
 have hA0 := As0 hw hh hW hf b ha
 have hmu0 := muS0 f ⟨a, 0, 0 + leftH b a⟩ (place_ix hf ha).2.2.2.2
 have hai := inF_iff.1 ha
 have hbi := inF_iff.1 hb
 have hfo := fldE_ok hf
 have hpx := place_ix hf ha
 have hrunS : runF f b 8001 (List.replicate f.p.length (-1)) (hpush Nod.all [] ⟨a, 0, 0 + leftH b a⟩) = runS f a b := rfl
 have hbF : idxN f b < (runS f a b).1.length := by rw [hAe.len]; exact (in_celW hw hh hW hf hb).2
 refine spec_am Tryz.func145 rfl rfl mix 61 rfl [.tmp 6, .tmp 7] Tryz.results145 (Nat.le_of_ble_eq_true rfl) ?_
 (iterate 2 ((try simp (etaStruct := .none) only [push_cast, DrawG, seval, Int.ofNat_zero, hrunS, getD_in _ _ _ hbF, i64P]); (try (refine xsu ?_; try exact xtI))))
 refine caP (at_s f a hl) ?_
 rw [atV_at hf, if_pos ha]
 (iterate 2 ((try simp (etaStruct := .none) only [push_cast, DrawG, seval, Int.ofNat_zero, hrunS, getD_in _ _ _ hbF, i64P]); (try (refine xsu ?_; try exact xtI))))
 refine cond_i (fun h1 => ?_) (fun h1 => ?_)
 ·(try replace h1 := xhh h1)
  exact absurd h1 (by decide)
 ·(try replace h1 := xhh h1)
  (iterate 2 ((try simp (etaStruct := .none) only [push_cast, DrawG, seval, Int.ofNat_zero, hrunS, getD_in _ _ _ hbF, i64P]); (try (refine xsu ?_; try exact xtI))))
  refine caP (at_s f b hl) ?_
  rw [atV_at hf, if_pos hb]
  (iterate 2 ((try simp (etaStruct := .none) only [push_cast, DrawG, seval, Int.ofNat_zero, hrunS, getD_in _ _ _ hbF, i64P]); (try (refine xsu ?_; try exact xtI))))
  refine cond_i (fun h2 => ?_) (fun h2 => ?_)
  ·(try replace h2 := xhh h2)
   exact absurd h2 (by decide)
  ·(try replace h2 := xhh h2)
   (iterate 2 ((try simp (etaStruct := .none) only [push_cast, DrawG, seval, Int.ofNat_zero, hrunS, getD_in _ _ _ hbF, i64P]); (try (refine xsu ?_; try exact xtI))))
   refine cond_i (fun h3 => ?_) (fun h3 => ?_)
   ·(try replace h3 := xhh h3)
    rcases h3 with h3 | h3
    ·exact absurd h3 hpa
    ·exact absurd h3 hpb
   ·(try replace h3 := xhh h3)
    (iterate 2 ((try simp (etaStruct := .none) only [push_cast, DrawG, seval, Int.ofNat_zero, hrunS, getD_in _ _ _ hbF, i64P]); (try (refine xsu ?_; try exact xtI))))
    refine callM [11] (repeat_s f.p.length (by omega) (by omega)) (WkL.refl _) rfl (by decide) (by simp [lookC_c, onlyC, memN]) ?_
    (iterate 2 ((try simp (etaStruct := .none) only [push_cast, DrawG, seval, Int.ofNat_zero, hrunS, getD_in _ _ _ hbF, i64P]); (try (refine xsu ?_; try exact xtI))))
    (try (refine ⟨by kernel_rfl, ?_⟩))
    (iterate 2 ((try simp (etaStruct := .none) only [push_cast, DrawG, seval, Int.ofNat_zero, hrunS, getD_in _ _ _ hbF, i64P]); (try (refine xsu ?_; try exact xtI))))
    refine caM [35, 27] (ppush0_s f b (List.replicate f.p.length (-1)) a 0 (by omega) (by omega) (by omega) (by omega) (by omega)) ?_
    (iterate 2 ((try simp (etaStruct := .none) only [push_cast, DrawG, seval, Int.ofNat_zero, hrunS, getD_in _ _ _ hbF, i64P]); (try (refine xsu ?_; try exact xtI))))
    refine caM [35, 27, 43] (prun_s f b hw hh hW hf hL hb (idxN f a) 8001 (List.replicate f.p.length (-1)) (hpush Nod.all [] ⟨a, 0, 0 + leftH b a⟩) hA0 hmu0 (by decide)) ?_
    (iterate 2 ((try simp (etaStruct := .none) only [push_cast, DrawG, seval, Int.ofNat_zero, hrunS, getD_in _ _ _ hbF, i64P]); (try (refine xsu ?_; try exact xtI))))
    refine callB (pindex_s f b (runS f a b).1 (runS f a b).2 b hf hb) (WkL.refl _) rfl ?_
    (iterate 2 ((try simp (etaStruct := .none) only [push_cast, DrawG, seval, Int.ofNat_zero, hrunS, getD_in _ _ _ hbF, i64P]); (try (refine xsu ?_; try exact xtI))))
    (try (refine ⟨by kernel_rfl, ?_⟩))
    (iterate 2 ((try simp (etaStruct := .none) only [push_cast, DrawG, seval, Int.ofNat_zero, hrunS, getD_in _ _ _ hbF, i64P]); (try (refine xsu ?_; try exact xtI))))
    refine cond_i (fun h4 => ?_) (fun h4 => ?_)
    ·(try replace h4 := xhh h4)
     exact absurd (hend.1.1 h4) (by omega)
    ·(try replace h4 := xhh h4)
     (iterate 2 ((try simp (etaStruct := .none) only [push_cast, DrawG, seval, Int.ofNat_zero, hrunS, getD_in _ _ _ hbF, i64P]); (try (refine xsu ?_; try exact xtI))))
     refine retM [35, 27, 44] rfl rfl (by decide) ⟨?_, ?_, ?_, trivial⟩ trivial ?_ <;> simp (etaStruct := .none) only [push_cast, DrawG, seval]
end Go.Proofs.YtllmjdcblfkfaaaGreat
namespace Go.Proofs.YtllmjdcblfkfaaaGreat
set_option linter.all false
open Go.RowKit
set_option maxRecDepth 100000
set_option maxHeartbeats 1000000
def dropS (l : List Sea) (T : List Nat) : List Sea := (List.range l.length).map fun i => ⟨(l.getD i default).waits.drop (T.getD i default), (lateS (l.getD i default)).late, (l.getD i default).gone⟩
theorem dropS_len (l : List Sea) (T : List Nat) : (dropS l T).length = l.length := by simp [dropS]
theorem dropS_at (l : List Sea) (T : List Nat) (i : Nat) (h : i < l.length) : (dropS l T).getD i default = ⟨(l.getD i default).waits.drop (T.getD i default), (lateS (l.getD i default)).late, (l.getD i default).gone⟩ := by
 rw [getD_at _ _ (by rw [dropS_len]; exact h)]
 simp [dropS]
theorem ext_getD {α : Type} [Inhabited α] {l m : List α} (h : l.length = m.length) (h2 : ∀ i, i < l.length → l.getD i default = m.getD i default) : l = m := by
 refine List.ext_getElem h fun i i1 i2 => ?_
 have := h2 i i1
 rwa [getD_at _ _ i1, getD_at _ _ i2] at this
theorem set_getD {α : Type} [Inhabited α] (l : List α) (i j : Nat) (x : α) (h : i < l.length) : (l.set i x).getD j default = if i = j then x else l.getD j default := by
 by_cases e : i = j
 ·subst e; rw [if_pos rfl, getD_at _ _ (by simpa using h)]; simp
 ·rw [if_neg e, List.getD_eq_getElem?_getD, List.getElem?_set_ne e, List.getD_eq_getElem?_getD]
def TkQ (most : Int) (l : List Sea) (k i : Nat) (o : List Ord) (U : List Nat) : Prop :=
 U.length = l.length ∧ o.length ≤ 100 ∧ (∀ j, j < l.length → U.getD j default ≤ (l.getD j default).waits.length) ∧
 ((o.length : Int) < most → ∀ j, j < l.length → U.getD j default = if j < i then min (k + 1) (l.getD j default).waits.length else min k (l.getD j default).waits.length)
theorem TkQ.t {most : Int} {l : List Sea} {k i : Nat} {o : List Ord} {U : List Nat} (h : TkQ most l k i o U) (hi : i < l.length) (hk : k < (l.getD i default).waits.length) (hm : (o.length : Int) < most) (hm2 : most ≤ 100) (x : Ord) :
 U.getD i default = k ∧ TkQ most l k (i + 1) (o ++ [x]) (U.set i (k + 1)) := by
 obtain ⟨h1, h2, h3, h4⟩ := h
 have e := h4 hm i hi
 rw [if_neg (by omega), Nat.min_eq_left (by omega)] at e
 refine ⟨e, by simp [h1], by simp; omega, fun j hj => ?_, fun hm' j hj => ?_⟩
 ·rw [set_getD _ _ _ _ (by omega)]
  split
  ·rename_i e'; subst e'; omega
  ·exact h3 j hj
 ·have := h4 hm j hj
  rw [set_getD _ _ _ _ (by omega)]
  by_cases e' : i = j
  ·subst e'; rw [if_pos rfl, if_pos (by omega)]; omega
  ·rw [if_neg e', this]
   by_cases e2 : j < i
   ·rw [if_pos e2, if_pos (by omega)]
   ·rw [if_neg e2, if_neg (by omega)]
theorem TkQ.f {most : Int} {l : List Sea} {k i : Nat} {o : List Ord} {U : List Nat} (h : TkQ most l k i o U) (hi : i < l.length) (hc : ¬ (k < (l.getD i default).waits.length ∧ (o.length : Int) < most)) : TkQ most l k (i + 1) o U ∧ ¬ (0 < ((dropS l U).getD i default).waits.length ∧ (o.length : Int) < most) := by
 obtain ⟨h1, h2, h3, h4⟩ := h
 refine ⟨⟨h1, h2, h3, fun hm j hj => ?_⟩, ?_⟩
 ·rw [h4 hm j hj]
  by_cases e : j = i
  ·subst e; rw [if_neg (by omega), if_pos (by omega)]; omega
  ·by_cases e2 : j < i
   ·rw [if_pos e2, if_pos (by omega)]
   ·rw [if_neg e2, if_neg (by omega)]
 ·rw [dropS_at _ _ _ hi]
  simp only [List.length_drop]
  rintro ⟨h5, h6⟩
  have := h4 h6 i hi
  rw [if_neg (by omega)] at this
  omega
theorem TkQ.next {most : Int} {l : List Sea} {k : Nat} {o : List Ord} {U : List Nat} (h : TkQ most l k l.length o U) : TkQ most l (k + 1) 0 o U := by
 obtain ⟨h1, h2, h3, h4⟩ := h
 refine ⟨h1, h2, h3, fun hm j hj => ?_⟩
 rw [h4 hm j hj, if_pos hj, if_neg (by omega)]
theorem TkQ.zero (most : Int) (l : List Sea) : TkQ most l 0 0 [] (List.replicate l.length 0) := by
 refine ⟨by simp, by simp, fun j hj => ?_, fun _ j hj => ?_⟩ <;> rw [getD_at _ _ (by simpa using hj)] <;> simp
end Go.Proofs.YtllmjdcblfkfaaaGreat
namespace Go.Proofs.YtllmjdcblfkfaaaGreat
set_option linter.all false
open Go.RowKit
set_option maxRecDepth 100000
set_option maxHeartbeats 2000000
def revK {α : Type} [Inhabited α] (k : Nat) (l : List α) : List α := (List.range l.length).map fun i => if i < k ∨ l.length - k ≤ i then l.getD (l.length - 1 - i) default else l.getD i default
theorem revK_len {α : Type} [Inhabited α] (k : Nat) (l : List α) : (revK k l).length = l.length := by simp [revK]
theorem revK_get {α : Type} [Inhabited α] (k : Nat) (l : List α) (i : Nat) (hi : i < l.length) : (revK k l).getD i default = if i < k ∨ l.length - k ≤ i then l.getD (l.length - 1 - i) default else l.getD i default := by
 rw [getD_at _ _ (by rw [revK_len]; exact hi)]; simp [revK]
theorem revK_zero {α : Type} [Inhabited α] (l : List α) : revK 0 l = l := by
 refine ext_getD (revK_len 0 l) fun i hi => ?_
 rw [revK_len] at hi
 rw [revK_get 0 l i hi, if_neg (by omega)]
theorem revK_succ {α : Type} [Inhabited α] (l : List α) (k : Nat) (h : 2 * k + 1 < l.length) : revK (k + 1) l = ((revK k l).set k ((revK k l).getD (l.length - 1 - k) default)).set (l.length - 1 - k) ((revK k l).getD k default) := by
 have hrl := revK_len k l
 refine ext_getD (by simp [revK_len]) fun i hi => ?_
 rw [revK_len] at hi
 rw [set_getD _ _ _ _ (by rw [List.length_set]; omega), set_getD _ _ _ _ (by omega), revK_get _ l i hi, revK_get k l k (by omega), revK_get k l (l.length - 1 - k) (by omega), revK_get k l i hi]
 rw [if_neg (show ¬ (l.length - 1 - k < k ∨ l.length - k ≤ l.length - 1 - k) by omega), if_neg (show ¬ (k < k ∨ l.length - k ≤ k) by omega)]
 by_cases e1 : l.length - 1 - k = i
 ·rw [if_pos e1, if_pos (by omega)]; congr 1; omega
 ·rw [if_neg e1]
  by_cases e2 : k = i
  ·rw [if_pos e2, if_pos (by omega)]; congr 1; omega
  ·rw [if_neg e2]
   by_cases e3 : i < k ∨ l.length - k ≤ i
   ·rw [if_pos e3, if_pos (by omega)]
   ·rw [if_neg e3, if_neg (by omega)]
theorem revK_end {α : Type} [Inhabited α] (l : List α) (k : Nat) (h : l.length ≤ 2 * k + 1) : revK k l = l.reverse := by
 refine ext_getD (by rw [revK_len, List.length_reverse]) fun i hi => ?_
 rw [revK_len] at hi
 rw [revK_get k l i hi, getD_at _ _ (show i < l.reverse.length by simpa using hi), List.getElem_reverse, ← getD_at l _ (show l.length - 1 - i < l.length by omega)]
 by_cases e3 : i < k ∨ l.length - k ≤ i
 ·rw [if_pos e3]
 ·rw [if_neg e3]; congr 1; omega
theorem cel_rev (l : List Cel) (hl : l.length ≤ 1000000) : Spec Tryz.prog 115 [.own 0] [.row 68 2 (l.map celP)] (.tup []) [.row 68 2 (l.reverse.map celP)] := by
 refine spec_am Tryz.func115 rfl rfl mix 28 rfl [] Tryz.results115 (Nat.le_of_ble_eq_true rfl) ?_
 (try (refine xst ?_; try exact xtI))
 refine loopI (fun k : Nat => ⟨[(3, I .i64 ((l.length : Int) - 1 - k)), (2, I .i64 k), (0, .own 0)], [(0, .row 68 2 ((revK k l).map celP))], 1⟩) (fun k : Nat => 2 * k ≤ l.length) (fun k : Nat => l.length - k) (0) (Nat.zero_le _) (To.mk [0] rfl rfl (by decide) ?_ ?_) ?_
 ·simp (etaStruct := .none) only [push_cast, DrawG, seval, revK_zero]
 ·(iterate 2 ((try simp (etaStruct := .none) only [push_cast, DrawG, seval, Int.ofNat_zero, Int.sub_zero]); (try (refine xsu ?_; try exact xtI))))
 rintro k hk
 have hrl := revK_len k l
 (try (refine xst ?_; try exact xtI))
 refine cond_i (fun h1 => ?_) (fun h1 => ?_)
 ·(try replace h1 := xhh h1)
  obtain ⟨j, hj⟩ : ∃ j : Nat, (l.length : Int) - 1 - k = (j : Int) := Int.eq_ofNat_of_zero_le (by omega)
  have hjn : j = l.length - 1 - k := by omega
  have hs := revK_succ l k (by omega)
  rw [← hjn] at hs
  have hk1 : k < (revK k l).length := by omega
  have hj1 : j < (revK k l).length := by omega
  have hj2 : j < ((revK k l).set k ((revK k l).getD j default)).length := by rw [List.length_set]; omega
  (iterate 2 ((try simp (etaStruct := .none) only [push_cast, DrawG, seval, hj, getD_in _ _ _ hk1, getD_in _ _ _ hj1, celP, List.length_set]); (try (refine xsu ?_; try exact xtI))))
  (try (refine ⟨by kernel_rfl, ?_⟩))
  (iterate 2 ((try simp (etaStruct := .none) only [push_cast, DrawG, seval, hj, getD_in _ _ _ hk1, getD_in _ _ _ hj1, celP, List.length_set]); (try (refine xsu ?_; try exact xtI))))
  refine ⟨k + 1, by omega, by omega, To.mk [0] rfl rfl (by decide) ?_ ?_⟩
  ·(iterate 2 ((try simp (etaStruct := .none) only [push_cast, DrawG, seval, hs, List.map_set, celP]); (try (refine xsu ?_; try exact xtI))))
  ·have e1 : (j : Int) - 1 = (l.length : Int) - 1 - ((k : Int) + 1) := by omega
   (iterate 2 ((try simp (etaStruct := .none) only [push_cast, DrawG, seval, e1]); (try (refine xsu ?_; try exact xtI))))
 ·(try replace h1 := xhh h1)
  have hr := revK_end l k (by omega)
  (try (refine xst ?_; try exact xtI))
  refine retM [0] rfl rfl (by decide) ⟨?_, trivial⟩ trivial ?_ <;> simp (etaStruct := .none) only [push_cast, DrawG, seval, hr]
def wayD (R : List Int) (f : Fld) (a b : Cel) : Int := if wayE R f a b = 0 then R.getD (idxN f b) default else 0
theorem wayE_cases (R : List Int) (f : Fld) (a b : Cel) : (wayE R f a b ≠ 0 ∧ (fldE f ≠ 0 ∨ ¬ (inF f a = true ∧ inF f b = true) ∨ placeV f a = 1 ∨ placeV f b = 1)) ∨ (fldE f = 0 ∧ inF f a = true ∧ inF f b = true ∧ placeV f a ≠ 1 ∧ placeV f b ≠ 1 ∧ ((wayE R f a b = 6 ∧ R.getD (idxN f b) default < 0) ∨ (wayE R f a b = 0 ∧ 0 ≤ R.getD (idxN f b) default))) := by
 unfold wayE
 by_cases h1 : fldE f = 0
 ·rw [if_neg (by simp [h1])]
  by_cases h2 : inF f a = true ∧ inF f b = true
  ·rw [if_neg (fun h => h h2)]
   by_cases h3 : placeV f a = 1 ∨ placeV f b = 1
   ·rw [if_pos h3]; exact .inl ⟨by decide, .inr (.inr h3)⟩
   ·rw [if_neg h3]
    refine .inr ⟨h1, h2.1, h2.2, fun h => h3 (.inl h), fun h => h3 (.inr h), ?_⟩
    by_cases h4 : R.getD (idxN f b) default < 0
    ·rw [if_pos h4]; exact .inl ⟨rfl, h4⟩
    ·rw [if_neg h4]; exact .inr ⟨rfl, by omega⟩
  ·rw [if_pos h2]; exact .inl ⟨by decide, .inr (.inl h2)⟩
 ·rw [if_pos h1]; exact .inl ⟨h1, .inl h1⟩
def PP (f : Fld) (far : List Int) (c n : Cel) : Prop := (costC f n).2 = true ∧ 0 ≤ far.getD (idxN f n) default ∧ far.getD (idxN f n) default + kV (placeV f c) = far.getD (idxN f c) default
instance (f : Fld) (far : List Int) (c n : Cel) : Decidable (PP f far c n) := by unfold PP; infer_instance
section
variable {f : Fld} {a b c : Cel} {R : List Int} {W H : Nat}
theorem way_cost (s : Srch f a b R W H) (hf : fldE f = 0) (hpa : placeV f a ≠ 1) (hc : inF f c = true) (h0 : 0 ≤ R.getD (idxN f c) default) : costC f c = (kV (placeV f c), true) := by
 have epl : placeV f c = f.p.getD (idxN f c) default := rfl
 have : placeV f c ≠ 1 := by
  rw [epl]
  rcases s.r.why _ (in_celW s.w s.h s.w0 hf hc).2 h0 with ⟨w1, _⟩ | ⟨_, _, _, hr, _⟩
  ·rw [List.mem_singleton] at w1; rw [w1]; exact hpa
  ·exact hr
 unfold costC
 rw [if_pos hc, if_neg this]
theorem pp_iff (s : Srch f a b R W H) (hf : fldE f = 0) (ha : inF f a = true) (hb : inF f b = true) (hpa : placeV f a ≠ 1) (hc : inF f c = true) (h0 : 0 ≤ R.getD (idxN f c) default) (hb0 : 0 ≤ R.getD (idxN f b) default) (hcb : R.getD (idxN f c) default + leftH b c ≤ R.getD (idxN f b) default) (hfc : (runS f a b).1.getD (idxN f c) default = R.getD (idxN f c) default) {n : Cel} (hn : n ∈ sidesC c) :
 PP f (runS f a b).1 c n ↔ (inF f n = true ∧ nxtP R f c n = true) :=
 prog_ok s.w s.h s.w0 hf s.l s.r ha hpa hc h0 s.ass hcb ((s.end hf ha hb).2 hb0).2 hfc hn
theorem pp_found (s : Srch f a b R W H) (hf : fldE f = 0) (ha : inF f a = true) (hb : inF f b = true) (hpa : placeV f a ≠ 1) (hc : inF f c = true) (h0 : 0 ≤ R.getD (idxN f c) default) (hb0 : 0 ≤ R.getD (idxN f b) default) (hcb : R.getD (idxN f c) default + leftH b c ≤ R.getD (idxN f b) default) (hfc : (runS f a b).1.getD (idxN f c) default = R.getD (idxN f c) default)
 {k : Nat} (hk : k < 4) (hn : ∀ i, i < k → ¬ PP f (runS f a b).1 c ((sidesC c).getD i default)) (hp : PP f (runS f a b).1 c ((sidesC c).getD k default)) : (sidesC c).getD k default = nxtC R f c := by
 have h4 : (sidesC c).length = 4 := rfl
 have e1 : (sidesC c).find? (fun n => decide (PP f (runS f a b).1 c n)) = some ((sidesC c).getD k default) := by
  rw [List.find?_eq_some_iff_getElem]
  refine ⟨by simpa using hp, k, by omega, (getD_at _ _ (by omega)).symm, fun j hj => ?_⟩
  have := hn j hj
  rw [getD_at _ _ (by omega)] at this
  simpa using this
 have e2 := find_sides (f := f) (R := R) (c := c) (p := fun n => decide (PP f (runS f a b).1 c n)) fun n hn => by
  have := pp_iff s hf ha hb hpa hc h0 hb0 hcb hfc hn
  rw [Bool.eq_iff_iff, decide_eq_true_eq, Bool.and_eq_true]; exact this
 rw [e1] at e2
 unfold nxtC
 rw [← e2]; rfl
theorem pp_ex (s : Srch f a b R W H) (hf : fldE f = 0) (ha : inF f a = true) (hb : inF f b = true) (hpa : placeV f a ≠ 1) (hc : inF f c = true) (h0 : 0 ≤ R.getD (idxN f c) default) (hb0 : 0 ≤ R.getD (idxN f b) default) (hcb : R.getD (idxN f c) default + leftH b c ≤ R.getD (idxN f b) default) (hfc : (runS f a b).1.getD (idxN f c) default = R.getD (idxN f c) default)
 (hca : c ≠ a) (hn : ∀ i, i < 4 → ¬ PP f (runS f a b).1 c ((sidesC c).getD i default)) : False := by
 obtain ⟨_, hm, hin, _, h1, h2⟩ := nxt_ok s.w s.h s.w0 hf s.l s.r ha hc hca h0
 have hms := (List.mem_filter.1 hm).1
 obtain ⟨i, hi, e⟩ := mem_getD.1 hms
 refine hn i hi ?_
 rw [← e] at hms
 rw [pp_iff s hf ha hb hpa hc h0 hb0 hcb hfc hms, e]
 exact ⟨hin, by unfold nxtP; rw [Bool.and_eq_true, decide_eq_true_eq, decide_eq_true_eq]; exact ⟨h1, h2⟩⟩
theorem nxt_step (s : Srch f a b R W H) (hf : fldE f = 0) (ha : inF f a = true) (hb : inF f b = true) (hc : inF f c = true) (h0 : 0 ≤ R.getD (idxN f c) default) (hb0 : 0 ≤ R.getD (idxN f b) default) (hcb : R.getD (idxN f c) default + leftH b c ≤ R.getD (idxN f b) default) (hca : c ≠ a) :
 inF f (nxtC R f c) = true ∧ 0 ≤ R.getD (idxN f (nxtC R f c)) default ∧ R.getD (idxN f (nxtC R f c)) default + 2 ≤ R.getD (idxN f c) default ∧ R.getD (idxN f (nxtC R f c)) default + leftH b (nxtC R f c) ≤ R.getD (idxN f b) default ∧ (runS f a b).1.getD (idxN f (nxtC R f c)) default = R.getD (idxN f (nxtC R f c)) default := by
 obtain ⟨_, hm, hin, hadj, h1, h2⟩ := nxt_ok s.w s.h s.w0 hf s.l s.r ha hc hca h0
 have hkv := kV_b (placeV f c)
 have hcons := hh_cons s.w s.h s.w0 b
 rw [← s.l] at hcons
 obtain ⟨en, hnL⟩ := in_celW s.w s.h s.w0 hf hin
 obtain ⟨ec, hcL⟩ := in_celW s.w s.h s.w0 hf hc
 have hle := hcons _ _ hnL hcL hadj.symm
 simp only at hle
 rw [← en, ← ec] at hle
 refine ⟨hin, h1, by omega, by omega, ?_⟩
 exact s.ass.known hcons (in_celW s.w s.h s.w0 hf ha).2 s.r hnL h1 (fun x hx => by have := ((s.end hf ha hb).2 hb0).2 x hx; rw [← en]; omega)
theorem runS_b (s : Srch f a b R W H) (hl : f.p.length ≤ 1600) (p : Nat) (hp : p < f.p.length) : -1 ≤ (runS f a b).1.getD p default ∧ (runS f a b).1.getD p default ≤ 4800 := by
 have h1 := s.ass.low p hp
 have h2 := s.ass.top p hp
 have h3 := sumL_le one0 1 one0_le (runS f a b).1
 rw [s.ass.len] at h3
 omega
end
theorem cel_ne {c a : Cel} : ¬ (c.x = a.x ∧ c.y = a.y) ↔ c ≠ a := by
 obtain ⟨x, y⟩ := c; obtain ⟨u, v⟩ := a; simp
theorem pfind_s (f : Fld) (a b : Cel) (hl : f.p.length ≤ 9223372036854775807) (R : List Int) (hR : FloodIs f [a] R) : Spec Tryz.prog 131 [fldA f, celA a, celA b] [] (.tup [.c (.sl 2 ((if wayE R f a b = 0 then wayV R f a b else []).map celP)), I .i64 (wayD R f a b), I .i64 (wayE R f a b)]) [] := by
 rcases wayE_cases R f a b with ⟨hE, hbad⟩ | ⟨hf, ha, hb, hpa, hpb, ⟨hE, h0⟩ | ⟨hE, h0⟩⟩
 ·have e : wayD R f a b = 0 := if_neg hE
  rw [if_neg hE]
  refine spec_am Tryz.func131 rfl rfl mix 107 rfl [.tmp 6, .tmp 7, .tmp 8] Tryz.results131 (Nat.le_of_ble_eq_true rfl) ?_
  (try (refine xst ?_; try exact xtI))
  refine caP (searched_no f a b hl hbad R) ?_
  (try (refine xst ?_; try exact xtI))
  refine cond_i (fun h1 => ?_) (fun h1 => ?_)
  ·(try replace h1 := xhh h1)
   skip
   (try (refine xst ?_; try exact xtI))
   (first | (refine retA rfl (Wk.of ?_); (try simp (etaStruct := .none) only [push_cast, DrawG, seval]); first | done | (simp [e, *]; done) | (simp_all [e]; done)) | (refine retA rfl ?_; (try simp (etaStruct := .none) only [push_cast, DrawG, seval]); (try simp [e, *]); (try exact wkc)))
  ·(try replace h1 := xhh h1)
   exact absurd h1 hE
 ·have e : wayD R f a b = 0 := if_neg (by rw [hE]; decide)
  rw [e, hE, if_neg (by decide)]
  refine spec_am Tryz.func131 rfl rfl mix 107 rfl [.tmp 6, .tmp 7, .tmp 8] Tryz.results131 (Nat.le_of_ble_eq_true rfl) ?_
  (try (refine xst ?_; try exact xtI))
  refine caP (searched_six f a b hl hf ha hb hpa hpb hR h0) ?_
  (try (refine xst ?_; try exact xtI))
  refine cond_i (fun h1 => ?_) (fun h1 => ?_)
  ·(try replace h1 := xhh h1)
   (try (refine xst ?_; try exact xtI))
   exact xrz rfl
  ·(try replace h1 := xhh h1)
   exact absurd h1 (by decide)
 ·have e : wayD R f a b = R.getD (idxN f b) default := if_pos hE
  obtain ⟨W, H, s⟩ := srch (b := b) hf ha hpa hR
  have hend := (s.end hf ha hb).2 h0
  have hbF : idxN f b < (runS f a b).1.length := by rw [s.ass.len]; exact (in_celW s.w s.h s.w0 hf hb).2
  have hpx := place_ix hf ha
  rw [e, hE, if_pos rfl]
  refine spec_am Tryz.func131 rfl rfl mix 107 rfl [.tmp 6, .tmp 7, .tmp 8] Tryz.results131 (Nat.le_of_ble_eq_true rfl) ?_
  (iterate 2 ((try simp (etaStruct := .none) only [push_cast, seval]); (try (refine xsu ?_; try exact xtI))))
  refine caM [] (searched_ok f a b hl hf ha hb hpa hpb hR h0) ?_
  (iterate 2 ((try simp (etaStruct := .none) only [push_cast, seval]); (try (refine xsu ?_; try exact xtI))))
  refine cond_i (fun h1 => ?_) (fun h1 => ?_)
  ·(try replace h1 := xhh h1)
   exact absurd h1 (by decide)
  ·(try replace h1 := xhh h1)
   (iterate 2 ((try simp (etaStruct := .none) only [push_cast, seval]); (try (refine xsu ?_; try exact xtI))))
   refine loopI (fun x : Nat × Cel × List Cel => ⟨[(12, .ptr 5 0 0), (11, .own 6), (9, .ptr 0 0 0), (5, .ptr 4 0 0), (4, .ptr 3 0 0)], [(0, srB f b (.own 1) (.own 2)), (1, .row 3 1 ((runS f a b).1.map i64P)), (2, .row 225 4 ((runS f a b).2.map nodP)), (3, .blk 68 [I .i64 a.x, I .i64 a.y]), (4, .blk 68 [I .i64 b.x, I .i64 b.y]), (5, .blk 68 [I .i64 x.2.1.x, I .i64 x.2.1.y]), (6, .row 68 2 (x.2.2.map celP))], 7⟩) (fun x : Nat × Cel × List Cel => inF f x.2.1 = true ∧ 0 ≤ R.getD (idxN f x.2.1) default ∧ R.getD (idxN f x.2.1) default ≤ x.1 ∧ (runS f a b).1.getD (idxN f x.2.1) default = R.getD (idxN f x.2.1) default ∧ R.getD (idxN f x.2.1) default + leftH b x.2.1 ≤ R.getD (idxN f b) default ∧ x.2.2 ++ wayL R f a x.1 x.2.1 = b :: wayL R f a (R.getD (idxN f b) default).toNat b ∧ x.2.2.length + x.1 ≤ 4801) (fun x : Nat × Cel × List Cel => x.1) (((R.getD (idxN f b) default).toNat, b, [b])) (⟨hb, h0, by simp only; omega, hend.1, by simp only [leftH]; omega, rfl, by have := (runS_b s hpx.2.2.2.2 _ (show idxN f b < f.p.length by rw [← s.ass.len]; exact hbF)).2; rw [hend.1] at this; simp only [List.length_singleton]; omega⟩) (To.mk [3, 4, 5, 1, 2, 7, 6] rfl rfl (by decide) ?_ ?_) ?_
   ·(iterate 2 ((try simp (etaStruct := .none) only [push_cast, DrawG, seval, srB, celP]); (try (refine xsu ?_; try exact xtI))))
   ·simp (etaStruct := .none) only [push_cast, DrawG, seval]
   rintro ⟨N, c, out⟩ ⟨hc, hc0, hcN, hfc, hcb, hway, hlen⟩
   simp only at hc hc0 hcN hfc hcb hway hlen
   (iterate 2 ((try simp (etaStruct := .none) only [push_cast, seval]); (try (refine xsu ?_; try exact xtI))))
   refine cond_i (fun h2 => ?_) (fun h2 => ?_)
   ·(try replace h2 := xhh h2)
    have hca : c ≠ a := cel_ne.1 (fun h => by rcases h2 with h2 | h2; exact h2 h.1; exact h2 h.2)
    have hwc := way_cost s hf hpa hc hc0
    have hci := inF_iff.1 hc
    have hfo := fldE_ok hf
    have hkv := kV_b (placeV f c)
    have hcF : idxN f c < (runS f a b).1.length := by rw [s.ass.len]; exact (in_celW s.w s.h s.w0 hf hc).2
    obtain ⟨n1, n2, n3, n4, n5⟩ := nxt_step s hf ha hb hc hc0 h0 hcb hca
    obtain ⟨M, rfl⟩ : ∃ M, N = M + 1 := ⟨N - 1, by omega⟩
    (iterate 2 ((try simp (etaStruct := .none) only [push_cast, seval]); (try (refine xsu ?_; try exact xtI))))
    refine callB (pcost_s f b (runS f a b).1 (runS f a b).2 c hf) (WkL.refl _) rfl ?_
    rw [hwc]
    (iterate 2 ((try simp (etaStruct := .none) only [push_cast, seval]); (try (refine xsu ?_; try exact xtI))))
    refine caP (psides_s c (by omega) (by omega)) ?_
    (iterate 2 ((try simp (etaStruct := .none) only [push_cast, seval]); (try (refine xsu ?_; try exact xtI))))
    refine loopI (fun k : Nat => ⟨[(43, I .i64 k), (42, .agg [I .i64 c.x, I .i64 (c.y - 1), I .i64 (c.x - 1), I .i64 c.y, I .i64 (c.x + 1), I .i64 c.y, I .i64 c.x, I .i64 (c.y + 1)]), (13, I .i64 (kV (placeV f c))), (12, .ptr 5 0 0), (11, .own 6), (9, .ptr 0 0 0), (5, .ptr 4 0 0), (4, .ptr 3 0 0)], [(0, srB f b (.own 1) (.own 2)), (1, .row 3 1 ((runS f a b).1.map i64P)), (2, .row 225 4 ((runS f a b).2.map nodP)), (3, .blk 68 [I .i64 a.x, I .i64 a.y]), (4, .blk 68 [I .i64 b.x, I .i64 b.y]), (5, .blk 68 [I .i64 c.x, I .i64 c.y]), (6, .row 68 2 (out.map celP))], 7⟩) (fun k : Nat => k ≤ 4 ∧ ∀ i, i < k → ¬ PP f (runS f a b).1 c ((sidesC c).getD i default)) (fun k : Nat => 4 - k) (0) (⟨Nat.zero_le _, fun i h => absurd h (Nat.not_lt_zero _)⟩) (To.mk [0, 1, 2, 3, 4, 5, 6] rfl rfl (by decide) ?_ ?_) ?_
    ·simp (etaStruct := .none) only [push_cast, DrawG, seval]
    ·simp (etaStruct := .none) only [push_cast, DrawG, seval]
    rintro k ⟨hk, hno⟩
    (iterate 2 ((try simp (etaStruct := .none) only [push_cast, seval]); (try (refine xsu ?_; try exact xtI))))
    refine cond_i (fun h3 => ?_) (fun h3 => ?_)
    ·(try replace h3 := xhh h3)
     have hlt : k < 4 := by omega
     have hsc := sides_cells c k hlt
     have hgG : idxG f ((sidesC c).getD k default) < (runS f a b).1.length := by rw [s.ass.len]; exact idxG_lt hf _
     have hbG := runS_b s hpx.2.2.2.2 (idxG f ((sidesC c).getD k default)) (by rw [← s.ass.len]; exact hgG)
     (iterate 2 ((try simp (etaStruct := .none) only [push_cast, seval, hsc, getD_in _ _ _ hgG, getD_in _ _ _ hcF, i64P]); (try (refine xsu ?_; try exact xtI))))
     refine callB (pcost_s f b (runS f a b).1 (runS f a b).2 ((sidesC c).getD k default) hf) (WkL.refl _) rfl ?_
     (iterate 2 ((try simp (etaStruct := .none) only [push_cast, seval, hsc, getD_in _ _ _ hgG, getD_in _ _ _ hcF, i64P]); (try (refine xsu ?_; try exact xtI))))
     refine drawG_w [some 52, some 53, some 54, some 55, some 56, some 57, some 58, some 59, some 60, some 61, some 62, some 63, some 64, some 65, some 66, some 67, some 68, some 69, some 70, some 71, some 72, some 73, some 74, some 75, some 76, some 77, some 78, some 79, some 80, some 81, some 82, some 83, some 84, some 85, some 86, some 87] rfl ?_
     intro Oq lq Rq hlq hdq hRq
     subst hlq
     iterate 8 (refine peelD fun rq hrq => ?_; (iterate 2 ((try simp (etaStruct := .none) only [push_cast, seval, hdq, id, hsc, getD_in _ _ _ hgG, getD_in _ _ _ hcF, i64P]); (try (refine xsu ?_; try exact xtI)))); subst hrq)
     refine peelD fun rq hrq => ?_
     (iterate 2 ((try simp (etaStruct := .none) only [push_cast, seval, hdq, id, hsc, getD_in _ _ _ hgG, getD_in _ _ _ hcF, i64P]); (try (refine xsu ?_; try exact xtI))))
     refine gcallB (fun hcc => pindexG_s f b (runS f a b).1 (runS f a b).2 ((sidesC c).getD k default) hf hcc) (WkL.refl _) rfl (by intro hc; (try simp (etaStruct := .none) only [push_cast, DrawG, seval]); (try simp_all)) ?_
     (iterate 2 ((try simp (etaStruct := .none) only [push_cast, seval, hdq, id, hsc, getD_in _ _ _ hgG, getD_in _ _ _ hcF, i64P]); (try (refine xsu ?_; try exact xtI))))
     subst hrq
     iterate 11 (refine peelD fun rq hrq => ?_; (iterate 2 ((try simp (etaStruct := .none) only [push_cast, seval, hdq, id, hsc, getD_in _ _ _ hgG, getD_in _ _ _ hcF, i64P]); (try (refine xsu ?_; try exact xtI)))); subst hrq)
     refine peelD fun rq hrq => ?_
     (iterate 2 ((try simp (etaStruct := .none) only [push_cast, seval, hdq, id, hsc, getD_in _ _ _ hgG, getD_in _ _ _ hcF, i64P]); (try (refine xsu ?_; try exact xtI))))
     refine gcallB (fun hcc => pindexG_s f b (runS f a b).1 (runS f a b).2 ((sidesC c).getD k default) hf (by simp only [Bool.and_eq_true] at hcc; exact hcc.1)) (WkL.refl _) rfl (by intro hc; (try simp (etaStruct := .none) only [push_cast, DrawG, seval]); (try simp_all)) ?_
     (iterate 2 ((try simp (etaStruct := .none) only [push_cast, seval, hdq, id, hsc, getD_in _ _ _ hgG, getD_in _ _ _ hcF, i64P]); (try (refine xsu ?_; try exact xtI))))
     subst hrq
     iterate 10 (refine peelD fun rq hrq => ?_; (iterate 2 ((try simp (etaStruct := .none) only [push_cast, seval, hdq, id, hsc, getD_in _ _ _ hgG, getD_in _ _ _ hcF, i64P]); (try (refine xsu ?_; try exact xtI)))); subst hrq)
     refine peelD fun rq hrq => ?_
     (iterate 2 ((try simp (etaStruct := .none) only [push_cast, seval, hdq, id, hsc, getD_in _ _ _ hgG, getD_in _ _ _ hcF, i64P]); (try (refine xsu ?_; try exact xtI))))
     refine gcallB (fun hcc => pindex_s f b (runS f a b).1 (runS f a b).2 c hf hc) (WkL.refl _) rfl (by intro hc; (try simp (etaStruct := .none) only [push_cast, DrawG, seval]); (try simp_all)) ?_
     (iterate 2 ((try simp (etaStruct := .none) only [push_cast, seval, hdq, id, hsc, getD_in _ _ _ hgG, getD_in _ _ _ hcF, i64P]); (try (refine xsu ?_; try exact xtI))))
     subst hrq
     iterate 4 (refine peelD fun rq hrq => ?_; (iterate 2 ((try simp (etaStruct := .none) only [push_cast, seval, hdq, id, hsc, getD_in _ _ _ hgG, getD_in _ _ _ hcF, i64P]); (try (refine xsu ?_; try exact xtI)))); subst hrq)
     refine endD ?_
     subst hRq
     clear hdq Oq
     refine endE (by kernel_rfl) ?_
     (iterate 2 ((try simp (etaStruct := .none) only [push_cast, seval, hsc, getD_in _ _ _ hgG, getD_in _ _ _ hcF, i64P]); (try (refine xsu ?_; try exact xtI))))
     refine cond_i (fun h4 => ?_) (fun h4 => ?_)
     ·(try replace h4 := xhh h4)
      have hin2 : inF f ((sidesC c).getD k default) = true := by
       cases hi : inF f ((sidesC c).getD k default) with
       | true => rfl
       | false => have := h4.1.1; unfold costC at this; rw [hi] at this; simp at this
      have hPP : PP f (runS f a b).1 c ((sidesC c).getD k default) := ⟨h4.1.1, by rw [← idxG_in hin2]; exact h4.1.2, by rw [← idxG_in hin2]; exact h4.2⟩
      have hnk := pp_found s hf ha hb hpa hc hc0 h0 hcb hfc hlt hno hPP
      rw [wayL, if_neg hca] at hway
      (iterate 2 ((try simp (etaStruct := .none) only [push_cast, seval, hsc, getD_in _ _ _ hgG, getD_in _ _ _ hcF, i64P, hnk]); (try (refine xsu ?_; try exact xtI))))
      refine ⟨(M, nxtC R f c, out ++ [nxtC R f c]), ⟨n1, n2, by simp only; omega, n5, n4, by simp only; rw [List.append_assoc]; exact hway, by simp only [List.length_append, List.length_singleton]; omega⟩, by simp only; omega, To.mk [0, 1, 2, 3, 4, 154, 153] rfl rfl (by decide) ?_ ?_⟩
      ·(iterate 2 ((try simp (etaStruct := .none) only [push_cast, DrawG, seval, List.map_append, celP]); (try (refine xsu ?_; try exact xtI))))
      ·(iterate 2 ((try simp (etaStruct := .none) only [push_cast, seval, hsc, getD_in _ _ _ hgG, getD_in _ _ _ hcF, i64P, hnk]); (try (refine xsu ?_; try exact xtI))))
     ·(try replace h4 := xhh h4)
      have hno2 : ∀ i, i < k + 1 → ¬ PP f (runS f a b).1 c ((sidesC c).getD i default) := fun i hi => by
       rcases Nat.lt_or_ge i k with h | h
       ·exact hno i h
       ·obtain rfl : i = k := by omega
        rintro ⟨p1, p2, p3⟩
        have hin2 : inF f ((sidesC c).getD i default) = true := by
         cases hi : inF f ((sidesC c).getD i default) with
         | true => rfl
         | false => unfold costC at p1; rw [hi] at p1; simp at p1
        rw [← idxG_in hin2] at p2 p3
        rcases h4 with (h4 | h4) | h4
        ·rw [p1] at h4; exact absurd h4 (by decide)
        ·omega
        ·exact h4 p3
      (iterate 2 ((try simp (etaStruct := .none) only [push_cast, seval, hsc, getD_in _ _ _ hgG, getD_in _ _ _ hcF, i64P]); (try (refine xsu ?_; try exact xtI))))
      refine ⟨k + 1, ⟨by omega, hno2⟩, by omega, To.mk [0, 1, 2, 3, 4, 5, 6] rfl rfl (by decide) ?_ ?_⟩
      ·(iterate 2 ((try simp (etaStruct := .none) only [push_cast, seval, hsc, getD_in _ _ _ hgG, getD_in _ _ _ hcF, i64P]); (try (refine xsu ?_; try exact xtI))))
      ·(iterate 2 ((try simp (etaStruct := .none) (maxSteps := 1000000) only [push_cast, DrawG, seval]); (try (refine xsu ?_; try exact xtI))))
    ·(try replace h3 := xhh h3)
     obtain rfl : k = 4 := by omega
     exact (pp_ex s hf ha hb hpa hc hc0 h0 hcb hfc hca hno).elim
   ·(try replace h2 := xhh h2)
    have hca : c = a := Decidable.byContradiction fun h => cel_ne.2 h h2
    have hout : out = b :: wayL R f a (R.getD (idxN f b) default).toNat b := by
     have e0 : wayL R f a N c = [] := by
      cases N with
      | zero => rfl
      | succ N => rw [wayL, if_pos hca]
     rw [← hway, e0, List.append_nil]
    have hov : out.reverse = wayV R f a b := by unfold wayV; rw [hout]
    (iterate 2 ((try simp (etaStruct := .none) only [push_cast, seval, getD_in _ _ _ hbF, i64P, hend.1, hov]); (try (refine xsu ?_; try exact xtI))))
    refine caM [6] (cel_rev out (by omega)) ?_
    (iterate 2 ((try simp (etaStruct := .none) only [push_cast, seval, getD_in _ _ _ hbF, i64P, hend.1, hov]); (try (refine xsu ?_; try exact xtI))))
    refine drawG_w [some 97, some 98, some 99, some 100, some 101, some 102, some 103, some 104, some 105, some 106, some 6, some 7, some 8] rfl ?_
    intro Oq lq Rq hlq hdq hRq
    subst hlq
    iterate 7 (refine peelD fun rq hrq => ?_; (iterate 2 ((try simp (etaStruct := .none) only [push_cast, seval, hdq, id, getD_in _ _ _ hbF, i64P, hend.1, hov]); (try (refine xsu ?_; try exact xtI)))); subst hrq)
    refine peelD fun rq hrq => ?_
    (iterate 2 ((try simp (etaStruct := .none) only [push_cast, seval, hdq, id, getD_in _ _ _ hbF, i64P, hend.1, hov]); (try (refine xsu ?_; try exact xtI))))
    refine callB (pindex_s f b (runS f a b).1 (runS f a b).2 b hf hb) (WkL.refl _) rfl ?_
    (iterate 2 ((try simp (etaStruct := .none) only [push_cast, seval, hdq, id, getD_in _ _ _ hbF, i64P, hend.1, hov]); (try (refine xsu ?_; try exact xtI))))
    subst hrq
    iterate 5 (refine peelD fun rq hrq => ?_; (iterate 2 ((try simp (etaStruct := .none) only [push_cast, seval, hdq, id, getD_in _ _ _ hbF, i64P, hend.1, hov]); (try (refine xsu ?_; try exact xtI)))); subst hrq)
    refine endD ?_
    subst hRq
    clear hdq Oq
    refine endE (by kernel_rfl) ?_
    (iterate 2 ((try simp (etaStruct := .none) only [push_cast, seval, getD_in _ _ _ hbF, i64P, hend.1, hov]); (try (refine xsu ?_; try exact xtI))))
    exact xrz rfl
theorem wat_s (f : Fld) (R : List Int) (n : Cel) (hf : fldE f = 0) (hn : inF f n = true) (hR : idxN f n < R.length) : Spec Tryz.prog 110 [celA n, .fel 1 [[.sl 1 (R.map i64P)]] 0 0, .fel 3 [[pI f.w, pI f.h, .sl 1 (f.p.map i64P)]] 0 0] [] (I .i64 (R.getD (idxN f n) default)) [] := by
 obtain ⟨i1, i2, i3, i4, i5⟩ := place_ix hf hn
 have hci := inF_iff.1 hn
 have e1 : IntKind.i64.wrap (IntKind.i64.wrap (n.y * f.w) + n.x) = (idxN f n : Int) := by rw [wrap_in (n.y * f.w) (by omega) (by omega), wrap_in _ (by omega) (by omega)]; unfold idxN; omega
 refine spec_am Tryz.func110 rfl rfl mix 16 rfl [.tmp 4] Tryz.results110 (Nat.le_of_ble_eq_true rfl) ?_
 (iterate 2 ((try simp (etaStruct := .none) only [push_cast, DrawG, seval, e1, getD_in _ _ _ hR, i64P]); (try (refine xsu ?_; try exact xtI))))
 exact xrz rfl
abbrev watH (f : Fld) (R : List Int) (c : Cel) : List Chunk := [.blk 169 [.clo (.func 110) [] [.ptr 1 0 0, .ptr 2 0 0]], .blk 22 [.c (.sl 1 (R.map i64P))], .blk 24 (fldC f), .blk 68 [I .i64 c.x, I .i64 c.y]]
theorem wnx_s (f : Fld) (R : List Int) (c n : Cel) (hf : fldE f = 0) (hn : inF f n = true) (hc : inF f c = true) (hr : placeV f c ≠ 1) (hR : R.length = f.p.length) (hb : -1 ≤ R.getD (idxN f n) default ∧ R.getD (idxN f n) default ≤ 4800) : Spec Tryz.prog 113 [celA n, .ptr 0 0 0, .ptr 2 0 0, .ptr 3 0 0] (watH f R c) (B (nxtP R f c n)) (watH f R c) := by
 have hnF : idxN f n < R.length := by rw [hR]; have := place_ix hf hn; unfold idxN; omega
 have hcF : idxN f c < R.length := by rw [hR]; have := place_ix hf hc; unfold idxN; omega
 have hkv := kV_b (placeV f c)
 have hpl := (fldE_ok hf).2.2.2 (placeV f c) (getD_mem f.p _ (show (c.y * f.w + c.x).toNat < f.p.length by have := place_ix hf hc; omega))
 have hcost : (if placeV f c = 1 then (-1 : Int) else kV (placeV f c)) = kV (placeV f c) := if_neg hr
 refine spec_am Tryz.func113 rfl rfl mix 24 rfl [.tmp 5] Tryz.results113 (Nat.le_of_ble_eq_true rfl) ?_
 (iterate 2 ((try simp (etaStruct := .none) only [push_cast, seval, hcost]); (try (refine xsu ?_; try exact xtI))))
 refine drawG_w [some 6, some 7, some 8, some 9, some 10, some 11, some 12, some 13, some 14, some 15, some 16, some 17, some 18, some 19, some 20, some 21, some 22, some 23, some 5] rfl ?_
 intro Oq lq Rq hlq hdq hRq
 subst hlq
 iterate 2 (refine peelD fun rq hrq => ?_; (iterate 2 ((try simp (etaStruct := .none) only [push_cast, seval, hdq, id, hcost]); (try (refine xsu ?_; try exact xtI)))); subst hrq)
 refine peelD fun rq hrq => ?_
 (iterate 2 ((try simp (etaStruct := .none) only [push_cast, seval, hdq, id, hcost]); (try (refine xsu ?_; try exact xtI))))
 refine callB (wat_s f R n hf hn hnF) (WkL.refl _) rfl ?_
 (iterate 2 ((try simp (etaStruct := .none) only [push_cast, seval, hdq, id, hcost]); (try (refine xsu ?_; try exact xtI))))
 subst hrq
 iterate 4 (refine peelD fun rq hrq => ?_; (iterate 2 ((try simp (etaStruct := .none) only [push_cast, seval, hdq, id, hcost]); (try (refine xsu ?_; try exact xtI)))); subst hrq)
 refine peelD fun rq hrq => ?_
 (iterate 2 ((try simp (etaStruct := .none) only [push_cast, seval, hdq, id, hcost]); (try (refine xsu ?_; try exact xtI))))
 refine gcallB (fun hcc => wat_s f R n hf hn hnF) (WkL.refl _) rfl (by intro hc; (try simp (etaStruct := .none) only [push_cast, DrawG, seval]); (try simp_all)) ?_
 (iterate 2 ((try simp (etaStruct := .none) only [push_cast, seval, hdq, id, hcost]); (try (refine xsu ?_; try exact xtI))))
 subst hrq
 iterate 2 (refine peelD fun rq hrq => ?_; (iterate 2 ((try simp (etaStruct := .none) only [push_cast, seval, hdq, id, hcost]); (try (refine xsu ?_; try exact xtI)))); subst hrq)
 refine peelD fun rq hrq => ?_
 (iterate 2 ((try simp (etaStruct := .none) only [push_cast, seval, hdq, id, hcost]); (try (refine xsu ?_; try exact xtI))))
 refine gcP (fun hcc => place_s f c hf hc) ?_
 (iterate 2 ((try simp (etaStruct := .none) only [push_cast, seval, hdq, id, hcost]); (try (refine xsu ?_; try exact xtI))))
 subst hrq
 refine peelD fun rq hrq => ?_
 (iterate 2 ((try simp (etaStruct := .none) only [push_cast, seval, hdq, id, hcost]); (try (refine xsu ?_; try exact xtI))))
 refine gcP (fun hcc => costOf_s (placeV f c) hpl) ?_
 (iterate 2 ((try simp (etaStruct := .none) only [push_cast, seval, hdq, id, hcost]); (try (refine xsu ?_; try exact xtI))))
 subst hrq
 iterate 3 (refine peelD fun rq hrq => ?_; (iterate 2 ((try simp (etaStruct := .none) only [push_cast, seval, hdq, id, hcost]); (try (refine xsu ?_; try exact xtI)))); subst hrq)
 refine peelD fun rq hrq => ?_
 (iterate 2 ((try simp (etaStruct := .none) only [push_cast, seval, hdq, id, hcost]); (try (refine xsu ?_; try exact xtI))))
 refine gcallB (fun hcc => wat_s f R c hf hc hcF) (WkL.refl _) rfl (by intro hc; (try simp (etaStruct := .none) only [push_cast, DrawG, seval]); (try simp_all)) ?_
 (iterate 2 ((try simp (etaStruct := .none) only [push_cast, seval, hdq, id, hcost]); (try (refine xsu ?_; try exact xtI))))
 subst hrq
 iterate 3 (refine peelD fun rq hrq => ?_; (iterate 2 ((try simp (etaStruct := .none) only [push_cast, seval, hdq, id, hcost]); (try (refine xsu ?_; try exact xtI)))); subst hrq)
 refine endD ?_
 subst hRq
 clear hdq Oq
 refine endE (by kernel_rfl) ?_
 (iterate 2 ((try simp (etaStruct := .none) only [push_cast, seval, hcost]); (try (refine xsu ?_; try exact xtI))))
 refine retM [0, 1, 2, 3] rfl rfl (by decide) ⟨?_, ?_, ?_, ?_, trivial⟩ trivial ?_ <;> simp (etaStruct := .none) only [push_cast, DrawG, seval, nxtP]
theorem wix_s (f : Fld) (R : List Int) (c : Cel) (l : List Cel) (hl : l.length ≤ 1000) (hf : fldE f = 0) (hc : inF f c = true) (hr : placeV f c ≠ 1) (hR : R.length = f.p.length) (hn : ∀ n ∈ l, inF f n = true ∧ -1 ≤ R.getD (idxN f n) default ∧ R.getD (idxN f n) default ≤ 4800) : Spec Tryz.prog 112 [.c (.sl 2 (l.map celP)), .clo (.func 113) [] [.ptr 0 0 0, .ptr 2 0 0, .ptr 3 0 0]] (watH f R c) (I .i64 (ixOf (nxtP R f c) l)) (watH f R c) := by
 refine spec_am Tryz.func112 rfl rfl mix 19 rfl [.tmp 4] Tryz.results112 (Nat.le_of_ble_eq_true rfl) ?_
 (try (refine xst ?_; try exact xtI))
 refine loopI (fun k : Nat => ⟨[(8, I .i64 k), (7, I .i64 l.length), (1, .clo (.func 113) [] [.ptr 0 0 0, .ptr 2 0 0, .ptr 3 0 0]), (0, .c (.sl 2 (l.map celP)))], [(0, .blk 169 [.clo (.func 110) [] [.ptr 1 0 0, .ptr 2 0 0]]), (1, .blk 22 [.c (.sl 1 (R.map i64P))]), (2, .blk 24 (fldC f)), (3, .blk 68 [I .i64 c.x, I .i64 c.y])], 4⟩) (fun k : Nat => k ≤ l.length ∧ ∀ j (hj : j < l.length), j < k → nxtP R f c l[j] = false) (fun k : Nat => l.length - k) (0) (⟨Nat.zero_le _, fun j _ h => absurd h (Nat.not_lt_zero _)⟩) (To.mk [0, 1, 2, 3] rfl rfl (by decide) ?_ ?_) ?_
 ·simp (etaStruct := .none) only [push_cast, DrawG, seval]
 ·simp (etaStruct := .none) only [push_cast, DrawG, seval]
 rintro k ⟨hk, hno⟩
 (try (refine xst ?_; try exact xtI))
 refine cond_i (fun h1 => ?_) (fun h1 => ?_)
 ·(try replace h1 := xhh h1)
  have hlt : k < l.length := by omega
  have hnk := hn _ (getD_mem l k hlt)
  (iterate 2 ((try simp (etaStruct := .none) only [push_cast, DrawG, seval, getD_in _ _ _ hlt, celP]); (try (refine xsu ?_; try exact xtI))))
  refine caM [0, 1, 2, 3] (wnx_s f R c (l.getD k default) hf hnk.1 hc hr hR hnk.2) ?_
  (iterate 2 ((try simp (etaStruct := .none) only [push_cast, DrawG, seval, getD_in _ _ _ hlt, celP]); (try (refine xsu ?_; try exact xtI))))
  refine cond_i (fun h2 => ?_) (fun h2 => ?_)
  ·(try replace h2 := xhh h2)
   have e := ixOf_hit (nxtP R f c) l k hlt (by rw [← getD_at l k hlt]; exact h2) hno
   rw [e]
   (iterate 2 ((try simp (etaStruct := .none) only [push_cast, DrawG, seval, getD_in _ _ _ hlt, celP]); (try (refine xsu ?_; try exact xtI))))
   refine retM [0, 1, 2, 3] rfl rfl (by decide) ⟨?_, ?_, ?_, ?_, trivial⟩ trivial ?_ <;> simp (etaStruct := .none) only [push_cast, DrawG, seval]
  ·(try replace h2 := xhh h2)
   have hno2 : ∀ j (hj : j < l.length), j < k + 1 → nxtP R f c l[j] = false := fun j hj h => by
    rcases Nat.lt_or_ge j k with h3 | h3
    ·exact hno j hj h3
    ·obtain rfl : j = k := by omega
     rw [← getD_at l j hj]; exact h2
   (iterate 2 ((try simp (etaStruct := .none) only [push_cast, DrawG, seval, getD_in _ _ _ hlt, celP]); (try (refine xsu ?_; try exact xtI))))
   refine ⟨k + 1, ⟨by omega, hno2⟩, by omega, To.mk [0, 1, 2, 3] rfl rfl (by decide) ?_ ?_⟩
   ·(iterate 2 ((try simp (etaStruct := .none) only [push_cast, DrawG, seval, getD_in _ _ _ hlt, celP]); (try (refine xsu ?_; try exact xtI))))
   ·(iterate 2 ((try simp (etaStruct := .none) only [push_cast, DrawG, seval, getD_in _ _ _ hlt, celP]); (try (refine xsu ?_; try exact xtI))))
 ·(try replace h1 := xhh h1)
  have e := ixOf_miss (nxtP R f c) l (fun j hj => hno j hj (by omega))
  rw [e]
  (try (refine xst ?_; try exact xtI))
  refine retM [0, 1, 2, 3] rfl rfl (by decide) ⟨?_, ?_, ?_, ?_, trivial⟩ trivial ?_ <;> simp (etaStruct := .none) only [push_cast, DrawG, seval]
theorem ix_find {α : Type} [Inhabited α] {p : α → Bool} {l : List α} {x : α} (h : l.find? p = some x) : ∃ i : Nat, ixOf p l = (i : Int) ∧ i < l.length ∧ l.getD i default = x := by
 rw [List.find?_eq_some_iff_getElem] at h
 obtain ⟨h1, i, hi, rfl, h2⟩ := h
 exact ⟨i, ixOf_hit p l i hi h1 (fun j hj hji => by simpa using h2 j hji), hi, getD_at _ _ hi⟩
theorem R_bound {f : Fld} {a : Cel} {R : List Int} (hf : fldE f = 0) (ha : inF f a = true) (hpa : placeV f a ≠ 1) (hR : FloodIs f [a] R) {n : Cel} (hn : inF f n = true) : -1 ≤ R.getD (idxN f n) default ∧ R.getD (idxN f n) default ≤ 4800 := by
 obtain ⟨W, H, s⟩ := srch (b := n) hf ha hpa hR
 have hnL := (in_celW s.w s.h s.w0 hf hn).2
 have h1 := s.r.low _ hnL
 refine ⟨h1, ?_⟩
 rcases Int.lt_or_le (R.getD (idxN f n) default) 0 with h | h
 ·omega
 ·have h2 := ((s.end hf ha hn).2 h).1
  have h3 := (runS_b s (place_ix hf ha).2.2.2.2 _ hnL).2
  omega
theorem wayOf_s (f : Fld) (a b : Cel) (hl : f.p.length ≤ 9223372036854775807) (R : List Int) (hR : FloodIs f [a] R) : Spec Tryz.prog 79 [fldA f, celA a, celA b] [] (.tup [.c (.sl 2 ((if wayE R f a b = 0 then wayV R f a b else []).map celP)), I .i64 (wayD R f a b), I .i64 (wayE R f a b)]) [] := by
 have hE6 : fldE f ≠ 0 → wayE R f a b = fldE f := fun h => by unfold wayE; rw [if_pos h]
 refine spec_am Tryz.func79 rfl rfl mix 79 rfl [.tmp 6, .tmp 7, .tmp 8] Tryz.results79 (Nat.le_of_ble_eq_true rfl) ?_
 (try (refine xst ?_; try exact xtI))
 refine caP (fright_s f hl) ?_
 (try (refine xst ?_; try exact xtI))
 refine cond_i (fun h1 => ?_) (fun h1 => ?_)
 ·(try replace h1 := xhh h1)
  have e := hE6 h1
  have e2 : wayD R f a b = 0 := by unfold wayD; rw [if_neg (by rw [e]; exact h1)]
  have e3 : (if wayE R f a b = 0 then wayV R f a b else []) = [] := if_neg (by rw [e]; exact h1)
  rw [e3, e2, e]
  (try (refine xst ?_; try exact xtI))
  exact xrz rfl
 ·(try replace h1 := xhh h1)
  have hf := h1
  (try (refine xst ?_; try exact xtI))
  refine caP (in_s' f a hf) ?_
  (try (refine xst ?_; try exact xtI))
  refine gcP (fun hcc => in_s' f b hf) ?_
  (try (refine xst ?_; try exact xtI))
  refine cond_i (fun h2 => ?_) (fun h2 => ?_)
  ·(try replace h2 := xhh h2)
   have e : wayE R f a b = 7 := by
    unfold wayE
    rw [if_neg (by simp [hf]), if_pos]
    rintro ⟨k1, k2⟩
    rw [k1, k2] at h2
    simp at h2
   have e2 : wayD R f a b = 0 := by unfold wayD; rw [if_neg (by rw [e]; decide)]
   have e3 : (if wayE R f a b = 0 then wayV R f a b else []) = [] := if_neg (by rw [e]; decide)
   rw [e3, e2, e]
   (try (refine xst ?_; try exact xtI))
   exact xrz rfl
  ·(try replace h2 := xhh h2)
   obtain ⟨ha, hb⟩ : inF f a = true ∧ inF f b = true := by simpa using h2
   (try (refine xst ?_; try exact xtI))
   refine caP (place_s f a hf ha) ?_
   (try (refine xst ?_; try exact xtI))
   refine gcP (fun hcc => place_s f b hf hb) ?_
   (try (refine xst ?_; try exact xtI))
   refine cond_i (fun h3 => ?_) (fun h3 => ?_)
   ·(try replace h3 := xhh h3)
    have e : wayE R f a b = 9 := by
     unfold wayE
     rw [if_neg (by simp [hf]), if_neg (fun h => h ⟨ha, hb⟩), if_pos h3]
    have e2 : wayD R f a b = 0 := by unfold wayD; rw [if_neg (by rw [e]; decide)]
    have e3 : (if wayE R f a b = 0 then wayV R f a b else []) = [] := if_neg (by rw [e]; decide)
    rw [e3, e2, e]
    (try (refine xst ?_; try exact xtI))
    exact xrz rfl
   ·(try replace h3 := xhh h3)
    obtain ⟨hpa, hpb⟩ := h3
    have hRl : ∃ W H, Srch f a b R W H := srch hf ha hpa hR
    obtain ⟨W, H, s⟩ := hRl
    have hbF : idxN f b < R.length := by rw [s.r.len]; exact (in_celW s.w s.h s.w0 hf hb).2
    have hpx := place_ix hf ha
    (try (refine xst ?_; try exact xtI))
    refine callM [3] (Spec.hand 0 (floods_s f [a] R hR hl (by simp)) (Nat.zero_le _) rfl (by exact WkL.refl _) rfl) (WkL.refl _) rfl (by decide) (by simp [lookC_c]) ?_
    (try (refine xst ?_; try exact xtI))
    refine callB (wat_s f R b hf hb hbF) (WkL.refl _) rfl ?_
    (try (refine xst ?_; try exact xtI))
    refine cond_i (fun h4 => ?_) (fun h4 => ?_)
    ·(try replace h4 := xhh h4)
     have e : wayE R f a b = 6 := by
      unfold wayE
      rw [if_neg (by simp [hf]), if_neg (fun h => h ⟨ha, hb⟩), if_neg (fun h => by rcases h with h | h; exact hpa h; exact hpb h), if_pos h4]
     have e2 : wayD R f a b = 0 := by unfold wayD; rw [if_neg (by rw [e]; decide)]
     have e3 : (if wayE R f a b = 0 then wayV R f a b else []) = [] := if_neg (by rw [e]; decide)
     rw [e3, e2, e]
     (try (refine xst ?_; try exact xtI))
     exact xrz rfl
    ·(try replace h4 := xhh h4)
     have hE : wayE R f a b = 0 := by
      unfold wayE
      rw [if_neg (by simp [hf]), if_neg (fun h => h ⟨ha, hb⟩), if_neg (fun h => by rcases h with h | h; exact hpa h; exact hpb h), if_neg (by omega)]
     have e2 : wayD R f a b = R.getD (idxN f b) default := if_pos hE
     rw [e2, hE, if_pos rfl]
     have hRb := R_bound hf ha hpa hR hb
     (try (refine xst ?_; try exact xtI))
     refine loopI (fun x : Nat × Cel × List Cel => ⟨[(14, .ptr 5 0 0), (13, .own 6), (12, .ptr 0 0 0), (5, .ptr 4 0 0), (4, .ptr 3 0 0), (3, .ptr 2 0 0)], [(0, .blk 169 [.clo (.func 110) [] [.ptr 1 0 0, .ptr 2 0 0]]), (1, .blk 22 [.c (.sl 1 (R.map i64P))]), (2, .blk 24 (fldC f)), (3, .blk 68 [I .i64 a.x, I .i64 a.y]), (4, .blk 68 [I .i64 b.x, I .i64 b.y]), (5, .blk 68 [I .i64 x.2.1.x, I .i64 x.2.1.y]), (6, .row 68 2 (x.2.2.map celP))], 7⟩) (fun x : Nat × Cel × List Cel => inF f x.2.1 = true ∧ 0 ≤ R.getD (idxN f x.2.1) default ∧ R.getD (idxN f x.2.1) default ≤ x.1 ∧ x.2.2 ++ wayL R f a x.1 x.2.1 = b :: wayL R f a (R.getD (idxN f b) default).toNat b ∧ x.2.2.length + x.1 ≤ 4801) (fun x : Nat × Cel × List Cel => x.1) (((R.getD (idxN f b) default).toNat, b, [b])) (⟨hb, by simp only; omega, by simp only; omega, rfl, by simp only [List.length_singleton]; omega⟩) (To.mk [5, 4, 0, 1, 2, 7, 6] rfl rfl (by decide) ?_ ?_) ?_
     ·(iterate 2 ((try simp (etaStruct := .none) only [push_cast, DrawG, seval, celP]); (try (refine xsu ?_; try exact xtI))))
     ·simp (etaStruct := .none) only [push_cast, DrawG, seval]
     rintro ⟨N, c, out⟩ ⟨hc, hc0, hcN, hway, hlen⟩
     simp only at hc hc0 hcN hway hlen
     (try (refine xst ?_; try exact xtI))
     refine cond_i (fun h5 => ?_) (fun h5 => ?_)
     ·(try replace h5 := xhh h5)
      have hca : c ≠ a := cel_ne.1 (fun h => by rcases h5 with h5 | h5; exact h5 h.1; exact h5 h.2)
      have hci := inF_iff.1 hc
      have hfo := fldE_ok hf
      have hwc := way_cost s hf hpa hc hc0
      have hrk : placeV f c ≠ 1 := fun h => by unfold costC at hwc; rw [if_pos hc, if_pos h] at hwc; simp at hwc
      obtain ⟨g1, g2, g3, g4, g5, g6⟩ := nxt_ok s.w s.h s.w0 hf s.l s.r ha hc hca hc0
      have hkv := kV_b (placeV f c)
      obtain ⟨M, rfl⟩ : ∃ M, N = M + 1 := ⟨N - 1, by omega⟩
      obtain ⟨ix, hix, hixl, hixe⟩ := ix_find g1
      rw [wayL, if_neg hca] at hway
      (iterate 2 ((try simp (etaStruct := .none) only [push_cast, DrawG, seval, hix, getD_in _ _ _ hixl, hixe, celP]); (try (refine xsu ?_; try exact xtI))))
      refine caP (besides_s f c hf (by omega) (by omega)) ?_
      (iterate 2 ((try simp (etaStruct := .none) only [push_cast, DrawG, seval, hix, getD_in _ _ _ hixl, hixe, celP]); (try (refine xsu ?_; try exact xtI))))
      refine caM [0, 1, 2, 5] (wix_s f R c (besideC f c) (by have := List.length_filter_le (inF f) (sidesC c); rw [show (sidesC c).length = 4 from rfl] at this; unfold besideC; omega) hf hc hrk s.r.len (fun n hn => by have h1 := (List.mem_filter.1 hn).2; exact ⟨h1, R_bound hf ha hpa hR h1⟩)) ?_
      (iterate 2 ((try simp (etaStruct := .none) only [push_cast, DrawG, seval, hix, getD_in _ _ _ hixl, hixe, celP]); (try (refine xsu ?_; try exact xtI))))
      refine ⟨(M, nxtC R f c, out ++ [nxtC R f c]), ⟨g3, g5, by simp only; omega, by simp only; rw [List.append_assoc]; exact hway, by simp only [List.length_append, List.length_singleton]; omega⟩, by simp only; omega, To.mk [0, 1, 2, 3, 4, 7, 9] rfl rfl (by decide) ?_ ?_⟩
      ·(iterate 2 ((try simp (etaStruct := .none) only [push_cast, DrawG, seval, List.map_append, celP]); (try (refine xsu ?_; try exact xtI))))
      ·(iterate 2 ((try simp (etaStruct := .none) only [push_cast, DrawG, seval, hix, getD_in _ _ _ hixl, hixe, celP]); (try (refine xsu ?_; try exact xtI))))
     ·(try replace h5 := xhh h5)
      have hca : c = a := Decidable.byContradiction fun h => cel_ne.2 h h5
      have hout : out = b :: wayL R f a (R.getD (idxN f b) default).toNat b := by
       have e0 : wayL R f a N c = [] := by
        cases N with
        | zero => rfl
        | succ N => rw [wayL, if_pos hca]
       rw [← hway, e0, List.append_nil]
      have hov : out.reverse = wayV R f a b := by unfold wayV; rw [hout]
      (iterate 2 ((try simp (etaStruct := .none) only [push_cast, DrawG, seval, hov]); (try (refine xsu ?_; try exact xtI))))
      refine caM [6] (cel_rev out (by omega)) ?_
      (iterate 2 ((try simp (etaStruct := .none) only [push_cast, DrawG, seval, hov]); (try (refine xsu ?_; try exact xtI))))
      refine callB (wat_s f R b hf hb hbF) (WkL.refl _) rfl ?_
      (iterate 2 ((try simp (etaStruct := .none) only [push_cast, DrawG, seval, hov]); (try (refine xsu ?_; try exact xtI))))
      exact xrz rfl
end Go.Proofs.YtllmjdcblfkfaaaGreat
namespace Go.Proofs.YtllmjdcblfkfaaaGreat
set_option linter.all false
open Go.RowKit
set_option maxRecDepth 100000
def wayW (f : Fld) (WR : Cel → List Int) (a b : Cel) : List Cel := if wayE (WR a) f a b = 0 then wayV (WR a) f a b else []
theorem wr_ex (f : Fld) : ∃ WR : Cel → List Int, ∀ a, FloodIs f [a] (WR a) := ⟨fun a => Classical.choose (flood_is f [a]), fun a => Classical.choose_spec (flood_is f [a])⟩
def findG (l : List Gop) (i : Int) : Option Gop := l.find? fun g => decide (g.id = i)
def setC (t : Trp) (c : Cel) : Trp := { t with c := c }
def stepT (f : Fld) (WR : Cel → List Int) (l : List Gop) (ts : List Trp) (t : Trp) : Option Cel := match findG l t.id with
 | none => none
 | some g => if (wayW f WR t.c g.to).length < 2 ∨ (ts.any fun o => decide (o.c = (wayW f WR t.c g.to).getD 1 default)) = true then none else some ((wayW f WR t.c g.to).getD 1 default)
def marchS (f : Fld) (WR : Cel → List Int) (l : List Gop) (s : List Trp × List Int) (i : Nat) : List Trp × List Int := match stepT f WR l s.1 (s.1.getD i default) with
 | none => s
 | some c => (s.1.set i (setC (s.1.getD i default) c), s.2 ++ [(s.1.getD i default).id])
def marchK (f : Fld) (WR : Cel → List Int) (l : List Gop) (ts : List Trp) (k : Nat) : List Trp × List Int := (List.range k).foldl (marchS f WR l) (ts, [])
theorem marchK_zero (f : Fld) (WR : Cel → List Int) (l : List Gop) (ts : List Trp) : marchK f WR l ts 0 = (ts, []) := rfl
theorem marchK_succ (f : Fld) (WR : Cel → List Int) (l : List Gop) (ts : List Trp) (k : Nat) : marchK f WR l ts (k + 1) = marchS f WR l (marchK f WR l ts k) k := by
 unfold marchK; rw [List.range_succ, List.foldl_append]; rfl
theorem marchS_len (f : Fld) (WR : Cel → List Int) (l : List Gop) (s : List Trp × List Int) (i : Nat) : (marchS f WR l s i).1.length = s.1.length ∧ (marchS f WR l s i).2.length ≤ s.2.length + 1 := by
 unfold marchS
 split
 ·exact ⟨rfl, by omega⟩
 ·simp
theorem marchK_len (f : Fld) (WR : Cel → List Int) (l : List Gop) (ts : List Trp) : ∀ k, (marchK f WR l ts k).1.length = ts.length ∧ (marchK f WR l ts k).2.length ≤ k
 | 0 => ⟨rfl, Nat.le_refl _⟩
 | k + 1 => by
  rw [marchK_succ]
  have h1 := marchK_len f WR l ts k
  have h2 := marchS_len f WR l (marchK f WR l ts k) k
  omega
def marchV (f : Fld) (WR : Cel → List Int) (l : List Gop) (ts : List Trp) : List Trp × List Int := marchK f WR l ts ts.length
def cntC (c : Cel) : List Trp → Nat
 | [] => 0
 | t :: r => (if t.c = c then 1 else 0) + cntC c r
theorem cntC_le (c : Cel) : ∀ l, cntC c l ≤ l.length
 | [] => Nat.le_refl _
 | t :: r => by have := cntC_le c r; rw [cntC, List.length_cons]; split <;> omega
theorem cntC_append (c : Cel) (m : List Trp) : ∀ l, cntC c (l ++ m) = cntC c l + cntC c m
 | [] => by simp [cntC]
 | t :: r => by rw [List.cons_append, cntC, cntC, cntC_append c m r]; omega
theorem cntC_set (c : Cel) (t : Trp) : ∀ (l : List Trp) (i : Nat), i < l.length → cntC c (l.set i t) + (if (l.getD i default).c = c then 1 else 0) = cntC c l + (if t.c = c then 1 else 0)
 | [], i, h => by simp at h
 | a :: r, 0, _ => by rw [List.set_cons_zero, cntC, cntC, List.getD_cons_zero]; omega
 | a :: r, i + 1, h => by
  have := cntC_set c t r i (by simpa using h)
  rw [List.set_cons_succ, cntC, cntC, List.getD_cons_succ]; omega
theorem cntC_pos (c : Cel) : ∀ l : List Trp, 0 < cntC c l ↔ (l.any fun o => decide (o.c = c)) = true
 | [] => by simp [cntC]
 | t :: r => by
  rw [cntC, List.any_cons]
  have := cntC_pos c r
  by_cases h : t.c = c
  ·simp [h]; omega
  ·simp only [h, if_false, decide_false, Bool.false_or, Nat.zero_add]; exact this
def CntM (ts : List Trp) (es : List (List Int × Int)) : Prop := ∀ x y : Int, mget [x, y] es = (cntC ⟨x, y⟩ ts : Int)
theorem CntM.add {ts : List Trp} {es : List (List Int × Int)} (h : CntM ts es) (t : Trp) : CntM (ts ++ [t]) (mput [t.c.x, t.c.y] (mget [t.c.x, t.c.y] es + 1) es) := by
 intro x y
 rw [mget_put_if, cntC_append, cntC, cntC]
 obtain ⟨i, o, kd, ⟨cx, cy⟩, li, lo⟩ := t
 simp only
 by_cases e : x = cx ∧ y = cy
 ·obtain ⟨rfl, rfl⟩ := e
  rw [if_pos rfl, if_pos rfl, h]; omega
 ·rw [if_neg (by simpa using e), if_neg (fun he => e (by cases he; exact ⟨rfl, rfl⟩)), h]; omega
theorem CntM.move {ts : List Trp} {es : List (List Int × Int)} (h : CntM ts es) {i : Nat} (hi : i < ts.length) (c : Cel) :
 CntM (ts.set i (setC (ts.getD i default) c)) (mput [c.x, c.y] (mget [c.x, c.y] (mput [(ts.getD i default).c.x, (ts.getD i default).c.y] (mget [(ts.getD i default).c.x, (ts.getD i default).c.y] es - 1) es) + 1) (mput [(ts.getD i default).c.x, (ts.getD i default).c.y] (mget [(ts.getD i default).c.x, (ts.getD i default).c.y] es - 1) es)) := by
 intro x y
 have hs := cntC_set ⟨x, y⟩ (setC (ts.getD i default) c) ts i hi
 obtain ⟨cx, cy⟩ := c
 have e2 : (setC (ts.getD i default) ⟨cx, cy⟩).c = ⟨cx, cy⟩ := rfl
 rw [e2] at hs
 rcases ho : (ts.getD i default).c with ⟨ox, oy⟩
 rw [ho] at hs
 simp only at hs ⊢
 have k1 : (([x, y] : List Int) = [cx, cy]) = ((⟨cx, cy⟩ : Cel) = ⟨x, y⟩) := by
  apply propext; constructor <;> intro h <;> cases h <;> rfl
 have k2 : (([x, y] : List Int) = [ox, oy]) = ((⟨ox, oy⟩ : Cel) = ⟨x, y⟩) := by
  apply propext; constructor <;> intro h <;> cases h <;> rfl
 have k3 : (([cx, cy] : List Int) = [ox, oy]) = ((⟨ox, oy⟩ : Cel) = ⟨cx, cy⟩) := by
  apply propext; constructor <;> intro h <;> cases h <;> rfl
 have h' : ∀ x y : Int, mget [x, y] es = (cntC ⟨x, y⟩ ts : Int) := h
 rw [mget_put_if, mget_put_if, mget_put_if]
 simp only [k1, k2, k3, h']
 by_cases a1 : (⟨cx, cy⟩ : Cel) = ⟨x, y⟩
 ·have e3 : x = cx ∧ y = cy := by cases a1; exact ⟨rfl, rfl⟩
  obtain ⟨rfl, rfl⟩ := e3
  rw [if_pos rfl] at hs ⊢
  by_cases a2 : (⟨ox, oy⟩ : Cel) = ⟨x, y⟩
  ·have e4 : ox = x ∧ oy = y := by cases a2; exact ⟨rfl, rfl⟩
   obtain ⟨rfl, rfl⟩ := e4
   rw [if_pos rfl] at hs ⊢; omega
  ·rw [if_neg a2] at hs
   rw [if_neg a2]; omega
 ·rw [if_neg a1] at hs ⊢
  by_cases a2 : (⟨ox, oy⟩ : Cel) = ⟨x, y⟩
  ·have e4 : ox = x ∧ oy = y := by cases a2; exact ⟨rfl, rfl⟩
   obtain ⟨rfl, rfl⟩ := e4
   rw [if_pos rfl] at hs ⊢; omega
  ·rw [if_neg a2] at hs ⊢; omega
end Go.Proofs.YtllmjdcblfkfaaaGreat
namespace Go.Proofs.YtllmjdcblfkfaaaGreat
set_option linter.all false
open Go.RowKit
set_option maxRecDepth 100000
set_option maxHeartbeats 2000000
abbrev gopA (g : Gop) : AV := .agg [I .i64 g.id, I .i64 g.to.x, I .i64 g.to.y]
def gidP (t : Trp) (g : Gop) : Bool := decide (g.id = t.id)
theorem mgid_s (ts : List Trp) (i : Nat) (hi : i < ts.length) (g : Gop) : Spec Tryz.prog 130 [gopA g, .ptr 0 0 0] [.blk 185 [.ptr 1 i 0], .row 83 7 (ts.map trpP)] (B (gidP (ts.getD i default) g)) [.blk 185 [.ptr 1 i 0], .row 83 7 (ts.map trpP)] := by
 refine spec_am Tryz.func130 rfl rfl mix 11 rfl [.tmp 3] Tryz.results130 (Nat.le_of_ble_eq_true rfl) ?_
 (iterate 2 ((try simp (etaStruct := .none) only [push_cast, DrawG, seval, getD_in _ _ _ hi, trpP]); (try (refine xsu ?_; try exact xtI))))
 (try (refine ⟨by kernel_rfl, ?_⟩))
 (iterate 2 ((try simp (etaStruct := .none) only [push_cast, DrawG, seval, getD_in _ _ _ hi, trpP]); (try (refine xsu ?_; try exact xtI))))
 refine retM [0, 1] rfl rfl (by decide) ⟨?_, ?_, trivial⟩ trivial ?_ <;> simp (etaStruct := .none) only [push_cast, DrawG, seval, gidP]
theorem gid_ix (ts : List Trp) (i : Nat) (hi : i < ts.length)(l : List Gop) (hl : l.length ≤ 1000000) : Spec Tryz.prog 129 [.c (.sl 3 (l.map gopP)), .clo (.func 130) [] [.ptr 0 0 0]] ([.blk 185 [.ptr 1 i 0], .row 83 7 (ts.map trpP)]) (I .i64 (ixOf (gidP (ts.getD i default)) l)) ([.blk 185 [.ptr 1 i 0], .row 83 7 (ts.map trpP)]) := by
 refine spec_am Tryz.func129 rfl rfl mix 19 rfl [.tmp 4] Tryz.results129 (Nat.le_of_ble_eq_true rfl) ?_
 (try (refine xst ?_; try exact xtI))
 refine loopI (fun k : Nat => ⟨[(8, I .i64 k), (7, I .i64 l.length), (1, .clo (.func 130) [] [.ptr 0 0 0]), (0, .c (.sl 3 (l.map gopP)))], [(0, .blk 185 [.ptr 1 i 0]), (1, .row 83 7 (ts.map trpP))], 2⟩) (fun k : Nat => k ≤ l.length ∧ ∀ j (hj : j < l.length), j < k → (gidP (ts.getD i default)) l[j] = false) (fun k : Nat => l.length - k) (0) (⟨Nat.zero_le _, fun j _ h => absurd h (Nat.not_lt_zero _)⟩) (To.mk [0, 1] rfl rfl (by decide) ?_ ?_) ?_
 ·simp (etaStruct := .none) only [push_cast, DrawG, seval]
 ·simp (etaStruct := .none) only [push_cast, DrawG, seval]
 rintro k ⟨hk, hno⟩
 (try (refine xst ?_; try exact xtI))
 refine cond_i (fun h1 => ?_) (fun h1 => ?_)
 ·(try replace h1 := xhh h1)
  have hlt : k < l.length := by omega
  (iterate 2 ((try simp (etaStruct := .none) only [push_cast, DrawG, seval, getD_in _ _ _ hlt, gopP]); (try (refine xsu ?_; try exact xtI))))
  refine caM [0, 1] (mgid_s ts i hi (l.getD k default)) ?_
  (iterate 2 ((try simp (etaStruct := .none) only [push_cast, DrawG, seval, getD_in _ _ _ hlt, gopP]); (try (refine xsu ?_; try exact xtI))))
  refine cond_i (fun h2 => ?_) (fun h2 => ?_)
  ·(try replace h2 := xhh h2)
   have e := ixOf_hit (gidP (ts.getD i default)) l k hlt (by rw [← getD_at l k hlt]; exact h2) hno
   rw [e]
   (iterate 2 ((try simp (etaStruct := .none) only [push_cast, DrawG, seval, getD_in _ _ _ hlt, gopP]); (try (refine xsu ?_; try exact xtI))))
   refine retM [0, 1] rfl rfl (by decide) ⟨?_, ?_, trivial⟩ trivial ?_ <;> simp (etaStruct := .none) only [push_cast, DrawG, seval]
  ·(try replace h2 := xhh h2)
   have hno2 : ∀ j (hj : j < l.length), j < k + 1 → (gidP (ts.getD i default)) l[j] = false := fun j hj h => by
    rcases Nat.lt_or_ge j k with h3 | h3
    ·exact hno j hj h3
    ·obtain rfl : j = k := by omega
     rw [← getD_at l j hj]; exact h2
   (iterate 2 ((try simp (etaStruct := .none) only [push_cast, DrawG, seval, getD_in _ _ _ hlt, gopP]); (try (refine xsu ?_; try exact xtI))))
   refine ⟨k + 1, ⟨by omega, hno2⟩, by omega, To.mk [0, 1] rfl rfl (by decide) ?_ ?_⟩
   ·(iterate 2 ((try simp (etaStruct := .none) only [push_cast, DrawG, seval, getD_in _ _ _ hlt, gopP]); (try (refine xsu ?_; try exact xtI))))
   ·(iterate 2 ((try simp (etaStruct := .none) only [push_cast, DrawG, seval, getD_in _ _ _ hlt, gopP]); (try (refine xsu ?_; try exact xtI))))
 ·(try replace h1 := xhh h1)
  have e := ixOf_miss (gidP (ts.getD i default)) l (fun j hj => hno j hj (by omega))
  rw [e]
  (try (refine xst ?_; try exact xtI))
  refine retM [0, 1] rfl rfl (by decide) ⟨?_, ?_, trivial⟩ trivial ?_ <;> simp (etaStruct := .none) only [push_cast, DrawG, seval]
theorem findG_ix {l : List Gop} {t : Trp} : (findG l t.id = none ∧ ixOf (gidP t) l = -1) ∨ ∃ (g : Gop) (j : Nat), findG l t.id = some g ∧ ixOf (gidP t) l = (j : Int) ∧ j < l.length ∧ l.getD j default = g := by
 cases h : findG l t.id with
 | none =>
  refine .inl ⟨rfl, ?_⟩
  unfold findG at h
  refine ixOf_miss _ l fun j hj => ?_
  have := List.find?_eq_none.1 h _ (List.getElem_mem hj)
  unfold gidP; simpa using this
 | some g =>
  unfold findG at h
  obtain ⟨j, h1, h2, h3⟩ := ix_find (p := gidP t) (l := l) (x := g) h
  exact .inr ⟨g, j, rfl, h1, h2, h3⟩
theorem marchS_none {f : Fld} {WR : Cel → List Int} {l : List Gop} {s : List Trp × List Int} {i : Nat} (h : stepT f WR l s.1 (s.1.getD i default) = none) : marchS f WR l s i = s := by unfold marchS; rw [h]
theorem marchS_some {f : Fld} {WR : Cel → List Int} {l : List Gop} {s : List Trp × List Int} {i : Nat} {c : Cel} (h : stepT f WR l s.1 (s.1.getD i default) = some c) : marchS f WR l s i = (s.1.set i (setC (s.1.getD i default) c), s.2 ++ [(s.1.getD i default).id]) := by unfold marchS; rw [h]
theorem stepT_some {f : Fld} {WR : Cel → List Int} {l : List Gop} {ts : List Trp} {t : Trp} {g : Gop} (h : findG l t.id = some g) : stepT f WR l ts t = if (wayW f WR t.c g.to).length < 2 ∨ (ts.any fun o => decide (o.c = (wayW f WR t.c g.to).getD 1 default)) = true then none else some ((wayW f WR t.c g.to).getD 1 default) := by unfold stepT; rw [h]
theorem mstep_s (w : Wld) (l : List Gop) (WR : Cel → List Int) (hWR : ∀ a, FloodIs w.f [a] (WR a)) (hl : w.f.p.length ≤ 9223372036854775807) (hll : l.length ≤ 1000) (hnt : w.troops.length ≤ 100) : Spec Tryz.prog 96 [.agg [I .i64 w.f.w, I .i64 w.f.h, .c (.sl 1 (w.f.p.map i64P)), .c (.sl 2 (w.bases.map celP)), .c (.sl 1 (w.stocks.map i64P)), .c (.sl 1 (w.mines.map i64P)), .own 0, I .i64 w.next, I .i64 w.now], .c (.sl 3 (l.map gopP))] [.row 83 7 (w.troops.map trpP)]
 (.c (.sl 1 ((marchV w.f WR l w.troops).2.map i64P))) [.row 83 7 ((marchV w.f WR l w.troops).1.map trpP)] := by
 refine spec_am Tryz.func96 rfl rfl mix 110 rfl [.tmp 4] Tryz.results96 (Nat.le_of_ble_eq_true rfl) ?_
 (iterate 2 ((try simp (etaStruct := .none) only [push_cast, seval, mput_def]); (try (refine xsu ?_; try exact xtI))))
 refine loopI (fun x : Nat × List (List Int × Int) => ⟨[(19, I .i64 x.1), (18, I .i64 w.troops.length), (17, .own 0), (5, .map 2), (2, .ptr 1 0 0), (1, .c (.sl 3 (l.map gopP)))], [(0, .row 83 7 (w.troops.map trpP)), (1, .blk 28 [I .i64 w.f.w, I .i64 w.f.h, .c (.sl 1 (w.f.p.map i64P)), .c (.sl 2 (w.bases.map celP)), .c (.sl 1 (w.stocks.map i64P)), .c (.sl 1 (w.mines.map i64P)), .own 0, I .i64 w.next, I .i64 w.now]), (2, .mp true 2 x.2)], 3⟩) (fun x : Nat × List (List Int × Int) => x.1 ≤ w.troops.length ∧ CntM (w.troops.take x.1) x.2) (fun x : Nat × List (List Int × Int) => w.troops.length - x.1) ((0, [])) (⟨Nat.zero_le _, fun _ _ => rfl⟩) (To.mk [0, 1, 2] rfl rfl (by decide) ?_ ?_) ?_
 ·simp (etaStruct := .none) only [push_cast, DrawG, seval]
 ·simp (etaStruct := .none) only [push_cast, DrawG, seval]
 rintro ⟨k, es⟩ ⟨hk, hc⟩
 simp only at hk hc
 (iterate 2 ((try simp (etaStruct := .none) only [push_cast, seval, mput_def]); (try (refine xsu ?_; try exact xtI))))
 refine cond_i (fun h1 => ?_) (fun h1 => ?_)
 ·(try replace h1 := xhh h1)
  have hlt : k < w.troops.length := by omega
  have hca := hc.add (w.troops.getD k default)
  rw [← take_snoc _ _ hlt] at hca
  have hcb := hc (w.troops.getD k default).c.x (w.troops.getD k default).c.y
  have hcl := cntC_le ⟨(w.troops.getD k default).c.x, (w.troops.getD k default).c.y⟩ (w.troops.take k)
  rw [List.length_take] at hcl
  have hmp := mpos_lt [(w.troops.getD k default).c.x, (w.troops.getD k default).c.y] es
  (iterate 2 ((try simp (etaStruct := .none) only [push_cast, seval, mput_def, getD_in _ _ _ hlt, trpP]); (try (refine xsu ?_; try exact xtI))))
  refine drawG_w [some 23, some 24, some 25, some 26, some 27, some 28, some 29, none] rfl ?_
  intro Oq lq Rq hlq hdq hRq
  subst hlq
  iterate 8 (refine peelD fun rq hrq => ?_; (iterate 2 ((try simp (etaStruct := .none) only [push_cast, seval, hdq, id, mput_def, getD_in _ _ _ hlt, trpP]); (try (refine xsu ?_; try exact xtI)))); subst hrq)
  refine endD ?_
  subst hRq
  clear hdq Oq
  refine endE (by kernel_rfl) ?_
  (iterate 2 ((try simp (etaStruct := .none) only [push_cast, seval, mput_def, getD_in _ _ _ hlt, trpP]); (try (refine xsu ?_; try exact xtI))))
  refine ⟨(k + 1, mput [(w.troops.getD k default).c.x, (w.troops.getD k default).c.y] (mget [(w.troops.getD k default).c.x, (w.troops.getD k default).c.y] es + 1) es), ⟨by simp only; omega, hca⟩, by simp only; omega, To.mk [0, 1, 2] rfl rfl (by decide) ?_ ?_⟩
  ·(iterate 2 ((try simp (etaStruct := .none) only [push_cast, seval, mput_def, getD_in _ _ _ hlt, trpP]); (try (refine xsu ?_; try exact xtI))))
  ·(iterate 2 ((try simp (etaStruct := .none) only [push_cast, seval, mput_def, getD_in _ _ _ hlt, trpP]); (try (refine xsu ?_; try exact xtI))))
 ·(try replace h1 := xhh h1)
  obtain rfl : k = w.troops.length := by omega
  rw [List.take_length] at hc
  (iterate 2 ((try simp (etaStruct := .none) only [push_cast, seval, mput_def]); (try (refine xsu ?_; try exact xtI))))
  refine loopI (fun x : Nat × List (List Int × Int) => ⟨[(34, I .i64 x.1), (33, I .i64 w.troops.length), (8, .own 3), (5, .map 2), (2, .ptr 1 0 0), (1, .c (.sl 3 (l.map gopP)))], [(0, .row 83 7 ((marchK w.f WR l w.troops x.1).1.map trpP)), (1, .blk 28 [I .i64 w.f.w, I .i64 w.f.h, .c (.sl 1 (w.f.p.map i64P)), .c (.sl 2 (w.bases.map celP)), .c (.sl 1 (w.stocks.map i64P)), .c (.sl 1 (w.mines.map i64P)), .own 0, I .i64 w.next, I .i64 w.now]), (2, .mp true 2 x.2), (3, .row 3 1 ((marchK w.f WR l w.troops x.1).2.map i64P))], 4⟩) (fun x : Nat × List (List Int × Int) => x.1 ≤ w.troops.length ∧ CntM (marchK w.f WR l w.troops x.1).1 x.2) (fun x : Nat × List (List Int × Int) => w.troops.length - x.1) ((0, es)) (⟨Nat.zero_le _, hc⟩) ((To.nil 8 3 1 rfl).trans (To.mk [0, 1, 2, 3] rfl rfl (by decide) ?_ ?_)) ?_
  ·simp (etaStruct := .none) only [push_cast, DrawG, seval, marchK_zero, List.map_nil]
  ·simp (etaStruct := .none) only [push_cast, DrawG, seval]
  rintro ⟨k, em⟩ ⟨hk, hm⟩
  simp only at hk hm
  have hln := marchK_len w.f WR l w.troops k
  have hsk := marchK_succ w.f WR l w.troops k
  obtain ⟨S, hS⟩ : ∃ S, S = marchK w.f WR l w.troops k := ⟨_, rfl⟩
  rw [← hS] at hm hln hsk
  (iterate 2 ((try simp (etaStruct := .none) only [push_cast, seval, mput_def, ← hS, hln.1]); (try (refine xsu ?_; try exact xtI))))
  refine cond_i (fun h2 => ?_) (fun h2 => ?_)
  ·(try replace h2 := xhh h2)
   have hlt : k < S.1.length := by omega
   (iterate 2 ((try simp (etaStruct := .none) only [push_cast, seval, mput_def, ← hS, hln.1, getD_in _ _ _ hlt, trpP]); (try (refine xsu ?_; try exact xtI))))
   refine caM [4, 0] (gid_ix S.1 k hlt l (by omega)) ?_
   (iterate 2 ((try simp (etaStruct := .none) only [push_cast, seval, mput_def, ← hS, hln.1, getD_in _ _ _ hlt, trpP]); (try (refine xsu ?_; try exact xtI))))
   refine cond_i (fun h3 => ?_) (fun h3 => ?_)
   ·(try replace h3 := xhh h3)
    have hnone : findG l (S.1.getD k default).id = none := by
     rcases findG_ix (l := l) (t := S.1.getD k default) with ⟨h, _⟩ | ⟨_, j, _, h, _⟩
     ·exact h
     ·rw [h] at h3; omega
    have hms : marchS w.f WR l S k = S := marchS_none (by unfold stepT; rw [hnone])
    (iterate 2 ((try simp (etaStruct := .none) only [push_cast, seval, mput_def, ← hS, hln.1, getD_in _ _ _ hlt, trpP]); (try (refine xsu ?_; try exact xtI))))
    refine ⟨(k + 1, em), ⟨by simp only; omega, by simp only; rw [hsk, hms]; exact hm⟩, by simp only; omega, To.mk [0, 1, 2, 3] rfl rfl (by decide) ?_ ?_⟩
    ·(iterate 2 ((try simp (etaStruct := .none) only [push_cast, DrawG, seval, hsk, hms]); (try (refine xsu ?_; try exact xtI))))
    ·(iterate 2 ((try simp (etaStruct := .none) only [push_cast, seval, mput_def, ← hS, hln.1, getD_in _ _ _ hlt, trpP]); (try (refine xsu ?_; try exact xtI))))
   ·(try replace h3 := xhh h3)
    obtain ⟨g, j, hg, hj, hjl, hge⟩ : ∃ (g : Gop) (j : Nat), findG l (S.1.getD k default).id = some g ∧ ixOf (gidP (S.1.getD k default)) l = (j : Int) ∧ j < l.length ∧ l.getD j default = g := by
     rcases findG_ix (l := l) (t := S.1.getD k default) with ⟨_, h⟩ | h
     ·rw [h] at h3; omega
     ·exact h
    obtain ⟨wl, hwl⟩ : ∃ wl, wl = wayW w.f WR (S.1.getD k default).c g.to := ⟨_, rfl⟩
    have hwy : (if wayE (WR (S.1.getD k default).c) w.f (S.1.getD k default).c g.to = 0 then wayV (WR (S.1.getD k default).c) w.f (S.1.getD k default).c g.to else []) = wl := hwl.symm
    have hst := stepT_some (f := w.f) (WR := WR) (ts := S.1) hg
    rw [← hwl] at hst
    rcases Nat.lt_or_ge wl.length 2 with hA | hB
    ·have hms : marchS w.f WR l S k = S := marchS_none (by rw [hst, if_pos (.inl hA)])
     have hAg : (wl.map celP).getD 1 [] = [] := by rw [List.getD_eq_getElem?_getD, List.getElem?_eq_none (by rw [List.length_map]; omega)]; rfl
     have hAl : ((wl.length : Int) < 2) = True := eq_true (by omega)
     (iterate 2 ((try simp (etaStruct := .none) only [push_cast, seval, mput_def, ← hS, hln.1, getD_in _ _ _ hlt, trpP, hj, getD_in _ _ _ hjl, hge, gopP]); (try (refine xsu ?_; try exact xtI))))
     refine drawG_w [some 47, some 48, some 49, some 50, some 51, some 52, some 53, some 54, some 55, some 56, some 57, some 58, some 46, some 59, some 60, some 61, some 12, some 13, some 14] rfl ?_
     intro Oq lq Rq hlq hdq hRq
     subst hlq
     iterate 11 (refine peelD fun rq hrq => ?_; (iterate 2 ((try simp (etaStruct := .none) only [push_cast, seval, hdq, id, mput_def, ← hS, hln.1, getD_in _ _ _ hlt, trpP, hj, getD_in _ _ _ hjl, hge, gopP]); (try (refine xsu ?_; try exact xtI)))); subst hrq)
     refine peelD fun rq hrq => ?_
     (iterate 2 ((try simp (etaStruct := .none) only [push_cast, seval, hdq, id, mput_def, ← hS, hln.1, getD_in _ _ _ hlt, trpP, hj, getD_in _ _ _ hjl, hge, gopP]); (try (refine xsu ?_; try exact xtI))))
     refine callP (pfind_s w.f (S.1.getD k default).c g.to hl (WR (S.1.getD k default).c) (hWR _)) (WkL.refl _) ?_
     rw [hwy]
     (iterate 2 ((try simp (etaStruct := .none) only [push_cast, seval, hdq, id, mput_def, ← hS, hln.1, getD_in _ _ _ hlt, trpP, hj, getD_in _ _ _ hjl, hge, gopP]); (try (refine xsu ?_; try exact xtI))))
     subst hrq
     iterate 7 (refine peelD fun rq hrq => ?_; (iterate 2 ((try simp (etaStruct := .none) only [push_cast, seval, hdq, id, mput_def, ← hS, hln.1, getD_in _ _ _ hlt, trpP, hj, getD_in _ _ _ hjl, hge, gopP]); (try (refine xsu ?_; try exact xtI)))); subst hrq)
     refine endD ?_
     subst hRq
     clear hdq Oq
     refine endE (by kernel_rfl) ?_
     (iterate 2 ((try simp (etaStruct := .none) only [push_cast, seval, mput_def, ← hS, hln.1, getD_in _ _ _ hlt, trpP, hAg, hAl, List.take_nil, List.map_nil]); (try (refine xsu ?_; try exact xtI))))
     refine cond_i (fun h4 => ?_) (fun h4 => ?_)
     ·(iterate 2 ((try simp (etaStruct := .none) only [push_cast, seval]); (try (refine xsu ?_; try exact xtI))))
      refine ⟨(k + 1, em), ⟨by simp only; omega, by simp only; rw [hsk, hms]; exact hm⟩, by simp only; omega, To.mk [0, 1, 2, 3] rfl rfl (by decide) ?_ ?_⟩
      ·(iterate 2 ((try simp (etaStruct := .none) only [push_cast, DrawG, seval, hsk, hms]); (try (refine xsu ?_; try exact xtI))))
      ·(iterate 2 ((try simp (etaStruct := .none) (maxSteps := 1000000) only [push_cast, DrawG, seval]); (try (refine xsu ?_; try exact xtI))))
     ·simp at h4
    have hB1 : 1 < wl.length := by omega
    have hBl : ((wl.length : Int) < 2) = False := eq_false (by omega)
    have hE0 : wayE (WR (S.1.getD k default).c) w.f (S.1.getD k default).c g.to = 0 := by
     rcases Decidable.em (wayE (WR (S.1.getD k default).c) w.f (S.1.getD k default).c g.to = 0) with h | h
     ·exact h
     ·rw [hwl] at hB1; unfold wayW at hB1; rw [if_neg h] at hB1; simp at hB1
    have hcm := hm (wl.getD 1 default).x (wl.getD 1 default).y
    have hcl := cntC_le ⟨(wl.getD 1 default).x, (wl.getD 1 default).y⟩ S.1
    have hanyc := cntC_pos ⟨(wl.getD 1 default).x, (wl.getD 1 default).y⟩ S.1
    (iterate 2 ((try simp (etaStruct := .none) only [push_cast, seval, mput_def, ← hS, hln.1, getD_in _ _ _ hlt, trpP, hj, getD_in _ _ _ hjl, hge, gopP, getD_in _ _ _ hB1, celP, hBl, hE0]); (try (refine xsu ?_; try exact xtI))))
    refine drawG_w [some 47, some 48, some 49, some 50, some 51, some 52, some 53, some 54, some 55, some 56, some 57, some 58, some 46, some 59, some 60, some 61, some 12, some 13, some 14] rfl ?_
    intro Oq lq Rq hlq hdq hRq
    subst hlq
    iterate 11 (refine peelD fun rq hrq => ?_; (iterate 2 ((try simp (etaStruct := .none) only [push_cast, seval, hdq, id, mput_def, ← hS, hln.1, getD_in _ _ _ hlt, trpP, hj, getD_in _ _ _ hjl, hge, gopP, getD_in _ _ _ hB1, celP, hBl, hE0]); (try (refine xsu ?_; try exact xtI)))); subst hrq)
    refine peelD fun rq hrq => ?_
    (iterate 2 ((try simp (etaStruct := .none) only [push_cast, seval, hdq, id, mput_def, ← hS, hln.1, getD_in _ _ _ hlt, trpP, hj, getD_in _ _ _ hjl, hge, gopP, getD_in _ _ _ hB1, celP, hBl, hE0]); (try (refine xsu ?_; try exact xtI))))
    refine caP (pfind_s w.f (S.1.getD k default).c g.to hl (WR (S.1.getD k default).c) (hWR _)) ?_
    rw [hwy]
    (iterate 2 ((try simp (etaStruct := .none) only [push_cast, seval, hdq, id, mput_def, ← hS, hln.1, getD_in _ _ _ hlt, trpP, hj, getD_in _ _ _ hjl, hge, gopP, getD_in _ _ _ hB1, celP, hBl, hE0]); (try (refine xsu ?_; try exact xtI))))
    subst hrq
    iterate 7 (refine peelD fun rq hrq => ?_; (iterate 2 ((try simp (etaStruct := .none) only [push_cast, seval, hdq, id, mput_def, ← hS, hln.1, getD_in _ _ _ hlt, trpP, hj, getD_in _ _ _ hjl, hge, gopP, getD_in _ _ _ hB1, celP, hBl, hE0]); (try (refine xsu ?_; try exact xtI)))); subst hrq)
    refine endD ?_
    subst hRq
    clear hdq Oq
    refine endE (by kernel_rfl) ?_
    (iterate 2 ((try simp (etaStruct := .none) only [push_cast, seval, mput_def, ← hS, hln.1, getD_in _ _ _ hlt, trpP, hj, getD_in _ _ _ hjl, hge, gopP, getD_in _ _ _ hB1, celP, hBl, hE0]); (try (refine xsu ?_; try exact xtI))))
    refine cond_i (fun h4 => ?_) (fun h4 => ?_)
    ·(try replace h4 := xhh h4)
     have hms : marchS w.f WR l S k = S := marchS_none (by rw [hst, if_pos (.inr (hanyc.1 (by omega)))])
     (iterate 2 ((try simp (etaStruct := .none) only [push_cast, seval, mput_def, ← hS, hln.1, getD_in _ _ _ hlt, trpP, hj, getD_in _ _ _ hjl, hge, gopP, getD_in _ _ _ hB1, celP, hBl, hE0]); (try (refine xsu ?_; try exact xtI))))
     refine ⟨(k + 1, em), ⟨by simp only; omega, by simp only; rw [hsk, hms]; exact hm⟩, by simp only; omega, To.mk [0, 1, 2, 3] rfl rfl (by decide) ?_ ?_⟩
     ·(iterate 2 ((try simp (etaStruct := .none) only [push_cast, DrawG, seval, hsk, hms]); (try (refine xsu ?_; try exact xtI))))
     ·(iterate 2 ((try simp (etaStruct := .none) only [push_cast, seval, mput_def, ← hS, hln.1, getD_in _ _ _ hlt, trpP, hj, getD_in _ _ _ hjl, hge, gopP, getD_in _ _ _ hB1, celP, hBl, hE0]); (try (refine xsu ?_; try exact xtI))))
    ·(try replace h4 := xhh h4)
     have hno : ¬ (S.1.any fun o => decide (o.c = (wl.getD 1 default))) = true := fun h => by have := hanyc.2 h; omega
     have hms : marchS w.f WR l S k = (S.1.set k (setC (S.1.getD k default) (wl.getD 1 default)), S.2 ++ [(S.1.getD k default).id]) := marchS_some (by rw [hst, if_neg (fun h => by rcases h with h | h; omega; exact hno h)])
     have hmv := hm.move hlt (wl.getD 1 default)
     have hmp1 := mpos_lt [(S.1.getD k default).c.x, (S.1.getD k default).c.y] em
     have hc1 := hm (S.1.getD k default).c.x (S.1.getD k default).c.y
     have hcl1 := cntC_le ⟨(S.1.getD k default).c.x, (S.1.getD k default).c.y⟩ S.1
     have hmp2 := mpos_lt [(wl.getD 1 default).x, (wl.getD 1 default).y] (mput [(S.1.getD k default).c.x, (S.1.getD k default).c.y] (mget [(S.1.getD k default).c.x, (S.1.getD k default).c.y] em - 1) em)
     have hb2 : -1 ≤ mget [(wl.getD 1 default).x, (wl.getD 1 default).y] (mput [(S.1.getD k default).c.x, (S.1.getD k default).c.y] (mget [(S.1.getD k default).c.x, (S.1.getD k default).c.y] em - 1) em) ∧ mget [(wl.getD 1 default).x, (wl.getD 1 default).y] (mput [(S.1.getD k default).c.x, (S.1.getD k default).c.y] (mget [(S.1.getD k default).c.x, (S.1.getD k default).c.y] em - 1) em) ≤ 100 := by
      rw [mget_put_if]; split <;> omega
     have hgs : ∀ x : List PV, ((S.1.map trpP).set k x).getD k [] = x := fun x => by
      rw [List.getD_eq_getElem?_getD, List.getElem?_set_self (by rw [List.length_map]; exact hlt)]; rfl
     (iterate 2 ((try simp (etaStruct := .none) only [push_cast, seval, mput_def, ← hS, hln.1, getD_in _ _ _ hlt, trpP, hj, getD_in _ _ _ hjl, hge, gopP, getD_in _ _ _ hB1, celP, hBl, hE0, hgs, List.length_set, List.set_set]); (try (refine xsu ?_; try exact xtI))))
     refine drawG_w [some 77, some 78, some 79, some 80, some 81, some 82, some 83, some 84, some 85, none] rfl ?_
     intro Oq lq Rq hlq hdq hRq
     subst hlq
     iterate 10 (refine peelD fun rq hrq => ?_; (iterate 2 ((try simp (etaStruct := .none) only [push_cast, seval, hdq, id, mput_def, ← hS, hln.1, getD_in _ _ _ hlt, trpP, hj, getD_in _ _ _ hjl, hge, gopP, getD_in _ _ _ hB1, celP, hBl, hE0, hgs, List.length_set, List.set_set]); (try (refine xsu ?_; try exact xtI)))); subst hrq)
     refine endD ?_
     subst hRq
     clear hdq Oq
     refine endE (by kernel_rfl) ?_
     (iterate 2 ((try simp (etaStruct := .none) only [push_cast, seval, mput_def, ← hS, hln.1, getD_in _ _ _ hlt, trpP, hj, getD_in _ _ _ hjl, hge, gopP, getD_in _ _ _ hB1, celP, hBl, hE0, hgs, List.length_set, List.set_set]); (try (refine xsu ?_; try exact xtI))))
     refine drawG_w [some 86, some 87, some 88, some 89, some 90, some 91, none] rfl ?_
     intro Oq lq Rq hlq hdq hRq
     subst hlq
     iterate 7 (refine peelD fun rq hrq => ?_; (iterate 2 ((try simp (etaStruct := .none) only [push_cast, seval, hdq, id, mput_def, ← hS, hln.1, getD_in _ _ _ hlt, trpP, hj, getD_in _ _ _ hjl, hge, gopP, getD_in _ _ _ hB1, celP, hBl, hE0, hgs, List.length_set, List.set_set]); (try (refine xsu ?_; try exact xtI)))); subst hrq)
     refine endD ?_
     subst hRq
     clear hdq Oq
     refine endE (by kernel_rfl) ?_
     (iterate 2 ((try simp (etaStruct := .none) only [push_cast, seval, mput_def, ← hS, hln.1, getD_in _ _ _ hlt, trpP, hj, getD_in _ _ _ hjl, hge, gopP, getD_in _ _ _ hB1, celP, hBl, hE0, hgs, List.length_set, List.set_set]); (try (refine xsu ?_; try exact xtI))))
     refine drawG_w [some 92, some 93, some 94, some 95, some 96, some 97, some 98, some 99, some 100, none] rfl ?_
     intro Oq lq Rq hlq hdq hRq
     subst hlq
     iterate 10 (refine peelD fun rq hrq => ?_; (iterate 2 ((try simp (etaStruct := .none) only [push_cast, seval, hdq, id, mput_def, ← hS, hln.1, getD_in _ _ _ hlt, trpP, hj, getD_in _ _ _ hjl, hge, gopP, getD_in _ _ _ hB1, celP, hBl, hE0, hgs, List.length_set, List.set_set]); (try (refine xsu ?_; try exact xtI)))); subst hrq)
     refine endD ?_
     subst hRq
     clear hdq Oq
     refine endE (by kernel_rfl) ?_
     (iterate 2 ((try simp (etaStruct := .none) only [push_cast, seval, mput_def, ← hS, hln.1, getD_in _ _ _ hlt, trpP, hj, getD_in _ _ _ hjl, hge, gopP, getD_in _ _ _ hB1, celP, hBl, hE0, hgs, List.length_set, List.set_set]); (try (refine xsu ?_; try exact xtI))))
     refine ⟨(k + 1, mput [(wl.getD 1 default).x, (wl.getD 1 default).y] (mget [(wl.getD 1 default).x, (wl.getD 1 default).y] (mput [(S.1.getD k default).c.x, (S.1.getD k default).c.y] (mget [(S.1.getD k default).c.x, (S.1.getD k default).c.y] em - 1) em) + 1) (mput [(S.1.getD k default).c.x, (S.1.getD k default).c.y] (mget [(S.1.getD k default).c.x, (S.1.getD k default).c.y] em - 1) em)), ⟨by simp only; omega, by simp only; rw [hsk, hms]; exact hmv⟩, by simp only; omega, To.mk [0, 1, 2, 190] rfl rfl (by decide) ?_ ?_⟩
     ·(iterate 2 ((try simp (etaStruct := .none) only [push_cast, DrawG, seval, hsk, hms, List.map_set, List.map_append, trpP, setC, i64P]); (try (refine xsu ?_; try exact xtI))))
     ·(iterate 2 ((try simp (etaStruct := .none) only [push_cast, seval, mput_def, ← hS, hln.1, getD_in _ _ _ hlt, trpP, hj, getD_in _ _ _ hjl, hge, gopP, getD_in _ _ _ hB1, celP, hBl, hE0, hgs, List.length_set, List.set_set]); (try (refine xsu ?_; try exact xtI))))
  ·(try replace h2 := xhh h2)
   obtain rfl : k = w.troops.length := by omega
   have hmv : marchV w.f WR l w.troops = S := hS.symm
   (iterate 2 ((try simp (etaStruct := .none) only [push_cast, seval, mput_def, ← hS, hln.1]); (try (refine xsu ?_; try exact xtI))))
   refine retM [0] rfl rfl (by decide) ⟨?_, trivial⟩ trivial ?_ <;> simp (etaStruct := .none) only [push_cast, DrawG, seval, hmv]
end Go.Proofs.YtllmjdcblfkfaaaGreat
namespace Go.Proofs.YtllmjdcblfkfaaaGreat
set_option linter.all false
open Go.RowKit
set_option maxRecDepth 100000
structure Right (w : Wld) : Prop where
 f : fldE w.f = 0
 nb : w.bases.length ≤ 8
 nt : w.troops.length ≤ 100
 sl : w.stocks.length = w.bases.length
 ml : w.mines.length = w.f.p.length
 nx : 1 ≤ w.next ∧ w.next ≤ 1000000
 nw : 0 ≤ w.now ∧ w.now ≤ 1000000
 base : ∀ i, i < w.bases.length → groundV w.f (w.bases.getD i default) = true ∧ (0 ≤ w.stocks.getD i default ∧ w.stocks.getD i default ≤ 1000000) ∧ ∀ j, j < i → w.bases.getD j default ≠ w.bases.getD i default
 mine : ∀ i, i < w.mines.length → (0 ≤ w.mines.getD i default ∧ w.mines.getD i default ≤ 1000000) ∧ (w.mines.getD i default = 0 ∨ w.f.p.getD i default = 3)
 trp : ∀ k, k < w.troops.length → TrpOk w (w.troops.getD k default)
 ord : ∀ j k, j < k → k < w.troops.length → (w.troops.getD j default).id < (w.troops.getD k default).id ∧ (w.troops.getD j default).c ≠ (w.troops.getD k default).c
theorem right_of {w : Wld} (h : worldE w = 0) : Right w := by
 obtain ⟨h1, h2, h3, h4, h5⟩ := worldE_ok h
 obtain ⟨g1, g2, g3, g4⟩ := worldF_ok h4
 unfold worldB at h5
 simp only [Bool.and_eq_true] at h5
 obtain ⟨⟨b1, b2⟩, b3⟩ := h5
 rw [allN_iff] at b1 b2 b3
 refine ⟨h1, h2, h3, g1, g2, g3, g4, fun i hi => ?_, fun i hi => ?_, fun k hk => (troop_ok h hk).1, fun j k hjk hk => ?_⟩
 ·have := b1 i hi
  unfold baseB at this
  simp only [Bool.and_eq_true, within_iff] at this
  obtain ⟨⟨a1, a2⟩, a3⟩ := this
  rw [allN_iff] at a3
  exact ⟨a1, a2, fun j hj => by have := a3 j hj; simpa using this⟩
 ·have := b2 i hi
  unfold mineB at this
  simp only [Bool.and_eq_true, Bool.or_eq_true, within_iff, decide_eq_true_eq] at this
  exact this
 ·have h6 := (troop_ok h hk).2
  unfold trp2 at h6
  have := (allN_iff _ _).1 h6 j hjk
  simp only [Bool.and_eq_true, decide_eq_true_eq, Bool.not_eq_true', decide_eq_false_iff_not] at this
  exact this
theorem Right.e {w : Wld} (h : Right w) : worldE w = 0 := by
 have hb : ¬ (8 < w.bases.length ∨ 100 < w.troops.length) := by have := h.nb; have := h.nt; omega
 refine worldE_fine h.f hb ?_ ?_
 ·unfold worldF
  rw [decide_eq_true h.sl, decide_eq_true h.ml, (within_iff).2 h.nx, (within_iff).2 h.nw]; rfl
 ·unfold worldB
  rw [Bool.and_eq_true, Bool.and_eq_true, allN_iff, allN_iff, allN_iff]
  refine ⟨⟨fun i hi => ?_, fun i hi => ?_⟩, fun i hi => ?_⟩
  ·obtain ⟨a1, a2, a3⟩ := h.base i hi
   unfold baseB
   rw [a1, (within_iff).2 a2, Bool.true_and, Bool.true_and, allN_iff]
   intro j hj
   rw [decide_eq_false (a3 j hj)]; rfl
  ·obtain ⟨a1, a2⟩ := h.mine i hi
   unfold mineB
   rw [(within_iff).2 a1, Bool.true_and, Bool.or_eq_true, decide_eq_true_eq, decide_eq_true_eq]; exact a2
  ·have ok := h.trp i hi
   unfold troopB trp1 trp2
   rw [(within_iff).2 (by rcases ok.kind with e | e <;> omega), (within_iff).2 ok.id, (within_iff).2 ok.owner, ok.at_, (within_iff).2 ok.life, (within_iff).2 ok.load, Bool.true_and, Bool.true_and, Bool.true_and, Bool.true_and, Bool.true_and, Bool.true_and, allN_iff]
   intro j hj
   obtain ⟨c1, c2⟩ := h.ord j i hj hi
   rw [decide_eq_true c1, decide_eq_false c2]; rfl
theorem Right.l {w : Wld} (h : Right w) : wldL w := by
 obtain ⟨⟨f1, f2⟩, ⟨f3, f4⟩, f5, f6⟩ := fldE_ok h.f
 have hm : w.f.w * w.f.h ≤ 40 * 40 := Int.mul_le_mul f2 f4 (by omega) (by omega)
 have a1 := h.nb; have a2 := h.nt; have a3 := h.sl; have a4 := h.ml
 unfold wldL; omega
theorem Right.places {w : Wld} (h : Right w) : w.f.p.length ≤ 1600 := by
 obtain ⟨⟨f1, f2⟩, ⟨f3, f4⟩, f5, f6⟩ := fldE_ok h.f
 have hm : w.f.w * w.f.h ≤ 40 * 40 := Int.mul_le_mul f2 f4 (by omega) (by omega)
 omega
theorem trpOk_of {w : Wld} {t : Trp} (hk : t.kind = 1 ∨ t.kind = 2) (hi : 1 ≤ t.id ∧ t.id ≤ w.next - 1) (ho : 0 ≤ t.owner ∧ t.owner ≤ (w.bases.length : Int) - 1) (hg : groundV w.f t.c = true) (hl : 1 ≤ t.life ∧ t.life ≤ (kindV t.kind).life) (hd : 0 ≤ t.load ∧ t.load ≤ 5 * (2 - t.kind)) : TrpOk w t := by
 have h := inF_iff.1 (ground_iff.1 hg).1
 exact ⟨hk, hi, ho, hg, h.1, h.2, hl, hd⟩
theorem getD_set {α : Type} [Inhabited α] {l : List α} {i : Nat} (v : α) (p : Nat) (hi : i < l.length) : (l.set i v).getD p default = if p = i then v else l.getD p default := by
 by_cases h : p = i
 ·subst h; rw [if_pos rfl, getD_at _ _ (by simpa using hi)]; simp
 ·rw [if_neg h]
  simp only [List.getD_eq_getElem?_getD, List.getElem?_set, if_neg (Ne.symm h)]
theorem set_same {α : Type} [Inhabited α] (l : List α) (i : Nat) (hi : i < l.length) : l.set i (l.getD i default) = l := by
 refine List.ext_getElem (by simp) fun j h1 h2 => ?_
 rw [List.getElem_set]
 split
 ·rename_i h; subst h; rw [getD_at _ _ hi]
 ·rfl
theorem right_struck {w : Wld} (h : Right w) (l : List Blw) (hb : ∀ id, 0 ≤ harmV w l id) : Right (struckW w l) := by
 have hsub : (leftV w l).length ≤ w.troops.length := by
  have := List.length_filter_le (fun t : Trp => decide (0 < t.life)) (w.troops.map (woundT w l))
  rw [List.length_map] at this; exact this
 have hp : (leftV w l).Pairwise fun a b => a.id < b.id ∧ a.c ≠ b.c := by
  refine List.Pairwise.filter _ ?_
  rw [List.pairwise_map, List.pairwise_iff_getElem]
  intro i j hi hj hij
  have := h.ord i j hij hj
  rw [getD_at _ _ hi, getD_at _ _ hj] at this
  exact this
 refine ⟨h.f, h.nb, Nat.le_trans hsub h.nt, h.sl, h.ml, h.nx, h.nw, h.base, h.mine, fun k hk => ?_, fun j k hjk hk => ?_⟩
 ·have hk' : k < (leftV w l).length := hk
  have hm := getD_mem _ _ hk'
  obtain ⟨h1, h2⟩ := List.mem_filter.1 hm
  obtain ⟨t, ht, e⟩ := List.mem_map.1 h1
  obtain ⟨q, hq, e2⟩ := mem_getD.1 ht
  have ok := h.trp q hq
  rw [e2] at ok
  change TrpOk (struckW w l) ((leftV w l).getD k default)
  rw [← e] at h2 ⊢
  rw [decide_eq_true_eq] at h2
  have hh := hb t.id
  have hlf := ok.life
  refine trpOk_of ok.kind ok.id ok.owner ok.at_ ⟨by omega, ?_⟩ ok.load
  change t.life - harmV w l t.id ≤ (kindV t.kind).life
  omega
 ·have hj : j < (leftV w l).length := Nat.lt_trans hjk hk
  have := List.pairwise_iff_getElem.1 hp j k hj hk hjk
  change ((leftV w l).getD j default).id < ((leftV w l).getD k default).id ∧ ((leftV w l).getD j default).c ≠ ((leftV w l).getD k default).c
  rw [getD_at (leftV w l) _ hj, getD_at (leftV w l) _ hk]; exact this
end Go.Proofs.YtllmjdcblfkfaaaGreat
namespace Go.Proofs.YtllmjdcblfkfaaaGreat
set_option linter.all false
open Go.RowKit
set_option maxRecDepth 100000
set_option maxHeartbeats 2000000
def setT (w : Wld) (ts : List Trp) : Wld := { w with troops := ts }
abbrev wldT (w : Wld) (t : AV) : List AV := [I .i64 w.f.w, I .i64 w.f.h, .c (.sl 1 (w.f.p.map i64P)), .c (.sl 2 (w.bases.map celP)), .c (.sl 1 (w.stocks.map i64P)), .c (.sl 1 (w.mines.map i64P)), t, I .i64 w.next, I .i64 w.now]
theorem mown_s (w : Wld) (hb : w.f.p.length ≤ 1600 ∧ w.bases.length ≤ 8 ∧ w.stocks.length ≤ 8 ∧ w.mines.length ≤ 1600 ∧ w.troops.length ≤ 100) : Spec Tryz.prog 95 [wldA w] [] (.agg (wldT w (.own 0))) [.row 83 7 (w.troops.map trpP)] := by
 refine spec_am Tryz.func95 rfl rfl mix 26 rfl [.cell 2 28] Tryz.results95 (Nat.le_of_ble_eq_true rfl) ?_
 (try (refine xst ?_; try exact xtI))
 refine caM [] (int_clone w.f.p (by omega)) ?_
 (try (refine xst ?_; try exact xtI))
 refine caM [] (cel_clone w.bases (by omega)) ?_
 (try (refine xst ?_; try exact xtI))
 refine caM [] (int_clone w.stocks (by omega)) ?_
 (try (refine xst ?_; try exact xtI))
 (try (refine ⟨by kernel_rfl, ?_⟩))
 (try (refine xst ?_; try exact xtI))
 refine caM [] (int_clone w.mines (by omega)) ?_
 (try (refine xst ?_; try exact xtI))
 refine caM [] (trp_clone w.troops (by omega)) ?_
 (try (refine xst ?_; try exact xtI))
 (try (refine ⟨by kernel_rfl, ?_⟩))
 (try (refine xst ?_; try exact xtI))
 refine retM [63] rfl rfl (by decide) ⟨?_, trivial⟩ ⟨rfl, trivial⟩ (Wk.of ?_)
 ·simp (etaStruct := .none) only [push_cast, DrawG, seval]
 ·first | rfl | kernel_rfl
def stepE (w : Wld) (l : List Gop) : Int := if worldE w ≠ 0 then worldE w else if 200 < l.length then 2 else 0
theorem right_b {w : Wld} (hw : Right w) : w.f.p.length ≤ 1600 ∧ w.bases.length ≤ 8 ∧ w.stocks.length ≤ 8 ∧ w.mines.length ≤ 1600 ∧ w.troops.length ≤ 100 := by
 have hfo := fldE_ok hw.f
 have hm2 : w.f.w * w.f.h ≤ 40 * 40 := Int.mul_le_mul hfo.1.2 hfo.2.1.2 (by omega) (by omega)
 have h1 := hw.nb
 have h2 := hw.sl
 have h3 := hw.ml
 have h4 := hw.nt
 omega
theorem mstepW_s (w : Wld) (l : List Gop) (WR : Cel → List Int) (hWR : ∀ a, FloodIs w.f [a] (WR a)) (hl : wldL w) (hll : l.length ≤ 9223372036854775807) : Spec Tryz.prog 62 [wldA w, .c (.sl 3 (l.map gopP))] [] (.tup [wldA (if stepE w l = 0 then setT w (marchV w.f WR l w.troops).1 else default), .c (.sl 1 ((if stepE w l = 0 then (marchV w.f WR l w.troops).2 else []).map i64P)), I .i64 (stepE w l)]) [] := by
 refine spec_am Tryz.func62 rfl rfl mix 26 rfl [.cell 4 28, .tmp 5, .tmp 6] Tryz.results62 (Nat.le_of_ble_eq_true rfl) ?_
 (try (refine xst ?_; try exact xtI))
 refine caP (tcheck_s w hl) ?_
 (try (refine xst ?_; try exact xtI))
 refine cond_i (fun h1 => ?_) (fun h1 => ?_)
 ·(try replace h1 := xhh h1)
  have e : stepE w l = worldE w := by unfold stepE; rw [if_pos h1]
  rw [e, if_neg h1, if_neg h1]
  (try (refine xst ?_; try exact xtI))
  exact xrz rfl
 ·(try replace h1 := xhh h1)
  have hw := right_of h1
  (try (refine xst ?_; try exact xtI))
  refine cond_i (fun h2 => ?_) (fun h2 => ?_)
  ·(try replace h2 := xhh h2)
   have e : stepE w l = 2 := by unfold stepE; rw [if_neg (by simp [h1]), if_pos (by omega)]
   rw [e, if_neg (by decide), if_neg (by decide)]
   (try (refine xst ?_; try exact xtI))
   exact xrz rfl
  ·(try replace h2 := xhh h2)
   have e : stepE w l = 0 := by unfold stepE; rw [if_neg (by simp [h1]), if_neg (by omega)]
   rw [e, if_pos rfl, if_pos rfl]
   have hb := right_b hw
   (try (refine xst ?_; try exact xtI))
   refine caM [] (mown_s w hb) ?_
   (try (refine xst ?_; try exact xtI))
   refine caM [2] (mstep_s w l WR hWR (by omega) (by omega) (by omega)) ?_
   (try (refine xst ?_; try exact xtI))
   refine ret0 rfl (by repeat' (first | exact trivial | exact rfl | refine ⟨?_, ?_⟩)) (Wk.of ?_)
   first | rfl | kernel_rfl
end Go.Proofs.YtllmjdcblfkfaaaGreat
namespace Go.Proofs.YtllmjdcblfkfaaaGreat
set_option linter.all false
open Go.RowKit
set_option maxRecDepth 100000
theorem wayL_ground {f : Fld} {a b : Cel} {R : List Int} {W H : Nat} (s : Srch f a b R W H) (hf : fldE f = 0) (ha : inF f a = true) (hpa : placeV f a ≠ 1) : ∀ (N : Nat) (c : Cel), inF f c = true → 0 ≤ R.getD (idxN f c) default → ∀ x ∈ wayL R f a N c, groundV f x = true
 | 0, c, _, _, x, hx => by unfold wayL at hx; cases hx
 | N + 1, c, hc, h0, x, hx => by
  unfold wayL at hx
  by_cases hca : c = a
  ·rw [if_pos hca] at hx; cases hx
  ·rw [if_neg hca] at hx
   obtain ⟨_, _, h3, _, h5, _⟩ := nxt_ok s.w s.h s.w0 hf s.l s.r ha hc hca h0
   rcases List.mem_cons.1 hx with e | hx
   ·rw [e, ground_iff]
    refine ⟨h3, ?_⟩
    obtain ⟨en, hnL⟩ := in_celW s.w s.h s.w0 hf h3
    rcases s.r.why _ hnL h5 with ⟨w1, _⟩ | ⟨_, _, _, hr, _⟩
    ·rw [List.mem_singleton] at w1
     have epl : ∀ n, placeV f n = f.p.getD (idxN f n) default := fun _ => rfl
     rw [epl, w1]; exact hpa
    ·exact hr
   ·exact wayL_ground s hf ha hpa N _ h3 h5 x hx
theorem wayW_ground {f : Fld} {WR : Cel → List Int} (hWR : ∀ a, FloodIs f [a] (WR a)) {a b x : Cel} (hx : x ∈ wayW f WR a b) : groundV f x = true := by
 unfold wayW at hx
 by_cases he : wayE (WR a) f a b = 0
 ·rw [if_pos he] at hx
  unfold wayE at he
  by_cases hf : fldE f = 0
  ·rw [if_neg (by simpa using hf)] at he
   by_cases hi : inF f a = true ∧ inF f b = true
   ·rw [if_neg (by simpa using hi)] at he
    by_cases hp : placeV f a = 1 ∨ placeV f b = 1
    ·rw [if_pos hp] at he; exact absurd he (by decide)
    ·rw [if_neg hp] at he
     by_cases hr : (WR a).getD (idxN f b) default < 0
     ·rw [if_pos hr] at he; exact absurd he (by decide)
     ·have hpa : placeV f a ≠ 1 := fun h => hp (Or.inl h)
      have hpb : placeV f b ≠ 1 := fun h => hp (Or.inr h)
      obtain ⟨W, H, s⟩ := srch (b := b) hf hi.1 hpa (hWR a)
      unfold wayV at hx
      rw [List.mem_reverse] at hx
      rcases List.mem_cons.1 hx with e | hx
      ·rw [e]; exact ground_iff.2 ⟨hi.2, hpb⟩
      ·exact wayL_ground s hf hi.1 hpa _ b hi.2 (by omega) x hx
   ·rw [if_pos hi] at he; exact absurd he (by decide)
  ·rw [if_pos hf] at he; exact absurd he hf
 ·rw [if_neg he] at hx; cases hx
theorem stepT_ground {f : Fld} {WR : Cel → List Int} (hWR : ∀ a, FloodIs f [a] (WR a)) {l : List Gop} {ts : List Trp} {t : Trp} {c : Cel} (h : stepT f WR l ts t = some c) : groundV f c = true ∧ (ts.any fun o => decide (o.c = c)) = false := by
 unfold stepT at h
 split at h
 ·cases h
 ·rename_i g _
  split at h
  ·cases h
  ·rename_i hn
   cases h
   have h1 : 1 < (wayW f WR t.c g.to).length := by omega
   refine ⟨wayW_ground hWR (getD_mem _ _ h1), ?_⟩
   cases e : ts.any fun o => decide (o.c = (wayW f WR t.c g.to).getD 1 default) with
   | false => rfl
   | true => exact absurd (Or.inr e) hn
theorem right_setC {w : Wld} (h : Right w) {i : Nat} (hi : i < w.troops.length) {c : Cel} (hg : groundV w.f c = true) (hn : (w.troops.any fun o => decide (o.c = c)) = false) : Right (setT w (w.troops.set i (setC (w.troops.getD i default) c))) := by
 have G := fun p => getD_set (setC (w.troops.getD i default) c) p hi
 have hno : ∀ k, k < w.troops.length → (w.troops.getD k default).c ≠ c := fun k hk e => by
  have := List.any_eq_false.1 hn _ (getD_mem _ _ hk)
  rw [e] at this; simp at this
 refine ⟨h.f, h.nb, by simpa [setT] using h.nt, h.sl, h.ml, h.nx, h.nw, h.base, h.mine, fun k hk => ?_, fun j k hjk hk => ?_⟩
 ·have hk' : k < w.troops.length := by simpa [setT] using hk
  have e : ∀ t, TrpOk w t → TrpOk (setT w (w.troops.set i (setC (w.troops.getD i default) c))) t := fun t ht => ⟨ht.kind, ht.id, ht.owner, ht.at_, ht.x, ht.y, ht.life, ht.load⟩
  have G' := G k
  change TrpOk _ ((w.troops.set i (setC (w.troops.getD i default) c)).getD k default)
  rw [G']
  split
  ·have ok := h.trp i hi
   exact e _ (trpOk_of ok.kind ok.id ok.owner hg ok.life ok.load)
  ·exact e _ (h.trp k hk')
 ·have hk' : k < w.troops.length := by simpa [setT] using hk
  have hj' : j < w.troops.length := Nat.lt_trans hjk hk'
  have := h.ord j k hjk hk'
  change ((w.troops.set i (setC (w.troops.getD i default) c)).getD j default).id < ((w.troops.set i (setC (w.troops.getD i default) c)).getD k default).id ∧ ((w.troops.set i (setC (w.troops.getD i default) c)).getD j default).c ≠ ((w.troops.set i (setC (w.troops.getD i default) c)).getD k default).c
  rw [G j, G k]
  by_cases e1 : j = i
  ·have e2 : k ≠ i := by omega
   rw [if_pos e1, if_neg e2]
   subst e1
   exact ⟨this.1, fun e => hno k hk' e.symm⟩
  ·rw [if_neg e1]
   by_cases e2 : k = i
   ·rw [if_pos e2]
    subst e2
    exact ⟨this.1, fun e => hno j hj' e⟩
   ·rw [if_neg e2]; exact this
theorem right_marchK {w : Wld} (h : Right w) {WR : Cel → List Int} (hWR : ∀ a, FloodIs w.f [a] (WR a)) (l : List Gop) : ∀ k, k ≤ w.troops.length → Right (setT w (marchK w.f WR l w.troops k).1)
 | 0, _ => by rw [marchK_zero]; exact h
 | k + 1, hk => by
  have ih := right_marchK h hWR l k (by omega)
  have hlen := (marchK_len w.f WR l w.troops k).1
  rw [marchK_succ]
  unfold marchS
  split
  ·exact ih
  ·rename_i c hs
   obtain ⟨g1, g2⟩ := stepT_ground hWR hs
   exact right_setC ih (i := k) (by change k < (marchK w.f WR l w.troops k).1.length; omega) g1 g2
theorem right_marched {w : Wld} (h : Right w) {WR : Cel → List Int} (hWR : ∀ a, FloodIs w.f [a] (WR a)) (l : List Gop) : Right (setT w (marchV w.f WR l w.troops).1) := right_marchK h hWR l _ (Nat.le_refl _)
structure HitInv (w : Wld) (m : List Blw) (harm : List Int) (done : List Bool) : Prop where
 l1 : harm.length = w.troops.length
 l2 : done.length = w.troops.length
 val : ∀ j, j < w.troops.length → harm.getD j default = harmV w m (w.troops.getD j default).id
 low : ∀ j, j < w.troops.length → 0 ≤ harm.getD j default ∧ harm.getD j default ≤ 4 * m.length
 did : ∀ j, j < w.troops.length → done.getD j default = m.any (hitP w (w.troops.getD j default))
theorem HitInv.start (w : Wld) : HitInv w [] (List.replicate w.troops.length 0) (List.replicate w.troops.length false) := by
 have g : ∀ j, j < w.troops.length → (List.replicate w.troops.length (0 : Int)).getD j default = 0 := fun j hj => by rw [getD_at _ _ (by simpa using hj)]; simp
 have g2 : ∀ j, j < w.troops.length → (List.replicate w.troops.length false).getD j default = false := fun j hj => by rw [getD_at _ _ (by simpa using hj)]; simp
 exact ⟨by simp, by simp, fun j hj => by rw [g j hj, harm_nil], fun j hj => by rw [g j hj]; simp, fun j hj => by rw [g2 j hj]; rfl⟩
theorem HitInv.skip {w : Wld} (hu : Ups w) {m : List Blw} {harm : List Int} {done : List Bool} (h : HitInv w m harm done) (b : Blw) (hs : blowB w b = false ∨ ∃ i, i < w.troops.length ∧ (w.troops.getD i default).id = b.by_ ∧ done.getD i default = true) : HitInv w (m ++ [b]) harm done := by
 have hs' : blowB w b = false ∨ ∃ i, i < w.troops.length ∧ (w.troops.getD i default).id = b.by_ ∧ m.any (hitP w (w.troops.getD i default)) = true := by
  rcases hs with hs | ⟨i, hi, e, hd⟩
  ·exact .inl hs
  ·exact .inr ⟨i, hi, e, by rw [← h.did i hi]; exact hd⟩
 refine ⟨h.l1, h.l2, fun j hj => by rw [harm_skip hu _ _ _ hs']; exact h.val j hj, fun j hj => ?_, fun j hj => ?_⟩
 ·have := h.low j hj
  rw [List.length_append]; simp only [List.length_cons, List.length_nil]; omega
 ·rw [List.any_append, h.did j hj]
  simp only [List.any_cons, List.any_nil, Bool.or_false]
  cases hp : hitP w (w.troops.getD j default) b with
  | false => rw [Bool.or_false]
  | true =>
   rw [Bool.or_true]
   unfold hitP at hp
   simp only [Bool.and_eq_true, decide_eq_true_eq] at hp
   rcases hs' with hs | ⟨i, hi, e, hd⟩
   ·rw [hs] at hp; simp at hp
   ·by_cases hij : i = j
    ·subst hij; exact hd
    ·exact absurd (e.trans hp.1) (hu.ne hi hj hij)
theorem HitInv.go {w : Wld} (hu : Ups w) {m : List Blw} {harm : List Int} {done : List Bool} (h : HitInv w m harm done) {b : Blw} (hb : blowB w b = true) {i j : Nat} (hi : i < w.troops.length) (hj : j < w.troops.length) (ei : (w.troops.getD i default).id = b.by_) (ej : (w.troops.getD j default).id = b.at_) (hd : done.getD i default = false) :
 HitInv w (m ++ [b]) (harm.set j (harm.getD j default + (kindV (w.troops.getD i default).kind).load)) (done.set i true) := by
 have hn : m.any (hitP w (w.troops.getD i default)) = false := by rw [← h.did i hi]; exact hd
 have hk := kind_harm (w.troops.getD i default).kind
 refine ⟨by rw [List.length_set]; exact h.l1, by rw [List.length_set]; exact h.l2, fun q hq => ?_, fun q hq => ?_, fun q hq => ?_⟩
 ·rw [sgetI _ _ (by rw [h.l1]; exact hj), harm_step hu _ _ _ hb hi ei hn]
  by_cases e : q = j
  ·subst e
   rw [if_pos rfl, if_pos ej.symm, h.val q hq]
  ·rw [if_neg e, if_neg (fun e2 => hu.ne hq hj e (e2.symm.trans ej.symm)), h.val q hq, Int.add_zero]
 ·rw [sgetI _ _ (by rw [h.l1]; exact hj), List.length_append]
  have h1 := h.low q hq
  have h2 := h.low j hj
  simp only [List.length_cons, List.length_nil]
  split <;> omega
 ·rw [sgetB _ _ (by rw [h.l2]; exact hi), List.any_append]
  simp only [List.any_cons, List.any_nil, Bool.or_false]
  by_cases e : q = i
  ·subst e
   rw [if_pos rfl, show hitP w (w.troops.getD q default) b = true by unfold hitP; rw [hb, ei]; simp, Bool.or_true]
  ·rw [if_neg e, h.did q hq, show hitP w (w.troops.getD q default) b = false by
    unfold hitP; rw [decide_eq_false (fun e2 => hu.ne hq hi e (e2.symm.trans ei.symm))]; rfl, Bool.or_false]
section
variable {w : Wld} {b : Blw} {i j : Nat} {p q : Bool}
theorem blow_yes (h1 : p = (findT w b.by_).isSome) (h2 : (findT w b.by_).isSome = true → (w.troops.getD i default).id = b.by_ ∧ (findT w b.by_).getD trp0 = w.troops.getD i default)
 (h3 : q = (findT w b.at_).isSome) (h4 : (findT w b.at_).isSome = true → (w.troops.getD j default).id = b.at_ ∧ (findT w b.at_).getD trp0 = w.troops.getD j default) (hp : p = true) (hq : q = true) (hc : countB w (w.troops.getD i default) (w.troops.getD j default) = true) :
 blowB w b = true ∧ (w.troops.getD i default).id = b.by_ ∧ (w.troops.getD j default).id = b.at_ := by
 rw [hp] at h1; rw [hq] at h3
 have a := h2 h1.symm
 have c := h4 h3.symm
 refine ⟨?_, a.1, c.1⟩
 unfold blowB; rw [← h1, ← h3, a.2, c.2, hc]; rfl
theorem blow_no {done : List Bool} (hi : i < w.troops.length) (h1 : p = (findT w b.by_).isSome) (h2 : (findT w b.by_).isSome = true → (w.troops.getD i default).id = b.by_ ∧ (findT w b.by_).getD trp0 = w.troops.getD i default)
 (h3 : q = (findT w b.at_).isSome) (h4 : (findT w b.at_).isSome = true → (w.troops.getD j default).id = b.at_ ∧ (findT w b.at_).getD trp0 = w.troops.getD j default) (h : ((p = false ∨ q = false) ∨ done.getD i default = true) ∨ countB w (w.troops.getD i default) (w.troops.getD j default) = false) :
 blowB w b = false ∨ ∃ i, i < w.troops.length ∧ (w.troops.getD i default).id = b.by_ ∧ done.getD i default = true := by
 unfold blowB
 rw [← h1, ← h3]
 cases p with
 | false => exact .inl rfl
 | true =>
  cases q with
  | false => exact .inl rfl
  | true =>
   have a := h2 h1.symm
   have c := h4 h3.symm
   rw [a.2, c.2]
   rcases h with (h | h) | h
   ·simp at h
   ·exact .inr ⟨i, hi, a.1, h⟩
   ·exact .inl (by rw [h]; rfl)
end
end Go.Proofs.YtllmjdcblfkfaaaGreat
namespace Go.Proofs.YtllmjdcblfkfaaaGreat
set_option linter.all false
open Go.RowKit
set_option maxRecDepth 100000
set_option maxHeartbeats 1000000
theorem blows_1 (w : Wld) (l : List Blw) (hl : wldL w) (hw : worldE w = 0) (hll : l.length ≤ 200) (ht : 0 < w.troops.length) : Spec Tryz.prog 56 [wldA w, .c (.sl 2 (l.map blwP))] [] (.tup [.c (.sl 1 ((harmR w l).map i64P)), I .i64 (blowsE w l)]) [] := by
 have e : blowsE w l = 0 := by unfold blowsE; rw [if_neg (by simp [hw]), if_neg (by omega)]
 have hu := ups_ok hw
 obtain ⟨w1, w2, w3, w4, w5⟩ := worldE_ok hw
 refine spec_am Tryz.func56 rfl rfl mix 120 rfl [.tmp 4, .tmp 5] Tryz.results56 (Nat.le_of_ble_eq_true rfl) ?_
 (try (refine xst ?_; try exact xtI))
 refine caP (tcheck_s w hl) ?_
 (try (refine xst ?_; try exact xtI))
 refine cond_i (fun h1 => ?_) (fun h1 => ?_)
 ·(try replace h1 := xhh h1)
  exact absurd hw h1
 ·(try replace h1 := xhh h1)
  (try (refine xst ?_; try exact xtI))
  refine cond_i (fun h2 => ?_) (fun h2 => ?_)
  ·(try replace h2 := xhh h2)
   omega
  ·(try replace h2 := xhh h2)
   (try (refine xst ?_; try exact xtI))
   refine loopI (fun x : Nat × List (List Int × Int) => ⟨[(32, I .i64 x.1), (31, I .i64 w.troops.length), (30, .c (.sl 7 (w.troops.map trpP))), (7, .map 1), (2, .ptr 0 0 0), (1, .c (.sl 2 (l.map blwP)))], [(0, .blk 28 (wldC w)), (1, .mp false 1 x.2)], 2⟩) (fun x : Nat × List (List Int × Int) => x.1 ≤ w.troops.length ∧ IdxM w x.1 x.2) (fun x : Nat × List (List Int × Int) => w.troops.length - x.1) ((0, [])) (⟨Nat.zero_le _, fun i => rfl, fun j h => absurd h (Nat.not_lt_zero _)⟩) (To.mk [0, 1] rfl rfl (by decide) ?_ ?_) ?_
   ·simp (etaStruct := .none) only [push_cast, DrawG, seval]
   ·simp (etaStruct := .none) only [push_cast, DrawG, seval]
   rintro ⟨k, es⟩ ⟨hk, hn⟩
   simp only at hk hn
   (try (refine xst ?_; try exact xtI))
   refine cond_i (fun h3 => ?_) (fun h3 => ?_)
   ·(try replace h3 := xhh h3)
    have hlt : k < w.troops.length := by omega
    (iterate 2 ((try simp (etaStruct := .none) only [push_cast, DrawG, seval, getD_in _ _ _ hlt, trpP]); (try (refine xsu ?_; try exact xtI))))
    refine ⟨(k + 1, mput [(w.troops.getD k default).id] (k : Int) es), ⟨by simp only; omega, hn.step hu hlt⟩, by simp only; omega, To.mk [0, 1] rfl rfl (by decide) ?_ ?_⟩
    ·(iterate 2 ((try simp (etaStruct := .none) only [push_cast, DrawG, seval, getD_in _ _ _ hlt, trpP]); (try (refine xsu ?_; try exact xtI))))
    ·(iterate 2 ((try simp (etaStruct := .none) only [push_cast, DrawG, seval, getD_in _ _ _ hlt, trpP]); (try (refine xsu ?_; try exact xtI))))
   ·(try replace h3 := xhh h3)
    obtain rfl : k = w.troops.length := by omega
    have hget := hn.get ht
    (try (refine xst ?_; try exact xtI))
    refine loopI (fun x : Nat × List Int × List Bool => ⟨[(52, I .i64 x.1), (51, I .i64 l.length), (50, .c (.sl 2 (l.map blwP))), (11, .own 3), (10, .own 2), (7, .map 1), (2, .ptr 0 0 0)], [(0, .blk 28 (wldC w)), (1, .mp false 1 es), (2, .row 3 1 (x.2.1.map i64P)), (3, .row 4 1 (x.2.2.map boolP))], 4⟩) (fun x : Nat × List Int × List Bool => x.1 ≤ l.length ∧ HitInv w (l.take x.1) x.2.1 x.2.2) (fun x : Nat × List Int × List Bool => l.length - x.1) ((0, List.replicate w.troops.length 0, List.replicate w.troops.length false)) (⟨Nat.zero_le _, HitInv.start w⟩) (To.mk [0, 1, 2, 3] rfl rfl (by decide) ?_ ?_) ?_
    ·simp (etaStruct := .none) only [push_cast, DrawG, seval, List.map_replicate, List.length_replicate, i64P, boolP]
    ·simp (etaStruct := .none) only [push_cast, DrawG, seval]
    rintro ⟨k, harm, done⟩ ⟨hk, hinv⟩
    simp only at hk hinv
    have hl1 := hinv.l1
    have hl2 := hinv.l2
    (try (refine xst ?_; try exact xtI))
    refine cond_i (fun h4 => ?_) (fun h4 => ?_)
    ·(try replace h4 := xhh h4)
     have hlt : k < l.length := by omega
     obtain ⟨b, hb⟩ : ∃ b, b = l.getD k default := ⟨_, rfl⟩
     obtain ⟨i, hi, gi, mi1, mi2⟩ := hget b.by_
     obtain ⟨j, hj, gj, mj1, mj2⟩ := hget b.at_
     have hid : i < done.length := by omega
     have hjh : j < harm.length := by omega
     have htk : l.take (k + 1) = l.take k ++ [b] := by rw [take_snoc _ _ hlt, hb]
     have hlow := hinv.low j hj
     have hkh := kind_harm (w.troops.getD i default).kind
     rw [List.length_take] at hlow
     (iterate 2 ((try simp (etaStruct := .none) only [push_cast, DrawG, seval, getD_in _ _ _ hlt, ← hb, blwP, gi, gj, getD_in _ _ _ hid, getD_in _ _ _ hi, getD_in _ _ _ hj, getD_in _ _ _ hjh, trpP, boolP, i64P]); (try (refine xsu ?_; try exact xtI))))
     refine gcP (fun hcc => counts_s w (w.troops.getD i default) (w.troops.getD j default) hl hw (getD_mem _ _ hi) (getD_mem _ _ hj)) ?_
     (iterate 2 ((try simp (etaStruct := .none) only [push_cast, DrawG, seval, getD_in _ _ _ hlt, ← hb, blwP, gi, gj, getD_in _ _ _ hid, getD_in _ _ _ hi, getD_in _ _ _ hj, getD_in _ _ _ hjh, trpP, boolP, i64P]); (try (refine xsu ?_; try exact xtI))))
     (try (refine ⟨by kernel_rfl, ?_⟩))
     (iterate 2 ((try simp (etaStruct := .none) only [push_cast, DrawG, seval, getD_in _ _ _ hlt, ← hb, blwP, gi, gj, getD_in _ _ _ hid, getD_in _ _ _ hi, getD_in _ _ _ hj, getD_in _ _ _ hjh, trpP, boolP, i64P]); (try (refine xsu ?_; try exact xtI))))
     refine cond_i (fun h5 => ?_) (fun h5 => ?_)
     ·(try replace h5 := xhh h5)
      have hnx := hinv.skip hu b (blow_no hi mi1 mi2 mj1 mj2 h5)
      rw [← htk] at hnx
      (iterate 2 ((try simp (etaStruct := .none) only [push_cast, DrawG, seval, getD_in _ _ _ hlt, ← hb, blwP, gi, gj, getD_in _ _ _ hid, getD_in _ _ _ hi, getD_in _ _ _ hj, getD_in _ _ _ hjh, trpP, boolP, i64P]); (try (refine xsu ?_; try exact xtI))))
      refine ⟨(k + 1, harm, done), ⟨by simp only; omega, hnx⟩, by simp only; omega, To.mk [0, 1, 2, 3] rfl rfl (by decide) ?_ ?_⟩
      ·(iterate 2 ((try simp (etaStruct := .none) only [push_cast, DrawG, seval, getD_in _ _ _ hlt, ← hb, blwP, gi, gj, getD_in _ _ _ hid, getD_in _ _ _ hi, getD_in _ _ _ hj, getD_in _ _ _ hjh, trpP, boolP, i64P]); (try (refine xsu ?_; try exact xtI))))
      ·(iterate 2 ((try simp (etaStruct := .none) only [push_cast, DrawG, seval, getD_in _ _ _ hlt, ← hb, blwP, gi, gj, getD_in _ _ _ hid, getD_in _ _ _ hi, getD_in _ _ _ hj, getD_in _ _ _ hjh, trpP, boolP, i64P]); (try (refine xsu ?_; try exact xtI))))
     ·(try replace h5 := xhh h5)
      obtain ⟨y1, y2, y3⟩ := blow_yes mi1 mi2 mj1 mj2 h5.1.1.1 h5.1.1.2 h5.2
      have hnx := hinv.go hu y1 hi hj y2 y3 h5.1.2
      rw [← htk] at hnx
      (iterate 2 ((try simp (etaStruct := .none) only [push_cast, DrawG, seval, getD_in _ _ _ hlt, ← hb, blwP, gi, gj, getD_in _ _ _ hid, getD_in _ _ _ hi, getD_in _ _ _ hj, getD_in _ _ _ hjh, trpP, boolP, i64P]); (try (refine xsu ?_; try exact xtI))))
      refine caP (tkind_s (w.troops.getD i default).kind) ?_
      (iterate 2 ((try simp (etaStruct := .none) only [push_cast, DrawG, seval, getD_in _ _ _ hlt, ← hb, blwP, gi, gj, getD_in _ _ _ hid, getD_in _ _ _ hi, getD_in _ _ _ hj, getD_in _ _ _ hjh, trpP, boolP, i64P]); (try (refine xsu ?_; try exact xtI))))
      (try (refine ⟨by kernel_rfl, ?_⟩))
      (iterate 2 ((try simp (etaStruct := .none) only [push_cast, DrawG, seval, getD_in _ _ _ hlt, ← hb, blwP, gi, gj, getD_in _ _ _ hid, getD_in _ _ _ hi, getD_in _ _ _ hj, getD_in _ _ _ hjh, trpP, boolP, i64P]); (try (refine xsu ?_; try exact xtI))))
      refine ⟨(k + 1, harm.set j (harm.getD j default + (kindV (w.troops.getD i default).kind).load), done.set i true), ⟨by simp only; omega, hnx⟩, by simp only; omega, To.mk [0, 1, 2, 3] rfl rfl (by decide) ?_ ?_⟩
      ·(iterate 2 ((try simp (etaStruct := .none) only [push_cast, DrawG, seval, List.map_set, i64P, boolP]); (try (refine xsu ?_; try exact xtI))))
      ·(iterate 2 ((try simp (etaStruct := .none) only [push_cast, DrawG, seval, getD_in _ _ _ hlt, ← hb, blwP, gi, gj, getD_in _ _ _ hid, getD_in _ _ _ hi, getD_in _ _ _ hj, getD_in _ _ _ hjh, trpP, boolP, i64P]); (try (refine xsu ?_; try exact xtI))))
    ·(try replace h4 := xhh h4)
     obtain rfl : k = l.length := by omega
     rw [List.take_length] at hinv
     have e2 : harmR w l = harm := by unfold harmR; rw [if_pos e]; exact (harm_ext hl1 hinv.val).symm
     (try (refine xst ?_; try exact xtI))
     (first | (refine retA rfl (Wk.of ?_); (try simp (etaStruct := .none) only [push_cast, DrawG, seval]); first | done | (simp [e, e2, *]; done) | (simp_all [e, e2]; done)) | (refine retA rfl ?_; (try simp (etaStruct := .none) only [push_cast, DrawG, seval]); (try simp [e, e2, *]); (try exact wkc)))
theorem blows_0 (w : Wld) (l : List Blw) (hl : wldL w) (hw : worldE w = 0) (hll : l.length ≤ 200) (ht : w.troops = []) : Spec Tryz.prog 56 [wldA w, .c (.sl 2 (l.map blwP))] [] (.tup [.c (.sl 1 ((harmR w l).map i64P)), I .i64 (blowsE w l)]) [] := by
 have e : blowsE w l = 0 := by unfold blowsE; rw [if_neg (by simp [hw]), if_neg (by omega)]
 have e2 : harmR w l = [] := by unfold harmR harmL; rw [if_pos e, ht]; rfl
 obtain ⟨wf, wb, ws, wm, wt, wn, wo⟩ := w
 simp only at ht
 subst ht
 obtain ⟨w, hwd⟩ : ∃ w : Wld, w = ⟨wf, wb, ws, wm, [], wn, wo⟩ := ⟨_, rfl⟩
 refine spec_am Tryz.func56 rfl rfl mix 120 rfl [.tmp 4, .tmp 5] Tryz.results56 (Nat.le_of_ble_eq_true rfl) ?_
 (iterate 2 ((try simp (etaStruct := .none) only [push_cast, DrawG, seval, List.getD_nil]); (try (refine xsu ?_; try exact xtI))))
 refine caP (tcheck_s _ hl) ?_
 (iterate 2 ((try simp (etaStruct := .none) only [push_cast, DrawG, seval, List.getD_nil]); (try (refine xsu ?_; try exact xtI))))
 refine cond_i (fun h1 => ?_) (fun h1 => ?_)
 ·(try replace h1 := xhh h1)
  exact absurd hw h1
 ·(try replace h1 := xhh h1)
  (iterate 2 ((try simp (etaStruct := .none) only [push_cast, DrawG, seval, List.getD_nil]); (try (refine xsu ?_; try exact xtI))))
  refine cond_i (fun h2 => ?_) (fun h2 => ?_)
  ·(try replace h2 := xhh h2)
   omega
  ·(try replace h2 := xhh h2)
   (iterate 2 ((try simp (etaStruct := .none) only [push_cast, DrawG, seval, List.getD_nil]); (try (refine xsu ?_; try exact xtI))))
   refine loopI (fun _u : Unit => ⟨[(32, I .i64 0), (31, I .i64 0), (30, .c (.sl 7 [])), (7, .map 1), (2, .ptr 0 0 0), (1, .c (.sl 2 (l.map blwP)))], [(0, .blk 28 (wldC ⟨wf, wb, ws, wm, [], wn, wo⟩)), (1, .mp false 1 [])], 2⟩) (fun _u : Unit => Tr) (fun _u : Unit => 0) (()) (trI) (To.mk [0, 1] rfl rfl (by decide) ?_ ?_) ?_
   ·simp (etaStruct := .none) only [push_cast, DrawG, seval]
   ·simp (etaStruct := .none) only [push_cast, DrawG, seval]
   rintro _ _
   (iterate 2 ((try simp (etaStruct := .none) only [push_cast, DrawG, seval, List.getD_nil]); (try (refine xsu ?_; try exact xtI))))
   refine cond_i (fun h3 => ?_) (fun h3 => ?_)
   ·(try replace h3 := xhh h3)
    simp at h3
   ·(try replace h3 := xhh h3)
    (iterate 2 ((try simp (etaStruct := .none) only [push_cast, DrawG, seval, List.getD_nil]); (try (refine xsu ?_; try exact xtI))))
    refine loopI (fun k : Nat => ⟨[(52, I .i64 k), (51, I .i64 l.length), (50, .c (.sl 2 (l.map blwP))), (11, .own 3), (10, .own 2), (7, .map 1), (2, .ptr 0 0 0)], [(0, .blk 28 (wldC ⟨wf, wb, ws, wm, [], wn, wo⟩)), (1, .mp false 1 []), (2, .row 3 1 []), (3, .row 4 1 [])], 4⟩) (fun k : Nat => k ≤ l.length) (fun k : Nat => l.length - k) (0) (Nat.zero_le _) (To.mk [0, 1, 2, 3] rfl rfl (by decide) ?_ ?_) ?_
    ·simp (etaStruct := .none) only [push_cast, DrawG, seval]
    ·simp (etaStruct := .none) only [push_cast, DrawG, seval]
    rintro k hk
    (iterate 2 ((try simp (etaStruct := .none) only [push_cast, DrawG, seval, List.getD_nil]); (try (refine xsu ?_; try exact xtI))))
    refine cond_i (fun h4 => ?_) (fun h4 => ?_)
    ·(try replace h4 := xhh h4)
     have hlt : k < l.length := by omega
     (iterate 2 ((try simp (etaStruct := .none) only [push_cast, DrawG, seval, List.getD_nil, getD_in _ _ _ hlt, blwP]); (try (refine xsu ?_; try exact xtI))))
     repeat (with_reducible refine And.intro ?_ ?_; · (simp [mhas_nil]; done))
     refine gcallN ?_ ?_
     ·simp [mhas_nil]
     (iterate 2 ((try simp (etaStruct := .none) only [push_cast, DrawG, seval, List.getD_nil, getD_in _ _ _ hlt, blwP]); (try (refine xsu ?_; try exact xtI))))
     (try (refine ⟨by kernel_rfl, ?_⟩))
     (iterate 2 ((try simp (etaStruct := .none) only [push_cast, DrawG, seval, List.getD_nil, getD_in _ _ _ hlt, blwP]); (try (refine xsu ?_; try exact xtI))))
     refine cond_i (fun h5 => ?_) (fun h5 => ?_)
     ·(try replace h5 := xhh h5)
      (iterate 2 ((try simp (etaStruct := .none) only [push_cast, DrawG, seval, List.getD_nil, getD_in _ _ _ hlt, blwP]); (try (refine xsu ?_; try exact xtI))))
      refine ⟨k + 1, by omega, by omega, To.mk [0, 1, 2, 3] rfl rfl (by decide) ?_ ?_⟩
      ·(iterate 2 ((try simp (etaStruct := .none) only [push_cast, DrawG, seval, List.getD_nil, getD_in _ _ _ hlt, blwP]); (try (refine xsu ?_; try exact xtI))))
      ·(iterate 2 ((try simp (etaStruct := .none) only [push_cast, DrawG, seval, List.getD_nil, getD_in _ _ _ hlt, blwP]); (try (refine xsu ?_; try exact xtI))))
     ·(try replace h5 := xhh h5)
      simp [mhas_nil] at h5
    ·(try replace h4 := xhh h4)
     (iterate 2 ((try simp (etaStruct := .none) only [push_cast, DrawG, seval, List.getD_nil]); (try (refine xsu ?_; try exact xtI))))
     (first | (refine retA rfl (Wk.of ?_); (try simp (etaStruct := .none) only [push_cast, DrawG, seval]); first | done | (simp [e, e2, *]; done) | (simp_all [e, e2]; done)) | (refine retA rfl ?_; (try simp (etaStruct := .none) only [push_cast, DrawG, seval]); (try simp [e, e2, *]); (try exact wkc)))
abbrev blwA (b : Blw) : AV := .agg [I .i64 b.by_, I .i64 b.at_]
theorem find_box {w : Wld} (hw : worldE w = 0) (n : Int) : 0 ≤ ((findT w n).getD trp0).c.x ∧ ((findT w n).getD trp0).c.x ≤ 40 ∧ 0 ≤ ((findT w n).getD trp0).c.y ∧ ((findT w n).getD trp0).c.y ≤ 40 ∧ ((findT w n).isSome = true → (findT w n).getD trp0 ∈ w.troops) := by
 cases h : (findT w n).isSome with
 | false =>
  have : findT w n = none := by cases hf : findT w n; rfl; rw [hf] at h; simp at h
  rw [this]; simp [trp0]
 | true =>
  obtain ⟨i, hi, _, e⟩ := findT_some h
  have hm := getD_mem w.troops i hi
  have ok := troop_mem hw hm
  have hx := ok.x; have hy := ok.y
  have := fldE_ok (worldE_ok hw).1
  rw [e]
  exact ⟨hx.1, by omega, hy.1, by omega, fun _ => hm⟩
theorem king_max2 (a b : Cel) : (if (a.x - b.x).natAbs < (a.y - b.y).natAbs then ((a.y - b.y).natAbs : Int) else ((a.x - b.x).natAbs : Int)) = (kingD a b : Int) := by
 unfold kingD; split <;> omega
theorem blowc_s (w : Wld) (b : Blw) (hl : wldL w) (hw : worldE w = 0) : Spec Tryz.prog 108 [wldA w, blwA b] [] (B (blowB w b)) [] := by
 have hf := (worldE_ok hw).1
 obtain ⟨x, hx⟩ : ∃ x, x = (findT w b.by_).getD trp0 := ⟨_, rfl⟩
 obtain ⟨y, hy⟩ : ∃ y, y = (findT w b.at_).getD trp0 := ⟨_, rfl⟩
 obtain ⟨p, hp⟩ : ∃ p, p = (findT w b.by_).isSome := ⟨_, rfl⟩
 obtain ⟨q, hq⟩ : ∃ q, q = (findT w b.at_).isSome := ⟨_, rfl⟩
 have fx := find_box hw b.by_
 have fy := find_box hw b.at_
 have e : blowB w b = (p && q && countB w x y) := by unfold blowB; rw [← hp, ← hq, ← hx, ← hy]
 rw [← hx, ← hp] at fx
 rw [← hy, ← hq] at fy
 have kx : p = true → x.kind = 1 ∨ x.kind = 2 := fun h => (troop_mem hw (fx.2.2.2.2 h)).kind
 have ix : p = true → inF w.f x.c = true := fun h => (ground_iff.1 (troop_mem hw (fx.2.2.2.2 h)).at_).1
 have iy : q = true → inF w.f y.c = true := fun h => (ground_iff.1 (troop_mem hw (fy.2.2.2.2 h)).at_).1
 refine spec_am Tryz.func108 rfl rfl mix 65 rfl [.tmp 4] Tryz.results108 (Nat.le_of_ble_eq_true rfl) ?_
 (iterate 2 ((try simp (etaStruct := .none) only [push_cast, DrawG, seval, ← hx, ← hy, ← hp, ← hq]); (try (refine xsu ?_; try exact xtI))))
 refine caP (troopOf_s w b.by_ hl) ?_
 (iterate 2 ((try simp (etaStruct := .none) only [push_cast, DrawG, seval, ← hx, ← hy, ← hp, ← hq]); (try (refine xsu ?_; try exact xtI))))
 refine caP (troopOf_s w b.at_ hl) ?_
 (iterate 2 ((try simp (etaStruct := .none) only [push_cast, DrawG, seval, ← hx, ← hy, ← hp, ← hq]); (try (refine xsu ?_; try exact xtI))))
 refine gcP (fun hcc => far_s x.c.x y.c.x (by omega) (by omega)) ?_
 (iterate 2 ((try simp (etaStruct := .none) only [push_cast, DrawG, seval, ← hx, ← hy, ← hp, ← hq]); (try (refine xsu ?_; try exact xtI))))
 refine gcP (fun hcc => far_s x.c.y y.c.y (by omega) (by omega)) ?_
 (iterate 2 ((try simp (etaStruct := .none) only [push_cast, DrawG, seval, ← hx, ← hy, ← hp, ← hq]); (try (refine xsu ?_; try exact xtI))))
 refine gcP (fun hcc => kindOf_s x.kind (kx (by simp at hcc; exact hcc.1.1))) ?_
 (iterate 2 ((try simp (etaStruct := .none) only [push_cast, DrawG, seval, ← hx, ← hy, ← hp, ← hq]); (try (refine xsu ?_; try exact xtI))))
 refine gcP (fun hcc => looks_s w.f x.c y.c hf (ix (by simp at hcc; exact hcc.1.1.1)) (iy (by simp at hcc; exact hcc.1.1.2))) ?_
 (iterate 2 ((try simp (etaStruct := .none) only [push_cast, DrawG, seval, ← hx, ← hy, ← hp, ← hq]); (try (refine xsu ?_; try exact xtI))))
 (try (refine ⟨by kernel_rfl, ?_⟩))
 (iterate 2 ((try simp (etaStruct := .none) only [push_cast, DrawG, seval, ← hx, ← hy, ← hp, ← hq]); (try (refine xsu ?_; try exact xtI))))
 clear hx hy hp hq fx fy kx ix iy
 (first | (refine retA rfl (Wk.of ?_); (try simp (etaStruct := .none) only [push_cast, DrawG, seval]); first | done | (simp [e, countB, king_max2, Bool.and_assoc, *]; done) | (simp_all [e, countB, king_max2, Bool.and_assoc]; done)) | (refine retA rfl ?_; (try simp (etaStruct := .none) only [push_cast, DrawG, seval]); (try simp [e, countB, king_max2, Bool.and_assoc, *]); (try exact wkc)))
abbrev wldPV (w : Wld) : List PV := [pI w.f.w, pI w.f.h, .sl 1 (w.f.p.map i64P), .sl 2 (w.bases.map celP), .sl 1 (w.stocks.map i64P), .sl 1 (w.mines.map i64P), .sl 7 (w.troops.map trpP), pI w.next, pI w.now]
abbrev trpPV (t : Trp) : List PV := [pI t.id, pI t.owner, pI t.kind, pI t.c.x, pI t.c.y, pI t.life, pI t.load]
theorem harmc_s (w : Wld) (t : Trp) (b : Blw) (hl : wldL w) (hw : worldE w = 0) : Spec Tryz.prog 107 ([] ++ [blwA b] ++ [.fel 7 [trpPV t] 0 0, .fel 9 [wldPV w] 0 0]) [] (B (hitP w t b)) [] := by
 refine spec_am Tryz.func107 rfl rfl mix 15 rfl [.tmp 4] Tryz.results107 (Nat.le_of_ble_eq_true rfl) ?_
 (try (refine xst ?_; try exact xtI))
 refine gcP (fun hcc => blowc_s w b hl hw) ?_
 (try (refine xst ?_; try exact xtI))
 (first | (refine retA rfl (Wk.of ?_); (try simp (etaStruct := .none) only [push_cast, DrawG, seval]); first | done | (simp [hitP, *]; done) | (simp_all [hitP]; done)) | (refine retA rfl ?_; (try simp (etaStruct := .none) only [push_cast, DrawG, seval]); (try simp [hitP, *]); (try exact wkc)))
theorem blw_ix (F : FuncId) (a b : List AV) (l : List Blw) (p : Blw → Bool) (hl : l.length ≤ 9223372036854775807) (hp : ∀ n ∈ l, Spec Tryz.prog F (a ++ [blwA n] ++ b) [] (B (p n)) []) (ha : ∀ h, cvL [] h a = a) (hb : ∀ h, cvL [] h b = b) :
 Spec Tryz.prog 106 [.c (.sl 2 (l.map blwP)), .clo (.func F) a b] [] (I .i64 (ixOf p l)) [] := by
 refine spec_am Tryz.func106 rfl rfl mix 19 rfl [.tmp 4] Tryz.results106 (Nat.le_of_ble_eq_true rfl) ?_
 simp (etaStruct := .none) only [push_cast, DrawG, seval]
 refine loopI (fun k : Nat => ⟨[(8, I .i64 k), (7, I .i64 l.length), (0, .c (.sl 2 (l.map blwP))), (1, .clo (.func F) a b)], [], 0⟩) (fun k => k ≤ l.length ∧ ∀ j (hj : j < l.length), j < k → p l[j] = false) (fun k => l.length - k) 0 ⟨Nat.zero_le _, fun j _ h => by omega⟩ (To.mk [] rfl rfl List.nodup_nil trivial ?_) ?_
 ·simp (etaStruct := .none) only [push_cast, DrawG, seval, ha, hb]
 ·rintro k ⟨hk, hn⟩
  simp (etaStruct := .none) only [push_cast, DrawG, seval]
  refine cond_i (fun h => ?_) (fun h => ?_)
  ·have hlt : k < l.length := by simpa using h
   simp (etaStruct := .none) only [push_cast, DrawG, seval, getD_map _ _ _ hlt, blwP]
   repeat with_reducible refine obA ?_
   refine callP (hp _ (List.getElem_mem hlt)) (by simp only [cvL_append, ha, hb, cvL, cv]; exact WkL.refl _) ?_
   simp (etaStruct := .none) only [push_cast, DrawG, seval]
   refine cond_i (fun h => ?_) (fun h => ?_)
   ·simp (etaStruct := .none) only [push_cast, DrawG, seval]
    exact ret0 rfl trivial (Wk.of (by rw [ixOf_hit p l k hlt h hn]; rfl))
   ·simp (etaStruct := .none) only [push_cast, DrawG, seval]
    refine ⟨k + 1, ⟨by omega, fun j hj hjk => ?_⟩, by omega, To.mk [] rfl rfl List.nodup_nil trivial ?_⟩
    ·by_cases e : j = k
     ·subst e; exact h
     ·exact hn j hj (by omega)
    ·simp (etaStruct := .none) only [push_cast, DrawG, seval, ha, hb]
     simp (disch := omega) only [wrap_in, wk_self, tdv, tmd]
  ·have hge : k = l.length := by simp at h; omega
   subst hge
   simp (etaStruct := .none) only [push_cast, DrawG, seval]
   exact ret0 rfl trivial (Wk.of (by rw [ixOf_miss p l (fun j hj => hn j hj hj)]; rfl))
theorem hit_sum (w : Wld) (l : List Blw) (id : Int) (k : Nat) (h : k < w.troops.length) : sumI ((w.troops.take (k + 1)).map (hitC w l id)) = sumI ((w.troops.take k).map (hitC w l id)) + hitC w l id (w.troops.getD k default) := by
 rw [take_snoc _ _ h, List.map_append, List.map_cons, List.map_nil, sumI_snoc]
theorem hit_b (w : Wld) (l : List Blw) (id : Int) (t : Trp) : 0 ≤ hitC w l id t ∧ hitC w l id t ≤ 4 := by
 have := kind_harm t.kind
 unfold hitC
 split
 ·split <;> omega
 ·omega
theorem sum_b (w : Wld) (l : List Blw) (id : Int) : ∀ ts : List Trp, 0 ≤ sumI (ts.map (hitC w l id)) ∧ sumI (ts.map (hitC w l id)) ≤ 4 * ts.length
 | [] => by simp [sumI]
 | t :: r => by
  have h1 := sum_b w l id r
  have h2 := hit_b w l id t
  simp only [sumI, List.map_cons, List.sum_cons, List.length_cons] at *
  omega
theorem harm_s (w : Wld) (l : List Blw) (id : Int) (hl : wldL w) (hw : worldE w = 0) (hll : l.length ≤ 200) (hpos : 0 < l.length) : Spec Tryz.prog 77 [wldA w, .c (.sl 2 (l.map blwP)), I .i64 id] [] (I .i64 (harmV w l id)) [] := by
 have w3 := (worldE_ok hw).2.2.1
 refine spec_am Tryz.func77 rfl rfl mix 40 rfl [.tmp 6] Tryz.results77 (Nat.le_of_ble_eq_true rfl) ?_
 (try (refine xst ?_; try exact xtI))
 refine loopI (fun k : Nat => ⟨[(14, I .i64 k), (13, I .i64 w.troops.length), (12, .c (.sl 7 (w.troops.map trpP))), (7, I .i64 (sumI ((w.troops.take k).map (hitC w l id)))), (3, .ptr 0 0 0), (2, I .i64 id), (1, .c (.sl 2 (l.map blwP)))], [(0, .blk 28 (wldC w))], 1⟩) (fun k : Nat => k ≤ w.troops.length) (fun k : Nat => w.troops.length - k) (0) (Nat.zero_le _) (To.mk [0] rfl rfl (by decide) ?_ ?_) ?_
 ·simp (etaStruct := .none) only [push_cast, DrawG, seval]
 ·simp (etaStruct := .none) only [push_cast, DrawG, seval, List.take_zero, List.map_nil, sumI, List.sum_nil]
 rintro k hk
 have hsb := sum_b w l id (w.troops.take k)
 rw [List.length_take] at hsb
 (try (refine xst ?_; try exact xtI))
 refine cond_i (fun h1 => ?_) (fun h1 => ?_)
 ·(try replace h1 := xhh h1)
  have hlt : k < w.troops.length := by omega
  have hst := hit_sum w l id k hlt
  obtain ⟨i, hi, gi, hc⟩ : ∃ i : Nat, i < l.length ∧ (ixOf (hitP w (w.troops.getD k default)) l).toNat = i ∧ hitC w l id (w.troops.getD k default) = if 0 ≤ ixOf (hitP w (w.troops.getD k default)) l ∧ (l.getD i default).at_ = id then (kindV (w.troops.getD k default).kind).load else 0 := by
   rcases ixOf_find (hitP w (w.troops.getD k default)) l with ⟨i, hi, e1, e2⟩ | ⟨e1, e2⟩
   ·refine ⟨i, hi, by rw [e1]; rfl, ?_⟩
    unfold hitC
    rw [e2, e1]
    by_cases h : (l.getD i default).at_ = id
    ·rw [if_pos ⟨by omega, h⟩]; simp only; rw [if_pos h]
    ·rw [if_neg (fun h2 => h h2.2)]; simp only; rw [if_neg h]
   ·refine ⟨0, hpos, by rw [e1]; rfl, ?_⟩
    unfold hitC
    rw [e2, e1, if_neg (fun h => by omega)]
  obtain ⟨ig1, ig2⟩ := ixOf_ge (hitP w (w.troops.getD k default)) l
  have hkh := kind_harm (w.troops.getD k default).kind
  have hko := (troop_ok hw hlt).1.kind
  (iterate 2 ((try simp (etaStruct := .none) only [push_cast, DrawG, seval, getD_in _ _ _ hlt, trpP, gi, getD_in _ _ _ hi, blwP]); (try (refine xsu ?_; try exact xtI))))
  refine callB (blw_ix _ [] [.fel 7 [trpPV (w.troops.getD k default)] 0 0, .fel 9 [wldPV w] 0 0] l (hitP w (w.troops.getD k default)) (by omega) (fun b _ => harmc_s w _ b hl hw) (fun _ => rfl) (fun _ => rfl)) (WkL.refl _) rfl ?_
  (iterate 2 ((try simp (etaStruct := .none) only [push_cast, DrawG, seval, getD_in _ _ _ hlt, trpP, gi, getD_in _ _ _ hi, blwP]); (try (refine xsu ?_; try exact xtI))))
  refine cond_i (fun h2 => ?_) (fun h2 => ?_)
  ·(try replace h2 := xhh h2)
   rw [if_pos h2] at hc
   (iterate 2 ((try simp (etaStruct := .none) only [push_cast, DrawG, seval, getD_in _ _ _ hlt, trpP, gi, getD_in _ _ _ hi, blwP]); (try (refine xsu ?_; try exact xtI))))
   refine caP (kindOf_s (w.troops.getD k default).kind hko) ?_
   (iterate 2 ((try simp (etaStruct := .none) only [push_cast, DrawG, seval, getD_in _ _ _ hlt, trpP, gi, getD_in _ _ _ hi, blwP]); (try (refine xsu ?_; try exact xtI))))
   refine ⟨k + 1, by omega, by omega, To.mk [0] rfl rfl (by decide) ?_ ?_⟩
   ·(iterate 2 ((try simp (etaStruct := .none) only [push_cast, DrawG, seval, hst, hc, Int.add_zero]); (try (refine xsu ?_; try exact xtI))))
   ·(iterate 2 ((try simp (etaStruct := .none) only [push_cast, DrawG, seval, hst, hc, Int.add_zero]); (try (refine xsu ?_; try exact xtI))))
  ·(try replace h2 := xhh h2)
   rw [if_neg (fun h => by rcases h2 with h3 | h3; omega; exact h3 h.2)] at hc
   (iterate 2 ((try simp (etaStruct := .none) only [push_cast, DrawG, seval, getD_in _ _ _ hlt, trpP, gi, getD_in _ _ _ hi, blwP]); (try (refine xsu ?_; try exact xtI))))
   refine ⟨k + 1, by omega, by omega, To.mk [0] rfl rfl (by decide) ?_ ?_⟩
   ·(iterate 2 ((try simp (etaStruct := .none) only [push_cast, DrawG, seval, hst, hc, Int.add_zero]); (try (refine xsu ?_; try exact xtI))))
   ·(iterate 2 ((try simp (etaStruct := .none) only [push_cast, DrawG, seval, hst, hc, Int.add_zero]); (try (refine xsu ?_; try exact xtI))))
 ·(try replace h1 := xhh h1)
  obtain rfl : k = w.troops.length := by omega
  have e : harmV w l id = sumI ((w.troops.take w.troops.length).map (hitC w l id)) := by rw [List.take_length]; rfl
  (try (refine xst ?_; try exact xtI))
  (first | (refine retA rfl (Wk.of ?_); (try simp (etaStruct := .none) only [push_cast, DrawG, seval]); first | done | (simp [e, *]; done) | (simp_all [e]; done)) | (refine retA rfl ?_; (try simp (etaStruct := .none) only [push_cast, DrawG, seval]); (try simp [e, *]); (try exact wkc)))
theorem harm_s0 (w : Wld) (id : Int) (hl : wldL w) (hw : worldE w = 0) : Spec Tryz.prog 77 [wldA w, .c (.sl 2 []), I .i64 id] [] (I .i64 0) [] := by
 have w3 := (worldE_ok hw).2.2.1
 refine spec_am Tryz.func77 rfl rfl mix 40 rfl [.tmp 6] Tryz.results77 (Nat.le_of_ble_eq_true rfl) ?_
 (try (refine xst ?_; try exact xtI))
 refine loopI (fun k : Nat => ⟨[(14, I .i64 k), (13, I .i64 w.troops.length), (12, .c (.sl 7 (w.troops.map trpP))), (7, I .i64 0), (3, .ptr 0 0 0), (2, I .i64 id), (1, .c (.sl 2 []))], [(0, .blk 28 (wldC w))], 1⟩) (fun k : Nat => k ≤ w.troops.length) (fun k : Nat => w.troops.length - k) (0) (Nat.zero_le _) (To.mk [0] rfl rfl (by decide) ?_ ?_) ?_
 ·simp (etaStruct := .none) only [push_cast, DrawG, seval]
 ·simp (etaStruct := .none) only [push_cast, DrawG, seval]
 rintro k hk
 (try (refine xst ?_; try exact xtI))
 refine cond_i (fun h1 => ?_) (fun h1 => ?_)
 ·(try replace h1 := xhh h1)
  have hlt : k < w.troops.length := by omega
  have hz : ixOf (hitP w (w.troops.getD k default)) ([] : List Blw) = -1 := rfl
  (iterate 2 ((try simp (etaStruct := .none) only [push_cast, DrawG, seval, getD_in _ _ _ hlt, trpP, List.getD_nil]); (try (refine xsu ?_; try exact xtI))))
  refine callB (blw_ix _ [] [.fel 7 [trpPV (w.troops.getD k default)] 0 0, .fel 9 [wldPV w] 0 0] [] (hitP w (w.troops.getD k default)) (by simp) (fun b _ => harmc_s w _ b hl hw) (fun _ => rfl) (fun _ => rfl)) (WkL.refl _) rfl ?_
  (iterate 2 ((try simp (etaStruct := .none) only [push_cast, DrawG, seval, getD_in _ _ _ hlt, trpP, List.getD_nil]); (try (refine xsu ?_; try exact xtI))))
  repeat (with_reducible refine And.intro ?_ ?_; · (simp [hz]; done))
  refine cond_i (fun h2 => ?_) (fun h2 => ?_)
  ·(try replace h2 := xhh h2)
   exact absurd h2 (by decide)
  ·(try replace h2 := xhh h2)
   (iterate 2 ((try simp (etaStruct := .none) only [push_cast, DrawG, seval, getD_in _ _ _ hlt, trpP, List.getD_nil]); (try (refine xsu ?_; try exact xtI))))
   refine ⟨k + 1, by omega, by omega, To.mk [0] rfl rfl (by decide) ?_ ?_⟩
   ·(iterate 2 ((try simp (etaStruct := .none) only [push_cast, DrawG, seval, getD_in _ _ _ hlt, trpP, List.getD_nil]); (try (refine xsu ?_; try exact xtI))))
   ·(iterate 2 ((try simp (etaStruct := .none) only [push_cast, DrawG, seval, getD_in _ _ _ hlt, trpP, List.getD_nil]); (try (refine xsu ?_; try exact xtI))))
 ·(try replace h1 := xhh h1)
  skip
  (try (refine xst ?_; try exact xtI))
  exact xrz rfl
theorem harm_a (w : Wld) (l : List Blw) (id : Int) (hl : wldL w) (hw : worldE w = 0) (hll : l.length ≤ 200) : Spec Tryz.prog 77 [wldA w, .c (.sl 2 (l.map blwP)), I .i64 id] [] (I .i64 (harmV w l id)) [] := by
 cases l with
 | nil => rw [harm_nil]; exact harm_s0 w id hl hw
 | cons a r => exact harm_s w (a :: r) id hl hw hll (by simp)
theorem hblows_s (w : Wld) (l : List Blw) (hl : wldL w) (hll : l.length ≤ 9223372036854775807) : Spec Tryz.prog 56 [wldA w, .c (.sl 2 (l.map blwP))] [] (.tup [.c (.sl 1 ((harmR w l).map i64P)), I .i64 (blowsE w l)]) [] := by
 by_cases h : blowsE w l = 0
 ·have h1 : worldE w = 0 := by unfold blowsE at h; split at h; rename_i h1; exact absurd h h1; rename_i h1; simpa using h1
  have h2 : l.length ≤ 200 := by unfold blowsE at h; rw [if_neg (by simp [h1])] at h; split at h; simp at h; omega
  rcases Nat.eq_zero_or_pos w.troops.length with h3 | h3
  ·exact blows_0 w l hl h1 h2 (List.eq_nil_of_length_eq_zero h3)
  ·exact blows_1 w l hl h1 h2 h3
 ·exact blows_e w l hl hll h
theorem hown_s (w : Wld) (hw : worldE w = 0) : Spec Tryz.prog 57 [wldA w] [] (wldA w) [] := by
 obtain ⟨w1, w2, w3, w4, w5⟩ := worldE_ok hw
 obtain ⟨v1, v2, v3, v4⟩ := worldF_ok w4
 obtain ⟨⟨f1, f2⟩, ⟨f3, f4⟩, f5, f6⟩ := fldE_ok w1
 have hm : w.f.w * w.f.h ≤ 40 * 40 := Int.mul_le_mul f2 f4 (by omega) (by omega)
 refine spec_am Tryz.func57 rfl rfl mix 26 rfl [.cell 2 28] Tryz.results57 (Nat.le_of_ble_eq_true rfl) ?_
 (try (refine xst ?_; try exact xtI))
 refine caP (int_copy w.f.p (by omega)) ?_
 (try (refine xst ?_; try exact xtI))
 refine caP (cel_copy w.bases (by omega)) ?_
 (try (refine xst ?_; try exact xtI))
 refine caP (int_copy w.stocks (by omega)) ?_
 (try (refine xst ?_; try exact xtI))
 (try (refine ⟨by kernel_rfl, ?_⟩))
 (try (refine xst ?_; try exact xtI))
 refine caP (int_copy w.mines (by omega)) ?_
 (try (refine xst ?_; try exact xtI))
 refine caP (trp_copy w.troops (by omega)) ?_
 (try (refine xst ?_; try exact xtI))
 (try (refine ⟨by kernel_rfl, ?_⟩))
 (try (refine xst ?_; try exact xtI))
 exact xrz rfl
def wld0 : Wld := ⟨⟨0, 0, []⟩, [], [], [], [], 0, 0⟩
def leftK (w : Wld) (l : List Blw) (k : Nat) : List Trp := ((w.troops.take k).map (woundT w l)).filter fun t => decide (0 < t.life)
def goneK (w : Wld) (l : List Blw) (k : Nat) : List Int := (((w.troops.take k).map (woundT w l)).filter fun t => !decide (0 < t.life)).map (·.id)
theorem leftK_step (w : Wld) (l : List Blw) {k : Nat} (h : k < w.troops.length) : leftK w l (k + 1) = leftK w l k ++ (if 0 < (woundT w l (w.troops.getD k default)).life then [woundT w l (w.troops.getD k default)] else []) := by
 unfold leftK
 rw [take_snoc _ _ h, List.map_append, List.filter_append, List.map_cons, List.map_nil, List.filter_cons, List.filter_nil]
 simp only [decide_eq_true_eq]
theorem goneK_step (w : Wld) (l : List Blw) {k : Nat} (h : k < w.troops.length) : goneK w l (k + 1) = goneK w l k ++ (if 0 < (woundT w l (w.troops.getD k default)).life then [] else [(w.troops.getD k default).id]) := by
 unfold goneK
 rw [take_snoc _ _ h, List.map_append, List.filter_append, List.map_cons, List.map_nil, List.filter_cons, List.filter_nil, List.map_append]
 by_cases h2 : 0 < (woundT w l (w.troops.getD k default)).life
 ·rw [if_pos h2, decide_eq_true h2]; simp
 ·rw [if_neg h2, decide_eq_false h2]; simp [woundT]
theorem leftK_len (w : Wld) (l : List Blw) (k : Nat) : (leftK w l k).length ≤ k := by
 have h1 := List.length_filter_le (fun t : Trp => decide (0 < t.life)) ((w.troops.take k).map (woundT w l))
 rw [List.length_map, List.length_take] at h1
 exact Nat.le_trans h1 (Nat.min_le_left _ _)
theorem goneK_len (w : Wld) (l : List Blw) (k : Nat) : (goneK w l k).length ≤ k := by
 unfold goneK
 rw [List.length_map]
 have h1 := List.length_filter_le (fun t : Trp => !decide (0 < t.life)) ((w.troops.take k).map (woundT w l))
 rw [List.length_map, List.length_take] at h1
 exact Nat.le_trans h1 (Nat.min_le_left _ _)
theorem leftK_all (w : Wld) (l : List Blw) : leftK w l w.troops.length = leftV w l := by unfold leftK; rw [List.take_length]; rfl
theorem goneK_all (w : Wld) (l : List Blw) : goneK w l w.troops.length = goneV w l := by unfold goneK; rw [List.take_length]; rfl
theorem harmV_b (w : Wld) (l : List Blw) (id : Int) : 0 ≤ harmV w l id ∧ harmV w l id ≤ 4 * w.troops.length := sum_b w l id w.troops
def struckR (w : Wld) (l : List Blw) : Wld := if blowsE w l = 0 then struckW w l else wld0
def goneR (w : Wld) (l : List Blw) : List Int := if blowsE w l = 0 then goneV w l else []
theorem life_b {w : Wld} (hw : worldE w = 0) {k : Nat} (h : k < w.troops.length) : 1 ≤ (w.troops.getD k default).life ∧ (w.troops.getD k default).life ≤ 20 := by
 have h1 := (troop_ok hw h).1
 have := h1.life
 have k1 : (kindV 1).life = 10 := rfl
 have k2 : (kindV 2).life = 20 := rfl
 rcases h1.kind with e | e
 ·rw [e, k1] at this; omega
 ·rw [e, k2] at this; omega
theorem hstruck_e (w : Wld) (l : List Blw) (hl : wldL w) (hll : l.length ≤ 9223372036854775807) (h : blowsE w l ≠ 0) : Spec Tryz.prog 32 [wldA w, .c (.sl 2 (l.map blwP))] [] (.tup [wldA (struckR w l), .c (.sl 1 ((goneR w l).map i64P)), I .i64 (blowsE w l)]) [] := by
 have e1 : struckR w l = wld0 := by unfold struckR; rw [if_neg h]
 have e2 : goneR w l = [] := by unfold goneR; rw [if_neg h]
 refine spec_am Tryz.func32 rfl rfl mix 62 rfl [.cell 4 28, .tmp 5, .tmp 6] Tryz.results32 (Nat.le_of_ble_eq_true rfl) ?_
 (try (refine xst ?_; try exact xtI))
 refine caP (hblows_s w l hl hll) ?_
 (try (refine xst ?_; try exact xtI))
 refine cond_i (fun h1 => ?_) (fun h1 => ?_)
 ·(try replace h1 := xhh h1)
  (try (refine xst ?_; try exact xtI))
  (first | (refine retA rfl (Wk.of ?_); (try simp (etaStruct := .none) only [push_cast, DrawG, seval]); first | done | (simp [e1, e2, wld0, *]; done) | (simp_all [e1, e2, wld0]; done)) | (refine retA rfl ?_; (try simp (etaStruct := .none) only [push_cast, DrawG, seval]); (try simp [e1, e2, wld0, *]); (try exact wkc)))
 ·(try replace h1 := xhh h1)
  exact absurd h1 h
theorem hstruck_k (w : Wld) (l : List Blw) (hl : wldL w) (hll : l.length ≤ 9223372036854775807) (h : blowsE w l = 0) : Spec Tryz.prog 32 [wldA w, .c (.sl 2 (l.map blwP))] [] (.tup [wldA (struckR w l), .c (.sl 1 ((goneR w l).map i64P)), I .i64 (blowsE w l)]) [] := by
 have hw : worldE w = 0 := by unfold blowsE at h; split at h; rename_i h1; exact absurd h h1; rename_i h1; simpa using h1
 have w3 := (worldE_ok hw).2.2.1
 have hr : harmR w l = harmL w l := by unfold harmR; rw [if_pos h]
 have hrl : (harmL w l).length = w.troops.length := by unfold harmL; rw [List.length_map]
 refine spec_am Tryz.func32 rfl rfl mix 62 rfl [.cell 4 28, .tmp 5, .tmp 6] Tryz.results32 (Nat.le_of_ble_eq_true rfl) ?_
 (try (refine xst ?_; try exact xtI))
 refine caP (hblows_s w l hl hll) ?_
 (try (refine xst ?_; try exact xtI))
 refine cond_i (fun h1 => ?_) (fun h1 => ?_)
 ·(try replace h1 := xhh h1)
  exact absurd h h1
 ·(try replace h1 := xhh h1)
  (try (refine xst ?_; try exact xtI))
  refine caP (hown_s w hw) ?_
  (try (refine xst ?_; try exact xtI))
  refine loopI (fun k : Nat => ⟨[(32, I .i64 k), (31, I .i64 w.troops.length), (30, .c (.sl 7 (w.troops.map trpP))), (10, .own 2), (9, .own 3), (7, .c (.sl 1 ((harmR w l).map i64P))), (4, .ptr 1 0 0), (2, .ptr 0 0 0)], [(0, .blk 28 (wldC w)), (1, .blk 28 [I .i64 0, I .i64 0, .c (.v (.slice none 0 0)), .c (.v (.slice none 0 0)), .c (.v (.slice none 0 0)), .c (.v (.slice none 0 0)), .c (.v (.slice none 0 0)), I .i64 0, I .i64 0]), (2, .row 83 7 ((leftK w l k).map trpP)), (3, .row 3 1 ((goneK w l k).map i64P))], 4⟩) (fun k : Nat => k ≤ w.troops.length) (fun k : Nat => w.troops.length - k) (0) (Nat.zero_le _) ((To.nil 9 3 1 rfl).trans (To.mk [0, 1, 2, 3] rfl rfl (by decide) ?_ ?_)) ?_
  ·simp (etaStruct := .none) only [push_cast, DrawG, seval, leftK, goneK, List.take_zero, List.map_nil, List.filter_nil]
  ·simp (etaStruct := .none) only [push_cast, DrawG, seval]
  rintro k hk
  (try (refine xst ?_; try exact xtI))
  refine cond_i (fun h2 => ?_) (fun h2 => ?_)
  ·(try replace h2 := xhh h2)
   have hlt : k < w.troops.length := by omega
   have hrk : k < (harmR w l).length := by rw [hr, hrl]; exact hlt
   have hrv : (harmR w l).getD k default = harmV w l (w.troops.getD k default).id := by
    rw [hr, getD_at _ _ (by rw [hrl]; exact hlt)]
    simp only [harmL, List.getElem_map]; rw [getD_at _ _ hlt]
   have hb := harmV_b w l (w.troops.getD k default).id
   have hlb := life_b hw hlt
   have st1 := leftK_step w l hlt
   have st2 := goneK_step w l hlt
   have ll1 := leftK_len w l k
   have ll2 := goneK_len w l k
   have hwl : (woundT w l (w.troops.getD k default)).life = (w.troops.getD k default).life - harmV w l (w.troops.getD k default).id := rfl
   (iterate 2 ((try simp (etaStruct := .none) only [push_cast, DrawG, seval, getD_in _ _ _ hlt, trpP, getD_in _ _ _ hrk, hrv, i64P]); (try (refine xsu ?_; try exact xtI))))
   (try (refine ⟨by kernel_rfl, ?_⟩))
   (iterate 2 ((try simp (etaStruct := .none) only [push_cast, DrawG, seval, getD_in _ _ _ hlt, trpP, getD_in _ _ _ hrk, hrv, i64P]); (try (refine xsu ?_; try exact xtI))))
   refine cond_i (fun h3 => ?_) (fun h3 => ?_)
   ·(try replace h3 := xhh h3)
    rw [if_pos (by rw [hwl]; exact h3)] at st1 st2
    rw [List.append_nil] at st2
    (iterate 2 ((try simp (etaStruct := .none) only [push_cast, DrawG, seval, getD_in _ _ _ hlt, trpP, getD_in _ _ _ hrk, hrv, i64P]); (try (refine xsu ?_; try exact xtI))))
    refine ⟨k + 1, by omega, by omega, To.mk [0, 1, 42, 3] rfl rfl (by decide) ?_ ?_⟩
    ·(iterate 2 ((try simp (etaStruct := .none) only [push_cast, DrawG, seval, st1, st2, List.map_append, trpP, woundT]); (try (refine xsu ?_; try exact xtI))))
    ·(iterate 2 ((try simp (etaStruct := .none) only [push_cast, DrawG, seval, getD_in _ _ _ hlt, trpP, getD_in _ _ _ hrk, hrv, i64P]); (try (refine xsu ?_; try exact xtI))))
   ·(try replace h3 := xhh h3)
    rw [if_neg (by rw [hwl]; omega)] at st1 st2
    rw [List.append_nil] at st1
    (iterate 2 ((try simp (etaStruct := .none) only [push_cast, DrawG, seval, getD_in _ _ _ hlt, trpP, getD_in _ _ _ hrk, hrv, i64P]); (try (refine xsu ?_; try exact xtI))))
    refine ⟨k + 1, by omega, by omega, To.mk [0, 1, 2, 42] rfl rfl (by decide) ?_ ?_⟩
    ·(iterate 2 ((try simp (etaStruct := .none) only [push_cast, DrawG, seval, st1, st2, List.map_append, i64P]); (try (refine xsu ?_; try exact xtI))))
    ·(iterate 2 ((try simp (etaStruct := .none) only [push_cast, DrawG, seval, getD_in _ _ _ hlt, trpP, getD_in _ _ _ hrk, hrv, i64P]); (try (refine xsu ?_; try exact xtI))))
  ·(try replace h2 := xhh h2)
   obtain rfl : k = w.troops.length := by omega
   have e1 : struckR w l = struckW w l := by unfold struckR; rw [if_pos h]
   have e2 : goneR w l = goneV w l := by unfold goneR; rw [if_pos h]
   rw [leftK_all, goneK_all, e1, e2]
   (try (refine xst ?_; try exact xtI))
   (first | (refine retA rfl (Wk.of ?_); (try simp (etaStruct := .none) only [push_cast, DrawG, seval]); first | done | (simp [struckW, h, *]; done) | (simp_all [struckW, h]; done)) | (refine retA rfl ?_; (try simp (etaStruct := .none) only [push_cast, DrawG, seval]); (try simp [struckW, h, *]); (try exact wkc)))
theorem struckw_s (w : Wld) (l : List Blw) (hl : wldL w) (hw : worldE w = 0) (hll : l.length ≤ 200) : Spec Tryz.prog 49 [wldA w, .c (.sl 2 (l.map blwP))] [] (.tup [wldA (struckW w l), .c (.sl 1 ((goneV w l).map i64P))]) [] := by
 have w3 := (worldE_ok hw).2.2.1
 refine spec_am Tryz.func49 rfl rfl mix 43 rfl [.cell 4 28, .tmp 5] Tryz.results49 (Nat.le_of_ble_eq_true rfl) ?_
 (try (refine xst ?_; try exact xtI))
 refine loopI (fun k : Nat => ⟨[(13, I .i64 k), (12, I .i64 w.troops.length), (11, .c (.sl 7 (w.troops.map trpP))), (7, .own 3), (6, .own 2), (4, .ptr 1 0 0), (2, .ptr 0 0 0), (1, .c (.sl 2 (l.map blwP)))], [(0, .blk 28 (wldC w)), (1, .blk 28 [I .i64 0, I .i64 0, .c (.v (.slice none 0 0)), .c (.v (.slice none 0 0)), .c (.v (.slice none 0 0)), .c (.v (.slice none 0 0)), .c (.v (.slice none 0 0)), I .i64 0, I .i64 0]), (2, .row 83 7 ((leftK w l k).map trpP)), (3, .row 3 1 ((goneK w l k).map i64P))], 4⟩) (fun k : Nat => k ≤ w.troops.length) (fun k : Nat => w.troops.length - k) (0) (Nat.zero_le _) (((To.nil 6 83 7 rfl).trans (To.nil 7 3 1 rfl)).trans (To.mk [0, 1, 2, 3] rfl rfl (by decide) ?_ ?_)) ?_
 ·simp (etaStruct := .none) only [push_cast, DrawG, seval, leftK, goneK, List.take_zero, List.map_nil, List.filter_nil]
 ·simp (etaStruct := .none) only [push_cast, DrawG, seval]
 rintro k hk
 (try (refine xst ?_; try exact xtI))
 refine cond_i (fun h1 => ?_) (fun h1 => ?_)
 ·(try replace h1 := xhh h1)
  have hlt : k < w.troops.length := by omega
  have hb := harmV_b w l (w.troops.getD k default).id
  have hlb := life_b hw hlt
  have st1 := leftK_step w l hlt
  have st2 := goneK_step w l hlt
  have ll1 := leftK_len w l k
  have ll2 := goneK_len w l k
  have hwl : (woundT w l (w.troops.getD k default)).life = (w.troops.getD k default).life - harmV w l (w.troops.getD k default).id := rfl
  (iterate 2 ((try simp (etaStruct := .none) only [push_cast, DrawG, seval, getD_in _ _ _ hlt, trpP]); (try (refine xsu ?_; try exact xtI))))
  refine caP (harm_a w l (w.troops.getD k default).id hl hw hll) ?_
  (iterate 2 ((try simp (etaStruct := .none) only [push_cast, DrawG, seval, getD_in _ _ _ hlt, trpP]); (try (refine xsu ?_; try exact xtI))))
  (try (refine ⟨by kernel_rfl, ?_⟩))
  (iterate 2 ((try simp (etaStruct := .none) only [push_cast, DrawG, seval, getD_in _ _ _ hlt, trpP]); (try (refine xsu ?_; try exact xtI))))
  refine cond_i (fun h2 => ?_) (fun h2 => ?_)
  ·(try replace h2 := xhh h2)
   rw [if_neg (by rw [hwl]; omega)] at st1 st2
   rw [List.append_nil] at st1
   (iterate 2 ((try simp (etaStruct := .none) only [push_cast, DrawG, seval, getD_in _ _ _ hlt, trpP]); (try (refine xsu ?_; try exact xtI))))
   refine ⟨k + 1, by omega, by omega, To.mk [0, 1, 2, 46] rfl rfl (by decide) ?_ ?_⟩
   ·(iterate 2 ((try simp (etaStruct := .none) only [push_cast, DrawG, seval, st1, st2, List.map_append, i64P]); (try (refine xsu ?_; try exact xtI))))
   ·(iterate 2 ((try simp (etaStruct := .none) only [push_cast, DrawG, seval, getD_in _ _ _ hlt, trpP]); (try (refine xsu ?_; try exact xtI))))
  ·(try replace h2 := xhh h2)
   rw [if_pos (by rw [hwl]; omega)] at st1 st2
   rw [List.append_nil] at st2
   (iterate 2 ((try simp (etaStruct := .none) only [push_cast, DrawG, seval, getD_in _ _ _ hlt, trpP]); (try (refine xsu ?_; try exact xtI))))
   refine ⟨k + 1, by omega, by omega, To.mk [0, 1, 46, 3] rfl rfl (by decide) ?_ ?_⟩
   ·(iterate 2 ((try simp (etaStruct := .none) only [push_cast, DrawG, seval, st1, st2, List.map_append, trpP, woundT]); (try (refine xsu ?_; try exact xtI))))
   ·(iterate 2 ((try simp (etaStruct := .none) only [push_cast, DrawG, seval, getD_in _ _ _ hlt, trpP]); (try (refine xsu ?_; try exact xtI))))
 ·(try replace h1 := xhh h1)
  obtain rfl : k = w.troops.length := by omega
  rw [leftK_all, goneK_all]
  (try (refine xst ?_; try exact xtI))
  (first | (refine retA rfl (Wk.of ?_); (try simp (etaStruct := .none) only [push_cast, DrawG, seval]); first | done | (simp [struckW, *]; done) | (simp_all [struckW]; done)) | (refine retA rfl ?_; (try simp (etaStruct := .none) only [push_cast, DrawG, seval]); (try simp [struckW, *]); (try exact wkc)))
end Go.Proofs.YtllmjdcblfkfaaaGreat
