/- Lemmas for the proof of orderSays.proved. -/
import Derived.Test.YtdkmndimmpilaaaOrderM2
import Derived.Test.YtdkmndimmpilaaaProg
import Derived.WalkKit
import Derived.Handy
import Derived.WalkSpells
import Derived.WalkLawsBesides
import Derived.Lib.Hide
import Derived.Lib.BitFns
import Derived.Laws.BitsAllLaws
import Derived.Laws.AppendOwnNone
import Derived.Lib.SliceRun
import Derived.Deep.Draws
import Derived.Deep.QuietTactic
import Derived.ProofKit
import Derived.OpenShut
import Derived.ShutString
import Derived.ChangeOld
import Derived.Below
import Derived.Deep.Slices
import Derived.TacticsIn
import Derived.OrdersIn
import Derived.RangeFuncNested
import Derived.KernelRfl
import Derived.RangeFuncBound
import Derived.RangeFuncCalls
import Derived.Shelf.Abstract
import Derived.Shelf.RegionOpen
import Derived.OwnWalkIn
import Derived.TacticsInMore
import Derived.LoopNIn
import Derived.LoopIn
import Derived.BigRegionIn
namespace Go.Proofs.Ytdkmndimmpilaaa
set_option linter.all false
open Go.RowKit
def cvT (ids : List Nat) (h : Nat → Chunk) (f : Nat → AV) : List (Nat × AV) → Prop
 | [] => True
 | (t, x) :: r => Wk (cv ids h (f t)) x ∧ cvT ids h f r
def cvH (all : List Nat) (h : Nat → Chunk) : Nat → List Nat → List (Nat × Chunk) → Prop
 | _, [], [] => True
 | j, id :: r, (k, c) :: r' => k = j ∧ WkC (cvC all h (h id)) c ∧ cvH all h (j + 1) r r'
 | _, _, _ => False
def hsW (all : List Nat) (h : Nat → Chunk) : List Nat → List Chunk → Prop
 | [], [] => True
 | id :: r, c :: r' => WkC (cvC all h (h id)) c ∧ hsW all h r r'
 | _, _ => False
theorem hsW_at {all : List Nat} {h : Nat → Chunk} : ∀ {ids : List Nat} {hs : List Chunk}, hsW all h ids hs → ids.length = hs.length ∧ ∀ (j : Nat) (c : Chunk), hs[j]? = some c → ∃ id : Nat, ids[j]? = some id ∧ WkC (cvC all h (h id)) c
 | [], [], _ => ⟨rfl, fun j c h => by simp at h⟩
 | [], _ :: _, h => h.elim
 | _ :: _, [], h => h.elim
 | id :: r, c :: r', h => by
  obtain ⟨h1, h2⟩ := h
  obtain ⟨k1, k2⟩ := hsW_at h2
  refine ⟨by simp [k1], fun j d hd => ?_⟩
  cases j with
  | zero => simp at hd; subst hd; exact ⟨id, by simp, h1⟩
  | succ j => obtain ⟨x, e1, e2⟩ := k2 j d (by simpa using hd); exact ⟨x, by simpa using e1, e2⟩
theorem cvH_hs {all : List Nat} {h : Nat → Chunk} : ∀ {j : Nat} {ids : List Nat} {l : List (Nat × Chunk)}, cvH all h j ids l → hsW all h ids (l.map (·.2)) ∧ ∀ i, j ≤ i → lookC l i = nth (l.map (·.2)) (i - j)
 | _, [], [], _ => ⟨trivial, fun i _ => by simp [lookC, nth]⟩
 | _, [], _ :: _, h => h.elim
 | _, _ :: _, [], h => h.elim
 | j, id :: r, (k, c) :: r', h => by
  obtain ⟨rfl, h1, h2⟩ := h
  obtain ⟨k1, k2⟩ := cvH_hs h2
  refine ⟨⟨h1, k1⟩, fun i hi => ?_⟩
  simp only [lookC]
  by_cases e : k = i
  ·subst e; simp [nth]
  ·rw [if_neg e, k2 i (by omega)]
   unfold nth
   rw [show i - k = (i - (k + 1)) + 1 from by omega]
   simp
theorem cvT_at {ids : List Nat} {h : Nat → Chunk} {f : Nat → AV} : ∀ {l : List (Nat × AV)}, cvT ids h f l → ∀ t, Wk (cv ids h (f t)) (look l t)
 | [], _, t => by simp only [look]; exact Wk.undef _
 | (k, x) :: r, h, t => by
  simp only [look]
  by_cases e : k = t
  ·subst e; rw [if_pos rfl]; exact h.1
  ·rw [if_neg e]; exact cvT_at h.2 t
section
variable {P : Program} {W : World} {N U F : Nat → Prop} {β : Nat → Option Bind} {h hT : Nat → Chunk} {w : World}
theorem reshape_mem (M : MemOk W N U F β h w) {ids : List Nat} (hnd : ids.Nodup) {hs : List Chunk} (hh : hsW ids h ids hs) : MemOk W N (· < ids.length) (frzF ids h F β) (selB ids β) (nth hs) w := by
 have M1 := cv_mem (hT := h) M (fun _ _ => rfl) ids hnd
 obtain ⟨hl, hat⟩ := hsW_at hh
 refine ⟨M1.size, M1.os, M1.tape, M1.output, M1.frame, M1.fin, M1.used, fun j hj => ?_, M1.dis, M1.off⟩
 unfold nth at hj
 rw [List.getD_eq_getElem?_getD] at hj
 cases hc : hs[j]? with
 | none => rw [hc] at hj; simp at hj
 | some c =>
  rw [hc] at hj
  simp only [Option.getD_some] at hj
  obtain ⟨id, e1, e2⟩ := hat j c hc
  have hn : nth (ids.map fun id => cvC ids h (h id)) j = cvC ids h (h id) := by
   unfold nth; rw [List.getD_eq_getElem?_getD, List.getElem?_map, e1]; rfl
  have hne : nth (ids.map fun id => cvC ids h (h id)) j ≠ .dead := by
   rw [hn]
   intro he
   rw [he] at e2
   cases c with
   | dead => exact hj rfl
   | row _ _ _ => exact e2.elim
   | blk _ _ => exact e2.elim
   | mp _ _ _ => exact e2.elim
   | nst _ _ _ _ _ _ _ _ => exact e2.elim
   | keep _ _ _ => exact e2.elim
  obtain ⟨bd, hb, hk⟩ := M1.ch j hne
  refine ⟨bd, hb, ?_⟩
  rw [hn] at hk
  unfold nth
  rw [List.getD_eq_getElem?_getD, hc]
  exact e2.run hk
theorem frzF_g (M : MemOk W N U F β h w) {ids : List Nat} {b : Nat} (hb : frzF ids h F β b) : F b ∨ W.heap.size ≤ b ∨ N b := by
 rcases hb with hb | ⟨id, bd, _, _, h1, h2⟩
 ·exact .inl hb
 ·exact .inr (M.off id bd b h1 (.inl h2)).2.2
end
theorem range_at {ids : List Nat} {k : Nat} (h : ids.take k = List.range k) {j : Nat} (hj : j < k) : ids[j]? = some j := by
 have : (ids.take k)[j]? = some j := by rw [h]; simp [hj]
 rwa [List.getElem?_take, if_pos hj] at this
theorem To.mk {k : Nat} {s s' : St} (ids : List Nat) (hk : ids.take k = List.range k) (hn : s'.n = ids.length) (hnd : ids.Nodup) (hh : cvH ids (lookC s.h) 0 ids s'.h) (ht : cvT ids (lookC s.h) (look s.t) s'.t) : ToK k s s' := by
 intro H F β a w hHk C
 obtain ⟨h1, h2⟩ := cvH_hs hh
 have M := reshape_mem C.m hnd h1
 refine ⟨frzF ids (lookC s.h) F β, selB ids β, ?_, ?_, C.nt, C.d.more fun _ hb => .inl hb, fun b hb => .inl (C.f b hb), fun b hb => ?_, fun i bd hi hb => ?_, ?_⟩
 ·intro t
  rw [hn]
  exact cvT_at ht t _ _ _ _ _ (cv_run C.m (fun _ _ => rfl) ids _ _ (C.t t))
 ·have e : lookC s'.h = nth (s'.h.map (·.2)) := by funext i; simpa using h2 i (Nat.zero_le _)
  rw [hn, e]; exact M
 ·rcases frzF_g C.m hb with h | h
  ·exact C.g b h
  ·exact .inr h
 ·rw [hHk] at hi
  have := range_at hk hi
  simp only [selB, this] at hb
  exact C.e i bd (by rw [hHk]; exact hi) hb
 ·rw [hn, hHk]
  have : (ids.take k).length = k := by rw [hk]; simp
  rw [List.length_take] at this
  omega
def resAV (P : Program) (f : Nat → AV) (h : Nat → Chunk) : List ResultVar → Option (Prop × List AV)
 | [] => some (True, [])
 | .tmp t :: r => match resAV P f h r with
  | some (φ, xs) => some (φ, f t :: xs)
  | none => none
 | .cell a t :: r => match loadAV P h t (f a), resAV P f h r with
  | some (ψ, x), some (φ, xs) => some (ψ ∧ φ, x :: xs)
  | _, _ => none
def oneV : List AV → AV
 | [x] => x
 | xs => .tup xs
def RetG0 (P : Program) (k : Nat) (rs : List ResultVar) (r : AV) (hs' : List Chunk) (s : St) : Prop :=
 ∃ ids : List Nat, ids.take k = List.range k ∧ ids.Nodup ∧ hsW ids (lookC s.h) ids hs' ∧ match resAV P (look s.t) (lookC s.h) rs with
  | some (φ, xs) => φ ∧ Wk (cv ids (lookC s.h) (oneV xs)) r
  | none => False
def RetG (P : Program) (k : Nat) (rs : List ResultVar) (r : AV) (hs' : List Chunk) (s : St) : Prop := ∃ s', ToK k s s' ∧ RetG0 P k rs r hs' s'
def RetQ (P : Program) (k : Nat) (rs : List ResultVar) (r : AV) (hs' : List Chunk) : Exit → St → Prop
 | .normal, s => RetG P k rs r hs' s
 | .ret, s => RetG P k rs r hs' s
 | _, _ => False
def argsT : Nat → List AV → List (Nat × AV)
 | _, [] => []
 | k, x :: r => (k, x) :: argsT (k + 1) r
def hsT : Nat → List Chunk → List (Nat × Chunk)
 | _, [] => []
 | k, c :: r => (k, c) :: hsT (k + 1) r
theorem look_argsT : ∀ (k : Nat) (xs : List AV) (t : Nat), look (argsT k xs) t = if k ≤ t then (xs[t - k]?).getD .undef else .undef
 | _, [], t => by simp [argsT, look]
 | k, x :: r, t => by
  simp only [argsT, look]
  by_cases h : k = t
  ·subst h; simp
  ·rw [if_neg h, look_argsT (k + 1) r t]
   by_cases h2 : k ≤ t
   ·rw [if_pos (by omega), if_pos h2, show t - k = (t - (k + 1)) + 1 from by omega, List.getElem?_cons_succ]
   ·rw [if_neg (by omega), if_neg h2]
theorem look_hsT : ∀ (k : Nat) (xs : List Chunk) (t : Nat), lookC (hsT k xs) t = if k ≤ t then nth xs (t - k) else .dead
 | _, [], t => by simp [hsT, lookC, nth]
 | k, x :: r, t => by
  simp only [hsT, lookC]
  by_cases h : k = t
  ·subst h; simp [nth]
  ·rw [if_neg h, look_hsT (k + 1) r t]
   by_cases h2 : k ≤ t
   ·rw [if_pos (by omega), if_pos h2]
    unfold nth
    rw [show t - k = (t - (k + 1)) + 1 from by omega]; simp
   ·rw [if_neg (by omega), if_neg h2]
def resOf (tmps : Array Value) : ResultVar → Sem Value
 | .tmp t => pure (tmps.getD t undef)
 | .cell a t => do loadVar t (← asAddr (tmps.getD a undef))
theorem results_eq (fn : Func) (tmps : Array Value) : results fn tmps = (do let vs ← fn.results.mapM (resOf tmps); pure (if h : vs.size = 1 then vs[0] else .tuple vs)) := rfl
theorem res_run {P : Program} {H : Hist} {s : St} {F : Nat → Prop} {β : Nat → Option Bind} {a : Act} {w : World} (C : Conc H s F β a w) : ∀ (rs : List ResultVar) (φ : Prop) (xs : List AV), resAV P (look s.t) (lookC s.h) rs = some (φ, xs) → φ →
 ∃ vs, (rs.mapM (resOf a.tmps)).run P w = .ok vs w ∧ RelL (· < s.n) w F β xs vs
 | [], φ, xs, h, _ => by
  simp only [resAV, Option.some.injEq, Prod.mk.injEq] at h
  obtain ⟨_, rfl⟩ := h
  exact ⟨[], by simp, by simp [RelL]⟩
 | .tmp t :: r, φ, xs, h, hφ => by
  unfold resAV at h
  split at h
  ·rename_i φ' ys hr
   simp only [Option.some.injEq, Prod.mk.injEq] at h
   obtain ⟨rfl, rfl⟩ := h
   obtain ⟨vs, h1, h2⟩ := res_run C r _ _ hr hφ
   refine ⟨a.tmps.getD t undef :: vs, ?_, by simp only [RelL]; exact ⟨_, _, rfl, C.t t, h2⟩⟩
   simp only [List.mapM_cons, resOf, Sem.run_bind, Sem.run_pure, Result.andThen_ok, h1]
  ·simp at h
 | .cell x t :: r, φ, xs, h, hφ => by
  unfold resAV at h
  split at h
  ·rename_i ψ y φ' ys hl hr
   simp only [Option.some.injEq, Prod.mk.injEq] at h
   obtain ⟨rfl, rfl⟩ := h
   obtain ⟨vs, h1, h2⟩ := res_run C r _ _ hr hφ.2
   obtain ⟨z, h3, h4⟩ := load_run C.m (fun _ _ => rfl) hl hφ.1 (C.t x)
   have hp : ∃ ad, a.tmps.getD x undef = .pointer (some ad) := by
    cases hv : a.tmps.getD x undef with
    | pointer ad =>
     cases ad with
     | some ad => exact ⟨ad, rfl⟩
     | none => rw [hv] at h3; simp [Instr.loadAt, Instr.sureAddr] at h3
    | _ => rw [hv] at h3; simp [Instr.loadAt, Instr.sureAddr] at h3
   obtain ⟨ad, hp⟩ := hp
   rw [hp] at h3
   simp only [Instr.loadAt, Instr.sureAddr, Sem.run_bind, Sem.run_pure, Result.andThen_ok] at h3
   refine ⟨z :: vs, ?_, by simp only [RelL]; exact ⟨_, _, rfl, h4, h2⟩⟩
   simp only [List.mapM_cons, resOf, Sem.run_bind, hp, asAddr, Sem.run_pure, Result.andThen_ok, h3, h1]
  ·simp at h
theorem spec_of {P : Program} {f : FuncId} {fn : Func} {c : Code} {args : List AV} {hs hs' : List Chunk} {r : AV} (hf : P.funcs[f]? = some fn) (hb : fn.body = some c) (hn : (fn.name == "runtime.NumGoroutine") = false)
 (hd : ∀ (H : Hist) (ops : Array Oper) (Q : Exit → St → Prop) (s : St) (F : Nat → Prop) (β : Nat → Option Bind) (a : Act) (w : World) (id : Nat), DrawG P H.nt ops (Q .normal) s → Conc H s F β a w → (Code.region id ops true).wp P (Post H Q) a w)
 (nt : Nat) (hnt : nt = args.length + (fn.ntmps - args.length)) (rs : List ResultVar) (hrs : fn.results = rs.toArray) (hle : hs.length ≤ hs'.length)
 (h : awp P nt hs.length c (RetQ P hs.length rs r hs') ⟨argsT 0 args, hsT 0 hs, hs.length⟩) : Spec P f args hs r hs' := by
 refine ⟨⟨fn, hf, by rw [hb]; rfl, hn⟩, hle, ?_⟩
 intro w F β vs M hv
 have hvl := hv.len
 refine callsIn_wide.1 (callsIn_of_wp_marks (n := 0) hf hb trivial (wpIn_wide.2 ?_))
 have C : Conc ⟨w, inB β, F, β, hs.length, nt⟩ ⟨argsT 0 args, hsT 0 hs, hs.length⟩ F β { tmps := vs.toArray ++ Array.replicate (fn.ntmps - vs.toArray.size) undef, defers := [] } w := by
  refine ⟨fun t => ?_, ?_, ?_, Dfr.nil _ _ _, fun b hb => hb, fun b hb => .inl hb, fun i bd _ hb => ⟨_, hb⟩, Nat.le_refl _⟩
  ·rw [look_argsT]
   simp only [Nat.zero_le, if_true, Nat.sub_zero]
   cases hx : args[t]? with
   | none => simp only [Option.getD_none, RelA]
   | some x =>
    obtain ⟨u, hu, hr⟩ := hv.at t x hx
    have ht : t < vs.length := (List.getElem?_eq_some_iff.1 hu).1
    have e1 : (vs.toArray ++ Array.replicate (fn.ntmps - vs.toArray.size) undef).getD t undef = u := by
     rw [Array.getD_eq_getD_getElem?, Array.getElem?_append_left (by simpa using ht)]
     simp [hu]
    simp only [Option.getD_some]
    rw [e1]; exact hr
  ·have e : lookC (hsT 0 hs) = nth hs := by funext i; rw [look_hsT]; simp
   simp only [e]; exact M
  ·simp [hvl, hnt]
 refine wp_mono (awp_run (hd _) c _ _ F β _ w h C) ?_
 rintro e a' w' ⟨s', F', β', C', hq⟩
 have fin : RetG P hs.length rs r hs' s' → LeavesInM Fence.wide 0 P fn a'.tmps (fun e w_1 => ∃ v_1 F'_1 β'_1, e = .returned v_1 ∧ MemOk w (inB β) (· < hs'.length) F'_1 β'_1 (nth hs') w_1 ∧ RelA (· < hs'.length) w_1 F'_1 β'_1 r v_1 ∧ (∀ b, F b → F'_1 b) ∧ (∀ b, F'_1 b → F b ∨ w.heap.size ≤ b ∨ inB β b) ∧ ∀ i bd, i < hs.length → β'_1 i = some bd → ∃ bs, β i = some ⟨bd.v, bd.b, bd.n, bd.sz, bs⟩) a'.defers .returning w' := by
  rintro ⟨s', hto, ids, h1, h2, h3, h4⟩
  obtain ⟨F', β', C'⟩ := hto _ F' β' a' w' rfl C'
  refine leaves_of C' ?_
  clear C' C
  intro a1 w1 ht1 C'
  rw [← ht1]
  generalize a1 = a' at *
  generalize w1 = w' at *
  split at h4
  ·rename_i φ xs hr
   obtain ⟨vs', h5, h6⟩ := res_run C' rs φ xs hr h4.1
   have M' := reshape_mem C'.m h2 h3
   obtain ⟨hl, _⟩ := hsW_at h3
   rw [hl] at M'
   have hone : ∃ v, (if h : vs'.toArray.size = 1 then vs'.toArray[0] else .tuple vs'.toArray) = v ∧ RelA (· < s'.n) w' F' β' (oneV xs) v := by
    have hxl := h6.len
    match xs, vs', h6, hxl with
    | [x], [u], h6, _ =>
     simp only [RelL] at h6
     obtain ⟨u', us, he, h7, _⟩ := h6
     simp only [List.cons.injEq] at he
     obtain ⟨rfl, _⟩ := he
     exact ⟨u, by simp, h7⟩
    | [], [], _, _ => exact ⟨.tuple #[], by simp, by simp only [oneV, RelA]; exact ⟨#[], rfl, by simp [RelL]⟩⟩
    | x :: y :: r, u :: v :: us, h6, _ =>
     refine ⟨.tuple (u :: v :: us).toArray, by simp, ?_⟩
     simp only [oneV, RelA]
     exact ⟨_, rfl, h6⟩
   obtain ⟨v, hv1, hv2⟩ := hone
   refine ⟨v, ?_, v, _, _, rfl, M', ?_, fun b hb => .inl (C'.f b hb), fun b hb => ?_, fun i bd hi hb => ?_⟩
   ·rw [results_eq, hrs, List.mapM_toArray]
    simp only [Sem.run_bind, Sem.run_map, h5, Result.andThen_ok, Sem.run_pure]
    rw [hv1]
   ·have := h4.2 _ _ _ _ _ (cv_run C'.m (fun _ _ => rfl) ids _ _ hv2)
    rw [hl] at this; exact this
   ·rcases frzF_g C'.m hb with h | h
    ·exact C'.g b h
    ·exact .inr h
   ·have := range_at h1 hi
    simp only [selB, this] at hb
    exact C'.e i bd hi hb
  ·exact h4.elim
 cases e with
 | normal => exact fin hq
 | ret => exact fin hq
 | _ => exact hq.elim
end Go.Proofs.Ytdkmndimmpilaaa
namespace Go.Proofs.Ytdkmndimmpilaaa
set_option linter.all false
open Go.RowKit
theorem mfind_shift (k : List Int) : ∀ (es : List (List Int × Int)) (i : Nat), mfind k (i + 1) es = (mfind k i es).map fun p => (p.1 + 1, p.2)
 | [], i => rfl
 | (k', v) :: r, i => by
  unfold mfind
  split
  ·rfl
  ·exact mfind_shift k r (i + 1)
theorem mget_nil (k : List Int) : mget k [] = 0 := rfl
theorem mget_cons (k k' : List Int) (v : Int) (r : List (List Int × Int)) : mget k ((k', v) :: r) = if k = k' then v else mget k r := by
 unfold mget
 rw [mfind]
 by_cases h : k = k'
 ·rw [if_pos h, if_pos h]
 ·rw [if_neg h, if_neg h, mfind_shift]; cases mfind k 0 r <;> rfl
end Go.Proofs.Ytdkmndimmpilaaa
namespace Go.Proofs.Ytdkmndimmpilaaa
set_option linter.all false
open Go.RowKit
section
variable {P : Program} {W : World} {N U F : Nat → Prop} {β : Nat → Option Bind} {h hT : Nat → Chunk} {w : World} {a : Act} {m : Nat}
theorem opX_cut {g : Operand → AV} {K : Eff → Prop} {op : Op} (hx : opX P g hT m K op) : ∃ e, opX P g hT m (· = e) op ∧ K e := by
 unfold opX at hx ⊢
 split at hx
 ·split at hx
  ·obtain ⟨e, h1, h2⟩ := hx
   exact ⟨e, ⟨e, h1, rfl⟩, h2⟩
  ·exact hx.elim
 ·split at hx
  ·obtain ⟨h0, e, h1, h2⟩ := hx
   exact ⟨e, ⟨h0, e, h1, rfl⟩, h2⟩
  ·exact hx.elim
 ·split at hx
  ·exact ⟨_, ⟨hx.1, rfl⟩, hx.2⟩
  ·exact hx.elim
theorem opG_cut {c : Bool} {g : Operand → AV} {K : Eff → Prop} {op : Op} (hx : opG P c g hT m K op) : ∃ e, opG P c g hT m (· = e) op ∧ K e := by
 unfold opG at hx ⊢
 split at hx
 ·split at hx
  ·rcases hx with ⟨r, h1, h2⟩ | ⟨h1, h2⟩
   ·exact ⟨_, .inl ⟨r, h1, rfl⟩, h2⟩
   ·cases c with
    | true =>
     obtain ⟨h3, e, h4, h5⟩ := h1 rfl
     exact ⟨e, .inr ⟨fun _ => ⟨h3, e, h4, rfl⟩, fun h => by simp at h⟩, h5⟩
    | false => exact ⟨_, .inr ⟨fun h => by simp at h, fun _ => rfl⟩, h2 rfl⟩
  ·exact ⟨_, ⟨hx.1, rfl⟩, hx.2⟩
 ·split at hx
  ·rcases hx with ⟨r, h1, h2⟩ | ⟨h1, h2⟩
   ·exact ⟨_, .inl ⟨r, h1, rfl⟩, h2⟩
   ·cases c with
    | true =>
     obtain ⟨h3, e, h4, h5⟩ := h1 rfl
     exact ⟨e, .inr ⟨fun _ => ⟨h3, e, h4, rfl⟩, fun h => by simp at h⟩, h5⟩
    | false => exact ⟨_, .inr ⟨fun h => by simp at h, fun _ => rfl⟩, h2 rfl⟩
  ·exact ⟨_, ⟨hx.1, rfl⟩, hx.2⟩
 ·split at hx
  ·split at hx
   ·exact ⟨_, ⟨hx.1, rfl⟩, hx.2⟩
   ·exact ⟨_, ⟨hx.1, rfl⟩, hx.2⟩
  ·exact ⟨_, ⟨hx.1, rfl⟩, hx.2⟩
 ·split at hx
  ·exact ⟨_, ⟨hx.1, rfl⟩, hx.2⟩
  ·cases c with
   | true => exact ⟨_, ⟨fun hc => ⟨(hx.1 hc).1, (hx.1 hc).2.1, rfl⟩, fun h => by simp at h⟩, (hx.1 rfl).2.2⟩
   | false => exact ⟨_, ⟨fun h => by simp at h, fun _ => rfl⟩, hx.2 rfl⟩
  ·exact ⟨_, ⟨hx.1, rfl⟩, hx.2⟩
theorem opWF_cut {ops : Array Oper} {o : Oper} {f : Nat → AV} {K : Eff → Prop} (hx : opWF P ops o f hT m K) : ∃ e, opWF P ops o f hT m (· = e) ∧ K e := by
 unfold opWF at hx ⊢
 split at hx
 ·exact opX_cut hx
 ·split at hx
  ·exact hx.elim
  ·exact opG_cut hx
end
def updT (f : Nat → AV) (d : Option Tmp) (v : AV) (t : Nat) : AV := if d = some t then v else f t
def tS (f : Nat → AV) (ds : List (Option Tmp)) (es : List Eff) (L : Nat → Bool) : Nat → Nat → AV
 | 0 => f
 | k + 1 => match L k, es[k]? with
  | true, some e => updT (tS f ds es L k) (ds.getD k none) e.val
  | _, _ => tS f ds es L k
def hS (h : Nat → Chunk) (es : List Eff) (L : Nat → Bool) : Nat → Nat → Chunk
 | 0 => h
 | k + 1 => match L k, es[k]? with
  | true, some e => upd (hS h es L k) e.ups
  | _, _ => hS h es L k
theorem upd_in {h : Nat → Chunk} : ∀ {ups : List (Nat × Chunk)} {i : Nat}, i ∉ ups.map (·.1) → upd h ups i = h i
 | [], _, _ => rfl
 | (k, c) :: r, i, hn => by
  simp only [List.map_cons, List.mem_cons, not_or] at hn
  simp only [upd]
  rw [if_neg (Ne.symm hn.1)]
  exact upd_in hn.2
theorem upd_same {h h' : Nat → Chunk} : ∀ {ups : List (Nat × Chunk)} {i : Nat}, i ∈ ups.map (·.1) → upd h ups i = upd h' ups i
 | [], _, hn => by simp at hn
 | (k, c) :: r, i, hn => by
  simp only [upd]
  by_cases e : k = i
  ·rw [if_pos e, if_pos e]
  ·rw [if_neg e, if_neg e]
   simp only [List.map_cons, List.mem_cons] at hn
   exact upd_same (hn.resolve_left (Ne.symm e))
section
variable {f : Nat → AV} {h : Nat → Chunk} {ds : List (Option Tmp)} {es : List Eff}
theorem tS_agree {L : Nat → Bool} {t i : Nat} (hlt : ∀ k, k < i → ds.getD k none = some t → L k = true) : ∀ n, i ≤ n → (∀ k, i ≤ k → k < n → ds.getD k none = some t → L k = false) → tS f ds es L n t = tS f ds es (fun _ => true) i t := by
 have lo : ∀ k, k ≤ i → tS f ds es L k t = tS f ds es (fun _ => true) k t := by
  intro k
  induction k with
  | zero => intro _; rfl
  | succ k ih =>
   intro hk
   have ih := ih (by omega)
   simp only [tS]
   cases hL : L k with
   | true =>
    cases he : es[k]? with
    | none => exact ih
    | some e => simp only [updT]; rw [ih]
   | false =>
    have hd : ds.getD k none ≠ some t := fun h => by have := hlt k (by omega) h; rw [hL] at this; simp at this
    cases he : es[k]? with
    | none => exact ih
    | some e => simp only [updT]; rw [if_neg hd]; exact ih
 intro n
 induction n with
 | zero => intro hi _; have : i = 0 := by omega
           subst this; rfl
 | succ n ih =>
  intro hi hgt
  by_cases e : i = n + 1
  ·subst e; exact lo _ (Nat.le_refl _)
  ·have ih := ih (by omega) (fun k h1 h2 => hgt k h1 (by omega))
   simp only [tS]
   cases hL : L n with
   | false => exact ih
   | true =>
    have hd : ds.getD n none ≠ some t := fun h => by have := hgt n (by omega) (by omega) h; rw [hL] at this; simp at this
    cases he : es[n]? with
    | none => exact ih
    | some e => simp only [updT]; rw [if_neg hd]; exact ih
theorem hS_agree {L : Nat → Bool} {t i : Nat} (hlt : ∀ k e, k < i → es[k]? = some e → t ∈ e.ups.map (·.1) → L k = true) : ∀ n, i ≤ n → (∀ k e, i ≤ k → k < n → es[k]? = some e → t ∈ e.ups.map (·.1) → L k = false) → hS h es L n t = hS h es (fun _ => true) i t := by
 have lo : ∀ k, k ≤ i → hS h es L k t = hS h es (fun _ => true) k t := by
  intro k
  induction k with
  | zero => intro _; rfl
  | succ k ih =>
   intro hk
   have ih := ih (by omega)
   simp only [hS]
   cases he : es[k]? with
   | none => cases hL : L k <;> exact ih
   | some e =>
    by_cases hd : t ∈ e.ups.map (·.1)
    ·rw [hlt k e (by omega) he hd]
     exact upd_same hd
    ·cases hL : L k with
     | true => simp only [upd_in hd]; exact ih
     | false => simp only [upd_in hd]; exact ih
 intro n
 induction n with
 | zero => intro hi _; have : i = 0 := by omega
           subst this; rfl
 | succ n ih =>
  intro hi hgt
  by_cases e : i = n + 1
  ·subst e; exact lo _ (Nat.le_refl _)
  ·have ih := ih (by omega) (fun k e h1 h2 => hgt k e h1 (by omega))
   simp only [hS]
   cases he : es[n]? with
   | none => cases hL : L n <;> exact ih
   | some e =>
    cases hL : L n with
    | false => exact ih
    | true =>
     have hd : t ∉ e.ups.map (·.1) := fun h => by have := hgt n e (by omega) (by omega) he h; rw [hL] at this; simp at this
     simp only [upd_in hd]; exact ih
def setL (L : Nat → Bool) (i : Nat) (k : Nat) : Bool := if k = i then true else L k
theorem tS_insert {L : Nat → Bool} {i : Nat} (hi : L i = false) {e : Eff} (he : es[i]? = some e) : ∀ n, i < n → (∀ k t, i < k → k < n → L k = true → ds.getD k none = some t → ds.getD i none ≠ some t) → tS f ds es (setL L i) n = updT (tS f ds es L n) (ds.getD i none) e.val := by
 have lo : ∀ k, k ≤ i → tS f ds es (setL L i) k = tS f ds es L k := by
  intro k
  induction k with
  | zero => intro _; rfl
  | succ k ih =>
   intro hk
   have e1 : setL L i k = L k := by unfold setL; rw [if_neg (by omega)]
   simp only [tS, e1, ih (by omega)]
 intro n
 induction n with
 | zero => intro h; omega
 | succ n ih =>
  intro hn hd
  by_cases e' : i = n
  ·subst e'
   have e1 : setL L i i = true := by unfold setL; rw [if_pos rfl]
   simp only [tS, e1, hi, he, lo i (Nat.le_refl _)]
  ·have ih := ih (by omega) (fun k t h1 h2 => hd k t h1 (by omega))
   have e1 : setL L i n = L n := by unfold setL; rw [if_neg (by omega)]
   simp only [tS, e1, ih]
   cases hL : L n with
   | false => rfl
   | true =>
    cases hen : es[n]? with
    | none => rfl
    | some e2 =>
     funext t
     simp only [updT]
     by_cases h1 : ds.getD n none = some t
     ·rw [if_pos h1, if_pos h1, if_neg (hd n t (by omega) (by omega) hL h1)]
     ·rw [if_neg h1, if_neg h1]
theorem hS_insert {L : Nat → Bool} {i : Nat} (hi : L i = false) {e : Eff} (he : es[i]? = some e) : ∀ n, i < n → (∀ k e2 t, i < k → k < n → L k = true → es[k]? = some e2 → t ∈ e2.ups.map (·.1) → t ∉ e.ups.map (·.1)) → hS h es (setL L i) n = upd (hS h es L n) e.ups := by
 have lo : ∀ k, k ≤ i → hS h es (setL L i) k = hS h es L k := by
  intro k
  induction k with
  | zero => intro _; rfl
  | succ k ih =>
   intro hk
   have e1 : setL L i k = L k := by unfold setL; rw [if_neg (by omega)]
   simp only [hS, e1, ih (by omega)]
 intro n
 induction n with
 | zero => intro h; omega
 | succ n ih =>
  intro hn hd
  by_cases e' : i = n
  ·subst e'
   have e1 : setL L i i = true := by unfold setL; rw [if_pos rfl]
   simp only [hS, e1, hi, he, lo i (Nat.le_refl _)]
  ·have ih := ih (by omega) (fun k e2 t h1 h2 => hd k e2 t h1 (by omega))
   have e1 : setL L i n = L n := by unfold setL; rw [if_neg (by omega)]
   simp only [hS, e1, ih]
   cases hL : L n with
   | false => rfl
   | true =>
    cases hen : es[n]? with
    | none => rfl
    | some e2 =>
     funext t
     show upd (upd (hS h es L n) e.ups) e2.ups t = upd (upd (hS h es L n) e2.ups) e.ups t
     by_cases h1 : t ∈ e2.ups.map (·.1)
     ·have h2 := hd n e2 t (by omega) (by omega) hL hen h1
      rw [upd_in (h := upd (hS h es L n) e2.ups) h2]
      exact upd_same h1
     ·rw [upd_in h1]
      by_cases h2 : t ∈ e.ups.map (·.1)
      ·exact upd_same h2
      ·rw [upd_in h2, upd_in h2, upd_in h1]
end
theorem hS_stay {h : Nat → Chunk} {es : List Eff} {L : Nat → Bool} {t i : Nat} : ∀ n, i ≤ n → (∀ k e, i ≤ k → k < n → es[k]? = some e → t ∈ e.ups.map (·.1) → L k = false) → hS h es L n t = hS h es L i t := by
 intro n
 induction n with
 | zero => intro hi _; have : i = 0 := by omega
           subst this; rfl
 | succ n ih =>
  intro hi hgt
  by_cases e : i = n + 1
  ·subst e; rfl
  ·have ih := ih (by omega) (fun k e h1 h2 => hgt k e h1 (by omega))
   simp only [hS]
   cases he : es[n]? with
   | none => cases hL : L n <;> exact ih
   | some e =>
    cases hL : L n with
    | false => exact ih
    | true =>
     have hd : t ∉ e.ups.map (·.1) := fun h => by have := hgt n e (by omega) (by omega) he h; rw [hL] at this; simp at this
     simp only [upd_in hd]; exact ih
theorem mget_zero (k l : List Int) : ∀ es : List (List Int × Int), mget k (es ++ [(l, 0)]) = mget k es
 | [] => by rw [List.nil_append, mget_cons, mget_nil]; split <;> rfl
 | (k', v) :: r => by rw [List.cons_append, mget_cons, mget_cons, mget_zero k l r]
theorem mget_open (k l : List Int) (es : List (List Int × Int)) : mget k (mopen l es) = mget k es := by
 unfold mopen
 split
 ·rfl
 ·exact mget_zero k l es
def OpenC (c c' : Chunk) : Prop := c' = c ∨ ∃ a n es l, c = .mp a n es ∧ c' = .mp a n (mopen l es)
theorem ex4_lk {P : Program} {g : Operand → AV} {h : Nat → Chunk} {m : Nat} {t : TypeId} {x k : Operand} {ok : Bool} : ex4 P g h m (.lookup t x k ok) = ex3 P g h m (.lookup t x k ok) := by
 unfold ex4
 cases ex3 P g h m (.lookup t x k ok) <;> rfl
theorem ex4_me {P : Program} {g : Operand → AV} {h : Nat → Chunk} {m : Nat} {t : TypeId} {x k : Operand} : ex4 P g h m (.mapEntry t x k) = ex3 P g h m (.mapEntry t x k) := by
 unfold ex4
 cases ex3 P g h m (.mapEntry t x k) <;> rfl
theorem ex3_open {P : Program} {g : Operand → AV} {h h' : Nat → Chunk} {m : Nat} {t : TypeId} {x k : Operand} (H : ∀ i, OpenC (h i) (h' i)) : ex3 P g h' m (.lookup t x k false) = ex3 P g h m (.lookup t x k false) := by
 simp only [ex3, mapAV]
 cases ty P t with
 | none => rfl
 | some d =>
  obtain ⟨kd, _, _, _, _⟩ := d
  cases kd <;> try rfl
  cases g x <;> try rfl
  rename_i id
  rcases H id with e | ⟨a, n, es, l, e1, e2⟩
  ·simp only [e]
  ·simp only [e1, e2]
   cases kty P _ <;> cases keyA (g k) <;> try rfl
   rename_i p q
   obtain ⟨_, _⟩ := p
   obtain ⟨_, _⟩ := q
   simp only
   generalize (a == _ && a == _ && Nat.beq n _ && Nat.beq n _ && intTy P _) = b
   cases b <;> simp [mget_open]
theorem opWF_open {P : Program} {ops : Array Oper} {o : Oper} {f : Nat → AV} {h h' : Nat → Chunk} {m : Nat} {K : Eff → Prop} (ho : isLk o = true) (H : ∀ i, OpenC (h i) (h' i)) (hx : opWF P ops o f h m K) : opWF P ops o f h' m K := by
 unfold isLk at ho
 rw [Bool.and_eq_true] at ho
 obtain ⟨h1, h2⟩ := ho
 have hg : o.guard = none := by simpa using h1
 split at h2
 ·rename_i t x k hop
  unfold opWF at hx ⊢
  rw [hg] at hx ⊢
  simp only [opX, hop, ex4_lk] at hx ⊢
  rw [ex3_open H]; exact hx
 ·simp at h2
theorem entry_ups {P : Program} {ops : Array Oper} {o : Oper} {f : Nat → AV} {h : Nat → Chunk} {m : Nat} {e : Eff} (ho : isEn o = true) (hx : opWF P ops o f h m (· = e)) : ∃ id a n es l, h id = .mp a n es ∧ e.ups = [(id, .mp a n (mopen l es))] := by
 unfold isEn at ho
 rw [Bool.and_eq_true] at ho
 obtain ⟨h1, h2⟩ := ho
 have hg : o.guard = none := by simpa using h1
 split at h2
 ·rename_i t x k hop
  unfold opWF at hx
  rw [hg] at hx
  simp only [opX, hop, ex4_me, ex3] at hx
  split at hx
  ·rename_i φ e' he
   obtain ⟨_, rfl⟩ := hx
   split at he
   ·rename_i id a n es l hm
    simp only [Option.some.injEq, Prod.mk.injEq] at he
    obtain ⟨_, rfl⟩ := he
    refine ⟨id, a, n, es, l, ?_, rfl⟩
    unfold mapAV at hm
    split at hm
    ·split at hm
     ·split at hm
      ·rename_i a' n' es' hid
       split at hm
       ·split at hm
        ·simp only [Option.some.injEq, Prod.mk.injEq] at hm
         obtain ⟨rfl, rfl, rfl, rfl, rfl⟩ := hm
         exact hid
        ·simp at hm
       ·simp at hm
      ·simp at hm
     ·simp at hm
    ·simp at hm
   ·simp at he
  ·exact hx.elim
 ·simp at h2
def Closed (ops : Array Oper) (E : Nat → Prop) : Prop := ∀ i o, ops[i]? = some o → E i → ∀ e ∈ o.after, Region.binds .any e = true → E e.on
theorem testBit_edge {ms : List Nat} : ∀ {es : List Edge} {j : Nat}, (edgeMask ms es).testBit j = true → ∃ e ∈ es, Region.binds .any e = true ∧ (j = e.on ∨ (ms.getD e.on 0).testBit j = true)
 | [], j, h => by simp [edgeMask] at h
 | e :: r, j, h => by
  simp only [edgeMask] at h
  split at h
  ·rename_i hb
   rw [Nat.testBit_or, Nat.testBit_or, Bool.or_eq_true, Bool.or_eq_true] at h
   rcases h with (h | h) | h
   ·refine ⟨e, by simp, hb, .inl ?_⟩
    rw [Nat.one_shiftLeft, Nat.testBit_two_pow] at h
    exact (of_decide_eq_true h).symm
   ·exact ⟨e, by simp, hb, .inr h⟩
   ·obtain ⟨e', h1, h2⟩ := testBit_edge h
    exact ⟨e', by simp [h1], h2⟩
  ·obtain ⟨e', h1, h2⟩ := testBit_edge h
   exact ⟨e', by simp [h1], h2⟩
theorem masks_spec {ops : Array Oper} {E : Nat → Prop} (hE : Closed ops E) : ∀ (l : List Oper) (ms : List Nat), ops.toList.drop ms.length = l → (∀ i j, (ms.getD i 0).testBit j = true → E i → E j) → ∀ i j, ((masks l ms).getD i 0).testBit j = true → E i → E j
 | [], ms, _, hm => by simpa only [masks] using hm
 | o :: r, ms, hd, hm => by
  simp only [masks]
  refine masks_spec hE r _ ?_ ?_
  ·simp only [List.length_append, List.length_singleton]
   rw [← List.drop_drop, hd]; rfl
  ·intro i j hb hi
   have ho : ops[ms.length]? = some o := by
    have : (ops.toList.drop ms.length)[0]? = some o := by rw [hd]; rfl
    rw [List.getElem?_drop] at this
    simpa using this
   rw [List.getD_eq_getElem?_getD] at hb
   by_cases h1 : i < ms.length
   ·rw [List.getElem?_append_left h1, ← List.getD_eq_getElem?_getD] at hb
    exact hm i j hb hi
   ·by_cases h2 : i = ms.length
    ·subst h2
     rw [List.getElem?_append_right (Nat.le_refl _)] at hb
     simp only [Nat.sub_self, List.getElem?_cons_zero, Option.getD_some] at hb
     obtain ⟨e, k1, k2, k3⟩ := testBit_edge hb
     have he := hE _ o ho hi e (by simpa using k1) k2
     rcases k3 with rfl | k3
     ·exact he
     ·exact hm _ _ k3 he
    ·rw [List.getElem?_eq_none (by simp; omega)] at hb
     simp at hb
theorem memN_iff : ∀ {l : List Nat} {i : Nat}, memN l i = true ↔ i ∈ l
 | [], i => by simp [memN]
 | a :: r, i => by
  simp only [memN]
  by_cases h : a = i
  ·simp [h]
  ·rw [if_neg h, memN_iff]; simp [Ne.symm h]
theorem disj_iff {a b : List Nat} (h : disj a b = true) : ∀ x ∈ a, x ∉ b := by
 intro x hx hb
 have := List.all_eq_true.1 h x hx
 rw [memN_iff.2 hb] at this
 simp at this
structure OpAt (P : Program) (nt : Nat) (ops : Array Oper) (n0 : Nat) (f : Nat → AV) (h : Nat → Chunk) (ds : List (Option Tmp)) (es : List Eff) (acc : List (List Nat × List Nat)) (i : Nat) : Prop where
 ok : ∃ o e, ops[i]? = some o ∧ es[i]? = some e ∧ dstOk nt o.dst ∧ ds.getD i none = o.dst ∧ e.fresh ≤ 4 ∧ (fp acc i).2 = e.ups.map (·.1) ∧
  opWF P ops o (tS f ds es (fun _ => true) i) (onlyC (fp acc i).1 (hS h es (fun _ => true) i)) (n0 + 4 * i) (· = e)
theorem look_put (d : Option Tmp) (x : AV) (t : List (Nat × AV)) : look (putO d x t) = updT (look t) d x := by
 funext i
 cases d with
 | none => simp [putO, updT]
 | some d => simp [putO, look, updT]
theorem tS_app {f : Nat → AV} {ds : List (Option Tmp)} {es : List Eff} {L : Nat → Bool} (e : Eff) : ∀ k, k ≤ es.length → tS f ds (es ++ [e]) L k = tS f ds es L k
 | 0, _ => rfl
 | k + 1, h => by
  have h1 : (es ++ [e])[k]? = es[k]? := List.getElem?_append_left (by omega)
  have ih := tS_app (f := f) (ds := ds) (es := es) (L := L) e k (by omega)
  simp only [tS, h1, ih]
theorem hS_app {f : Nat → Chunk} {es : List Eff} {L : Nat → Bool} (e : Eff) : ∀ k, k ≤ es.length → hS f (es ++ [e]) L k = hS f es L k
 | 0, _ => rfl
 | k + 1, h => by
  have h1 : (es ++ [e])[k]? = es[k]? := List.getElem?_append_left (by omega)
  have ih := hS_app (f := f) (es := es) (L := L) e k (by omega)
  simp only [hS, h1, ih]
theorem fp_app {acc : List (List Nat × List Nat)} (x : List Nat × List Nat) {k : Nat} (h : k < acc.length) : fp (acc ++ [x]) k = fp acc k := by
 unfold fp
 rw [List.getD_eq_getElem?_getD, List.getElem?_append_left h, ← List.getD_eq_getElem?_getD]
theorem drawL_out {P : Program} {nt : Nat} {ops : Array Oper} {n0 : Nat} {K : List (List Nat × List Nat) → St → Prop} {f : Nat → AV} {h : Nat → Chunk} : ∀ (l : List Oper) (i : Nat) (s : St) (acc : List (List Nat × List Nat)) (es : List Eff),
 ops.toList.drop i = l → i ≤ ops.size → es.length = i → acc.length = i → look s.t = tS f (ops.toList.map (·.dst)) es (fun _ => true) i → lookC s.h = hS h es (fun _ => true) i → (∀ k, k < i → OpAt P nt ops n0 f h (ops.toList.map (·.dst)) es acc k) →
 drawL P nt ops n0 i l acc K s → ∃ es' acc' s', es'.length = ops.size ∧ s'.n = s.n ∧ look s'.t = tS f (ops.toList.map (·.dst)) es' (fun _ => true) ops.size ∧ lookC s'.h = hS h es' (fun _ => true) ops.size ∧
  (∀ k, k < ops.size → OpAt P nt ops n0 f h (ops.toList.map (·.dst)) es' acc' k) ∧ K acc' s'
 | [], i, ⟨st, sh, sn⟩, acc, es, hl, hi, h1, h2, h3, h4, h5, hx => by
  have hsz : i = ops.size := by
   have := congrArg List.length hl
   simp at this; omega
  subst hsz
  exact ⟨es, acc, ⟨st, sh, sn⟩, h1, rfl, h3, h4, h5, hx⟩
 | o :: r, i, ⟨st, sh, sn⟩, acc, es, hl, hi, h1, h2, h3, h4, h5, hx => by
  have ho' : ops.toList[i]? = some o := by
   have : (ops.toList.drop i)[0]? = some o := by rw [hl]; rfl
   rw [List.getElem?_drop] at this
   simpa using this
  have ho : ops[i]? = some o := by simpa using ho'
  have hlt : i < ops.size := (Array.getElem?_eq_some_iff.1 ho).1
  simp only [drawL] at hx
  obtain ⟨hd, hx⟩ := hx
  obtain ⟨e, k1, k23⟩ := opWF_cut hx
  have k2 : e.fresh ≤ 4 := by cases e; exact k23.1
  have k3 : drawL P nt ops n0 (i + 1) r (acc ++ [(touch (look st) sh o, e.ups.map (·.1))]) K ⟨putO o.dst e.val st, e.ups ++ sh, sn⟩ := by cases e; exact k23.2
  have hdst : (ops.toList.map (·.dst)).getD i none = o.dst := by
   rw [List.getD_eq_getElem?_getD, List.getElem?_map, ho']; rfl
  have hei : (es ++ [e])[i]? = some e := by rw [List.getElem?_append_right (by omega), h1]; simp
  refine drawL_out r (i + 1) ⟨putO o.dst e.val st, e.ups ++ sh, sn⟩ _ (es ++ [e]) ?_ hlt ?_ ?_ ?_ ?_ ?_ k3
  ·rw [← List.drop_drop, hl]; rfl
  ·rw [List.length_append, h1]; rfl
  ·rw [List.length_append, h2]; rfl
  ·have e1 := tS_app (f := f) (ds := ops.toList.map (·.dst)) (es := es) (L := fun _ => true) e i (by omega)
   simp only [tS, hei, hdst, e1, ← h3]
   exact look_put _ _ _
  ·have e1 := hS_app (f := h) (es := es) (L := fun _ => true) e i (by omega)
   simp only [hS, hei, e1, ← h4]
   exact (upd_look _ _).symm
  ·intro k hk
   by_cases hki : k < i
   ·obtain ⟨o2, e2, q1, q2, q3, q4, q5, q6, q7⟩ := (h5 k hki).ok
    refine ⟨o2, e2, q1, by rw [List.getElem?_append_left (by omega)]; exact q2, q3, q4, q5, by rw [fp_app _ (by omega)]; exact q6, ?_⟩
    rw [fp_app _ (by omega), tS_app e k (by omega), hS_app e k (by omega)]
    exact q7
   ·obtain rfl : k = i := by omega
    have hfp : fp (acc ++ [(touch (look st) sh o, e.ups.map (·.1))]) k = (touch (look st) sh o, e.ups.map (·.1)) := by
     unfold fp
     rw [List.getD_eq_getElem?_getD, List.getElem?_append_right (by omega), h2]; simp
    refine ⟨o, e, ho, hei, hd, hdst, k2, by rw [hfp], ?_⟩
    rw [hfp, tS_app e k (by omega), hS_app e k (by omega), ← h3, ← h4]
    exact k1
theorem MemOk.weakU {W : World} {N U U' F : Nat → Prop} {β : Nat → Option Bind} {h : Nat → Chunk} {w : World} (M : MemOk W N U F β h w) (hU : ∀ i, U i → U' i) : MemOk W N U' F β h w := by
 refine ⟨M.size, M.os, M.tape, M.output, M.frame, M.fin, fun id bd hb => hU _ (M.used id bd hb), fun id hd => ?_, M.dis, M.off⟩
 obtain ⟨bd, hb, hc⟩ := M.ch id hd
 exact ⟨bd, hb, hc.mono (E := ⟨hU, fun b hb => ⟨hb, rfl⟩, fun _ _ _ h => ⟨_, h⟩⟩) (fun g _ => rfl)⟩
theorem MemOk.drew {W : World} {N U F : Nat → Prop} {β : Nat → Option Bind} {h : Nat → Chunk} {w w' : World} (M : MemOk W N U F β h w) (hh : w'.heap = w.heap) (ho : w'.os = w.os) (ht : w'.tape = w.tape) (hp : w'.output = w.output) : MemOk W N U F β h w' := by
 have E : Ext U F β w U F β w' := ⟨fun _ h => h, fun b hb => ⟨hb, by rw [hh]⟩, fun _ _ _ h => ⟨_, h⟩⟩
 refine ⟨by rw [hh]; exact M.size, ho.trans M.os, ht.trans M.tape, hp.trans M.output, fun b hb hn => by rw [hh]; exact M.frame b hb hn, fun b hb => by rw [hh]; exact M.fin b hb, M.used, fun id hd => ?_, M.dis, fun i bd b hb hbb => by rw [hh]; exact M.off i bd b hb hbb⟩
 obtain ⟨bd, hb, hc⟩ := M.ch id hd
 exact ⟨bd, hb, hc.mono E (fun g _ => by rw [hh])⟩
structure Mid (H : Hist) (n0 n : Nat) (f : Nat → AV) (h : Nat → Chunk) (ds : List (Option Tmp)) (es : List Eff) (L : Nat → Bool) (a : Act) (w : World) : Prop where
 ok : ∃ F β, MemOk H.W H.N (fun i => i < n0 ∨ ∃ k, k < n ∧ L k = true ∧ n0 + 4 * k ≤ i ∧ i < n0 + 4 * k + 4) F β (hS h es L n) w ∧
  (∀ t, RelA (fun i => i < n0 ∨ ∃ k, k < n ∧ L k = true ∧ n0 + 4 * k ≤ i ∧ i < n0 + 4 * k + 4) w F β (tS f ds es L n t) (a.tmps.getD t undef)) ∧
  (∀ b, H.F b → F b) ∧ (∀ b, F b → H.F b ∨ H.W.heap.size ≤ b ∨ H.N b) ∧ (∀ i bd, i < H.k → β i = some bd → ∃ bs, H.β i = some ⟨bd.v, bd.b, bd.n, bd.sz, bs⟩) ∧ Dfr F H.W.heap.size a.defers w
 nt : a.tmps.size = H.nt
theorem tmps_put {U F : Nat → Prop} {β : Nat → Option Bind} {w : World} {a : Act} {f : Nat → AV} {nt : Nat} (ht : ∀ t, RelA U w F β (f t) (a.tmps.getD t undef)) (hnt : a.tmps.size = nt) {d : Option Tmp} (hd : dstOk nt d) {x : AV} {v : Value} (hx : RelA U w F β x v) (t : Nat) : RelA U w F β (updT f d x t) ((a.put d v).tmps.getD t undef) := by
 cases d with
 | none => simpa [updT, Act.put] using ht t
 | some d =>
  simp only [updT, Act.put, Option.some.injEq]
  by_cases h1 : d = t
  ·subst h1
   rw [if_pos rfl]
   have : d < a.tmps.size := by rw [hnt]; exact hd
   rw [Array.getD_eq_getD_getElem?, Array.getElem?_setIfInBounds_self, if_pos this]
   exact hx
  ·rw [if_neg h1, Array.getD_eq_getD_getElem?, Array.getElem?_setIfInBounds_ne h1, ← Array.getD_eq_getD_getElem?]
   exact ht t
theorem put_size (a : Act) (d : Option Tmp) (v : Value) : (a.put d v).tmps.size = a.tmps.size ∧ (a.put d v).defers = a.defers := by
 cases d <;> simp [Act.put]
theorem draw_any {P : Program} {H : Hist} {s : St} {F : Nat → Prop} {β : Nat → Option Bind} {a : Act} {w : World} {ops : Array Oper} {Q : Exit → St → Prop} (hx : DrawG P H.nt ops (Q .normal) s) (C : Conc H s F β a w) :
 wpAny P .any ops (Post H Q) ops.size (Array.replicate ops.size false) a { w with drawn := w.drawn + 1 } := by
 obtain ⟨es, acc, s', hel, hn, ht, hh, hat, hok, hK⟩ := drawL_out (f := look s.t) (h := lookC s.h) ops.toList 0 s [] [] (by simp) (Nat.zero_le _) rfl rfl rfl rfl (fun k hk => by omega) hx
 -- what the check has shown
 unfold drawOk at hok
 simp only [Bool.and_eq_true] at hok
 obtain ⟨hedge, hpair⟩ := hok
 have edge : ∀ k o, ops[k]? = some o → ∀ e ∈ o.after, Region.binds .any e = true → e.on < k := by
  intro k o ho e he hb
  have hk : k < ops.size := (Array.getElem?_eq_some_iff.1 ho).1
  have := List.all_eq_true.1 hedge k (by simpa using hk)
  rw [ho] at this
  have := List.all_eq_true.1 this e (by simpa using he)
  rw [hb] at this
  simpa using this
 have pair : ∀ i j, i < j → j < ops.size → pairOk ops (masks ops.toList []) acc i j = true := by
  intro i j hij hj
  have := List.all_eq_true.1 hpair j (by simpa using hj)
  exact List.all_eq_true.1 this i (by simpa using hij)
 let n := ops.size
 let ds := ops.toList.map (·.dst)
 -- the induction
 have key : ∀ (fuel : Nat) (listed : Array Bool) (a : Act) (w : World), listed.size = n → Closed ops (fun i => listed.getD i false = true) → ((List.range n).filter fun i => !listed.getD i false).length = fuel →
  Mid H s.n n (look s.t) (lookC s.h) ds es (fun i => listed.getD i false) a w → wpAny P .any ops (Post H Q) fuel listed a w := by
  intro fuel
  have allDone : ∀ (listed : Array Bool) (a : Act) (w : World), (∀ i, i < n → listed.getD i false = true) → Mid H s.n n (look s.t) (lookC s.h) ds es (fun i => listed.getD i false) a w → Post H Q .normal a w := by
   intro listed a w hall M
   obtain ⟨F, β, M1, M2, M3, M4, M5, M6⟩ := M.ok
   have e1 : ∀ t, tS (look s.t) ds es (fun i => listed.getD i false) n t = look s'.t t := by
    intro t
    rw [ht]
    exact tS_agree (fun k hk _ => hall k hk) n (Nat.le_refl _) (fun k h1 h2 => by omega)
   have e2 : hS (lookC s.h) es (fun i => listed.getD i false) n = lookC s'.h := by
    funext t
    rw [hh]
    exact hS_agree (fun k e hk _ _ => hall k hk) n (Nat.le_refl _) (fun k e h1 h2 => by omega)
   rw [e2] at M1
   have hU : ∀ i, (i < s.n ∨ ∃ k, k < n ∧ listed.getD k false = true ∧ s.n + 4 * k ≤ i ∧ i < s.n + 4 * k + 4) → i < s.n + 4 * ops.size := by
    rintro i (h | ⟨k, h1, _, h2, h3⟩)
    ·omega
    ·have : n = ops.size := rfl
     omega
   refine ⟨⟨s'.t, s'.h, s.n + 4 * ops.size⟩, F, β, ⟨fun t => ?_, M1.weakU hU, M.nt, M6, M3, M4, M5, Nat.le_trans C.k (Nat.le_add_right _ _)⟩, hK⟩
   have := M2 t
   rw [e1 t] at this
   exact RelA.mono ⟨hU, fun b hb => ⟨hb, rfl⟩, fun _ _ _ h => ⟨_, h⟩⟩ _ _ this
  induction fuel with
  | zero =>
   intro listed a w hsz hcl hf M
   have hall : ∀ i, i < n → listed.getD i false = true := by
    intro i hi
    have := List.eq_nil_of_length_eq_zero hf
    rw [List.filter_eq_nil_iff] at this
    have := this i (by simpa using hi)
    simpa using this
   refine ⟨?_, allDone listed a w hall M⟩
   apply List.eq_nil_iff_forall_not_mem.2
   intro j hj
   obtain ⟨h1, o, ho, _⟩ := mem_ready.1 hj
   have hjn : j < n := (Array.getElem?_eq_some_iff.1 ho).1
   have := hall j hjn
   rw [Array.getD_eq_getD_getElem?] at this h1
   have hjs : j < listed.size := by omega
   rw [Array.getElem?_eq_getElem hjs] at this h1
   simp only [Option.getD_some] at this h1
   rw [this] at h1; simp at h1
  | succ fuel ih =>
   intro listed a w hsz hcl hf M
   have gd : ∀ i, i < n → listed.getD i true = listed.getD i false := by
    intro i hi
    have hjs : i < listed.size := by omega
    rw [Array.getD_eq_getD_getElem?, Array.getD_eq_getD_getElem?, Array.getElem?_eq_getElem hjs]; rfl
   refine ⟨fun hr => ?_, fun i hi => ?_⟩
   · -- nobody may come up: all are done
    refine allDone listed a w ?_ M
    intro i
    induction i using Nat.strongRecOn with
    | _ i ihi =>
     intro hi
     cases hLi : listed.getD i false with
     | true => rfl
     | false =>
      exfalso
      have ho : ops[i]? = some ops[i] := Array.getElem?_eq_getElem hi
      have hm : i ∈ Region.ready .any ops listed := mem_ready.2 ⟨by rw [gd i hi]; exact hLi, _, ho, fun e he hb => ihi e.on (edge i _ ho e he hb) (by have := edge i _ ho e he hb; omega)⟩
      rw [hr] at hm
      simp at hm
   · -- number i comes up
    obtain ⟨hun, oi, hoi, hpre⟩ := mem_ready.1 hi
    have hin : i < n := (Array.getElem?_eq_some_iff.1 hoi).1
    rw [gd i hin] at hun
    obtain ⟨F, β, M1, M2, M3, M4, M5, M6⟩ := M.ok
    obtain ⟨o, e, q1, q2, q3, q4, q5, q6, q7⟩ := (hat i hin).ok
    rw [hoi] at q1
    cases q1
    -- those that are ordered
    have hcl' : Closed ops (fun k => listed.getD k false = true ∨ k = i) := by
     intro k ok hk hE e' he' hb'
     rcases hE with hE | rfl
     ·exact .inl (hcl k ok hk hE e' he' hb')
     ·rw [hoi] at hk; cases hk
      exact .inl (hpre e' he' hb')
    have before : ∀ k, k < i → ((masks ops.toList []).getD i 0).testBit k = true → listed.getD k false = true := by
     intro k hk hb
     have := masks_spec hcl' ops.toList [] (by simp) (by intro i j h; simp at h) i k hb (.inr rfl)
     rcases this with h | h
     ·exact h
     ·omega
    have after : ∀ k, i < k → listed.getD k false = true → ((masks ops.toList []).getD k 0).testBit i = true → False := by
     intro k hk hL hb
     have := masks_spec hcl ops.toList [] (by simp) (by intro i j h; simp at h) k i hb hL
     rw [hun] at this; simp at this
    have apart_lt : ∀ k ok, k < i → ops[k]? = some ok → listed.getD k false = false → Oper.apart ops ok oi = true ∧ disj (fp acc k).2 ((fp acc i).1 ++ (fp acc i).2) = true := by
     intro k ok hk hok hL
     have := pair k i hk hin
     unfold pairOk at this
     rw [Bool.or_eq_true] at this
     rcases this with h | h
     ·have := before k hk h; rw [hL] at this; simp at this
     ·simp only [hok, hoi, Bool.and_eq_true] at h
      exact ⟨h.1.1, h.1.2⟩
    have apart_gt : ∀ k ok, i < k → k < n → ops[k]? = some ok → listed.getD k false = true → Oper.apart ops oi ok = true ∧ disj (fp acc i).2 ((fp acc k).1 ++ (fp acc k).2) = true ∧ (disj (fp acc i).1 (fp acc k).2 = true ∨ lkOk ops acc i k = true) := by
     intro k ok hk hkn hok hL
     have := pair i k hk hkn
     unfold pairOk at this
     rw [Bool.or_eq_true] at this
     rcases this with h | h
     ·exact (after k hk hL h).elim
     ·simp only [hok, hoi, Bool.and_eq_true, Bool.or_eq_true] at h
      exact ⟨h.1.1, h.1.2, h.2⟩
    have dsk : ∀ k t, ds.getD k none = some t → ∃ ok, ops[k]? = some ok ∧ ok.dst = some t ∧ k < n := by
     intro k t hk
     rw [List.getD_eq_getElem?_getD, List.getElem?_map] at hk
     cases ho : ops.toList[k]? with
     | none => rw [ho] at hk; simp at hk
     | some ok =>
      rw [ho] at hk
      have ho' : ops[k]? = some ok := by simpa using ho
      exact ⟨ok, ho', by simpa using hk, (Array.getElem?_eq_some_iff.1 ho').1⟩
    have fpk : ∀ k e2, k < n → es[k]? = some e2 → (fp acc k).2 = e2.ups.map (·.1) := by
     intro k e2 hk he2
     obtain ⟨_, e3, _, p2, _, _, _, p6, _⟩ := (hat k hk).ok
     rw [he2] at p2; cases p2; exact p6
    have opk : ∀ k, k < n → ∃ ok, ops[k]? = some ok := fun k hk => ⟨_, Array.getElem?_eq_getElem hk⟩
    -- the temporaries that it looks at
    have agT : ∀ t ∈ oi.looksAt ops, tS (look s.t) ds es (fun i => listed.getD i false) n t = tS (look s.t) ds es (fun _ => true) i t := by
     intro t htl
     refine tS_agree (fun k hk hd => ?_) n (Nat.le_of_lt hin) (fun k h1 h2 hd => ?_)
     ·obtain ⟨ok, hok, hdk, _⟩ := dsk k t hd
      cases hL : listed.getD k false with
      | true => rfl
      | false => exact ((Oper.apart_spec (apart_lt k ok hk hok hL).1).1 t hdk htl).elim
     ·obtain ⟨ok, hok, hdk, _⟩ := dsk k t hd
      by_cases hki : k = i
      ·subst hki; exact hun
      ·cases hL : listed.getD k false with
       | false => rfl
       | true => exact ((Oper.apart_spec (apart_gt k ok (by omega) h2 hok hL).1).2.2 t hdk htl).elim
    -- the memory that it looks at
    have agH : ∀ t ∈ (fp acc i).1, hS (lookC s.h) es (fun i => listed.getD i false) n t = hS (lookC s.h) es (fun _ => true) i t ∨ (isLk oi = true ∧ OpenC (hS (lookC s.h) es (fun _ => true) i t) (hS (lookC s.h) es (fun i => listed.getD i false) n t)) := by
     intro t htl
     by_cases hex : ∃ k e2, i < k ∧ k < n ∧ es[k]? = some e2 ∧ t ∈ e2.ups.map (·.1) ∧ listed.getD k false = true
     ·obtain ⟨k, e2, hik, hkn, he2, htk, hLk⟩ := hex
      have lk : ∀ k e2, i < k → k < n → es[k]? = some e2 → t ∈ e2.ups.map (·.1) → listed.getD k false = true → lkOk ops acc i k = true := by
       intro k e2 hik hkn he2 htk hLk
       obtain ⟨ok, hok⟩ := opk k hkn
       rcases (apart_gt k ok hik hkn hok hLk).2.2 with h | h
       ·exact (disj_iff h t htl (by rw [fpk k e2 hkn he2]; exact htk)).elim
       ·exact h
      have lkk := lk k e2 hik hkn he2 htk hLk
      obtain ⟨ok, hok⟩ := opk k hkn
      have mid : ∀ k m e3, lkOk ops acc i k = true → i < m → m < k → m < n → es[m]? = some e3 → t ∉ e3.ups.map (·.1) := by
       intro k m e3 hl h1 h2 h3 h4 h5
       unfold lkOk at hl
       rw [Bool.and_eq_true] at hl
       have := List.all_eq_true.1 hl.2 m (by simpa using h2)
       rw [Bool.or_eq_true] at this
       rcases this with h | h
       ·have := Nat.le_of_ble_eq_true h; omega
       ·exact disj_iff h t htl (by rw [fpk m e3 h3 h4]; exact h5)
      have uniq : ∀ k' e3, i < k' → k' < n → es[k']? = some e3 → t ∈ e3.ups.map (·.1) → listed.getD k' false = true → k' = k := by
       intro k' e3 h1 h2 h3 h4 h5
       rcases Nat.lt_trichotomy k' k with h | h | h
       ·exact (mid k k' e3 lkk h1 h h2 h3 h4).elim
       ·exact h
       ·exact (mid k' k e2 (lk k' e3 h1 h2 h3 h4 h5) hik h hkn he2 htk).elim
      unfold lkOk at lkk
      rw [Bool.and_eq_true, hoi, hok] at lkk
      simp only [Bool.and_eq_true] at lkk
      obtain ⟨⟨isl, isn⟩, _⟩ := lkk
      refine .inr ⟨isl, ?_⟩
      obtain ⟨ok', e3, p1, p2, _, _, _, p6, p7⟩ := (hat k hkn).ok
      rw [hok] at p1; cases p1
      rw [he2] at p2; cases p2
      obtain ⟨id, a', n', es', l, r1, r2⟩ := entry_ups isn p7
      have hti : t = id := by rw [r2] at htk; simpa using htk
      subst hti
      have r3 : hS (lookC s.h) es (fun _ => true) k t = .mp a' n' es' := by
       unfold onlyC at r1
       split at r1
       ·exact r1
       ·simp at r1
      have r4 : hS (lookC s.h) es (fun _ => true) k t = hS (lookC s.h) es (fun _ => true) i t := by
       refine hS_stay k (Nat.le_of_lt hik) (fun m e4 h1 h2 h3 h4 => ?_)
       exfalso
       by_cases hmi : m = i
       ·subst hmi
        have := disj_iff (apart_gt k ok hik hkn hok hLk).2.1 t (by rw [fpk m e4 hin h3]; exact h4)
        exact this (List.mem_append_right _ (by rw [p6]; exact htk))
       ·exact mid k m e4 (lk k e2 hik hkn he2 htk hLk) (by omega) h2 (by omega) h3 h4
      have r5 : hS (lookC s.h) es (fun i => listed.getD i false) n t = hS (lookC s.h) es (fun i => listed.getD i false) (k + 1) t := by
       refine hS_stay n hkn (fun m e4 h1 h2 h3 h4 => ?_)
       cases hLm : listed.getD m false with
       | false => rfl
       | true => have := uniq m e4 (by omega) h2 h3 h4 hLm; omega
      have r6 : hS (lookC s.h) es (fun i => listed.getD i false) (k + 1) t = .mp a' n' (mopen l es') := by
       simp only [hS, hLk, he2, r2, upd, if_true]
      exact .inr ⟨a', n', es', l, r4.symm.trans r3, r5.trans r6⟩
     ·refine .inl (hS_agree (fun k e2 hk he2 hd => ?_) n (Nat.le_of_lt hin) (fun k e2 h1 h2 he2 hd => ?_))
      ·obtain ⟨ok, hok⟩ := opk k (by omega)
       cases hL : listed.getD k false with
       | true => rfl
       | false =>
        have := disj_iff (apart_lt k ok hk hok hL).2 t (by rw [fpk k e2 (by omega) he2]; exact hd)
        exact (this (List.mem_append_left _ htl)).elim
      ·by_cases hki : k = i
       ·subst hki; exact hun
       ·cases hL : listed.getD k false with
        | false => rfl
        | true => exact (hex ⟨k, e2, by omega, h2, he2, hd, hL⟩).elim
    have q7' : opWF P ops oi (tS (look s.t) ds es (fun _ => true) i) (onlyC (fp acc i).1 (hS (lookC s.h) es (fun i => listed.getD i false) n)) (s.n + 4 * i) (· = e) := by
     cases isl : isLk oi with
     | true =>
      refine opWF_open isl (fun t => ?_) q7
      unfold onlyC
      cases hm : memN (fp acc i).1 t with
      | false => exact .inl rfl
      | true =>
       rcases agH t (memN_iff.1 hm) with h | h
       ·exact .inl h
       ·exact h.2
     | false =>
      have : onlyC (fp acc i).1 (hS (lookC s.h) es (fun i => listed.getD i false) n) = onlyC (fp acc i).1 (hS (lookC s.h) es (fun _ => true) i) := by
       funext t
       unfold onlyC
       cases hm : memN (fp acc i).1 t with
       | false => rfl
       | true =>
        rcases agH t (memN_iff.1 hm) with h | h
        ·exact h
        ·rw [isl] at h; simp at h
      rw [this]; exact q7
    have hsub : ∀ id, onlyC (fp acc i).1 (hS (lookC s.h) es (fun i => listed.getD i false) n) id ≠ .dead → onlyC (fp acc i).1 (hS (lookC s.h) es (fun i => listed.getD i false) n) id = hS (lookC s.h) es (fun i => listed.getD i false) n id := by
     intro id hne
     unfold onlyC at hne ⊢
     cases hm : memN (fp acc i).1 id with
     | false => rw [hm] at hne; exact (hne rfl).elim
     | true => rfl
    have hLset : (fun k => (listed.setIfInBounds i true).getD k false) = setL (fun k => listed.getD k false) i := by
     funext k
     unfold setL
     by_cases hki : k = i
     ·subst hki
      have : k < listed.size := by omega
      simp [this]
     ·rw [if_neg hki, getD_set_ne false (Ne.symm hki)]
    have hUnot : ∀ x, s.n + 4 * i ≤ x → x < s.n + 4 * i + 4 → ¬ (x < s.n ∨ ∃ k, k < n ∧ listed.getD k false = true ∧ s.n + 4 * k ≤ x ∧ x < s.n + 4 * k + 4) := by
     rintro x h1 h2 (h | ⟨k, h3, h4, h5, h6⟩)
     ·omega
     ·have : k = i := by omega
      subst this
      rw [hun] at h4; simp at h4
    have fin := opWF_run (a := a) (Q := Post H Q) (next := wpAny P .any ops (Post H Q) fuel (listed.setIfInBounds i true)) (hT := onlyC (fp acc i).1 (hS (lookC s.h) es (fun i => listed.getD i false) n)) M1 hsub (hUnot _ (Nat.le_refl _) (by omega)) (o := oi)
     (f := tS (look s.t) ds es (fun _ => true) i) (fun t htl => by rw [← agT t htl]; exact M2 t) (fun e' he' x h1 h2 => by subst he'; exact hUnot x h1 (by omega)) q7' (by
     rintro e' v w' rfl S
     refine ih _ _ _ (by simpa using hsz) ?_ ?_ ?_
     ·intro k ok hk hE e2 he2 hb2
      rw [congrFun hLset k] at hE
      show (fun k => (listed.setIfInBounds i true).getD k false) e2.on = true
      rw [hLset]
      unfold setL at hE ⊢
      by_cases h1 : e2.on = i
      ·rw [if_pos h1]
      ·rw [if_neg h1]
       by_cases hki : k = i
       ·subst hki
        rw [hoi] at hk; cases hk
        exact hpre e2 he2 hb2
       ·rw [if_neg hki] at hE
        exact hcl k ok hk hE e2 he2 hb2
     ·have cnt : ∀ (l : List Nat), l.Nodup → i ∈ l → (l.filter fun k => !listed.getD k false).length = (l.filter fun k => !(listed.setIfInBounds i true).getD k false).length + 1 := by
       intro l
       induction l with
       | nil => intro _ h; simp at h
       | cons x r ihr =>
        intro hnd hmem
        have hx := congrFun hLset x
        simp only [setL] at hx
        rw [List.nodup_cons] at hnd
        by_cases hxi : x = i
        ·subst hxi
         rw [if_pos rfl] at hx
         rw [List.filter_cons, List.filter_cons, hun, hx]
         simp only [Bool.not_false, Bool.not_true, if_true, Bool.false_eq_true, if_false, List.length_cons]
         congr 2
         apply List.filter_congr
         intro y hy
         have hyx : y ≠ x := fun h => hnd.1 (h ▸ hy)
         have := congrFun hLset y
         simp only [setL, if_neg hyx] at this
         rw [this]
        ·rw [if_neg hxi] at hx
         have := ihr hnd.2 ((List.mem_cons.1 hmem).resolve_left (Ne.symm hxi))
         rw [List.filter_cons, List.filter_cons, hx]
         split
         ·simp only [List.length_cons, this]
         ·exact this
      have := cnt (List.range n) List.nodup_range (by simpa using hin)
      omega
     ·obtain ⟨F', β', S1, S2, S3, S4⟩ := S
      have eT := tS_insert (f := look s.t) (ds := ds) (L := fun k => listed.getD k false) hun q2 n hin (fun k t h1 h2 h3 h4 => by
       obtain ⟨ok, hok, hdk, _⟩ := dsk k t h4
       rw [q4]
       intro h5
       exact (Oper.apart_spec (apart_gt k ok h1 h2 hok h3).1).2.1 t h5 hdk)
      have eH := hS_insert (h := lookC s.h) (L := fun k => listed.getD k false) hun q2 n hin (fun k e2 t h1 h2 h3 h4 h5 h6 => by
       obtain ⟨ok, hok⟩ := opk k h2
       have := disj_iff (apart_gt k ok h1 h2 hok h3).2.1 t (by rw [q6]; exact h6)
       exact this (List.mem_append_right _ (by rw [fpk k e2 h2 h4]; exact h5)))
      have hU' : ∀ x, ((x < s.n ∨ ∃ k, k < n ∧ listed.getD k false = true ∧ s.n + 4 * k ≤ x ∧ x < s.n + 4 * k + 4) ∨ (s.n + 4 * i ≤ x ∧ x < s.n + 4 * i + e'.fresh)) → (x < s.n ∨ ∃ k, k < n ∧ setL (fun k => listed.getD k false) i k = true ∧ s.n + 4 * k ≤ x ∧ x < s.n + 4 * k + 4) := by
       rintro x ((h | ⟨k, h1, h2, h3⟩) | ⟨h1, h2⟩)
       ·exact .inl h
       ·refine .inr ⟨k, h1, ?_, h3⟩
        unfold setL
        by_cases hki : k = i
        ·rw [if_pos hki]
        ·rw [if_neg hki]; exact h2
       ·exact .inr ⟨i, hin, by unfold setL; rw [if_pos rfl], h1, by omega⟩
      have hU'' : ∀ x, ((x < s.n ∨ ∃ k, k < n ∧ listed.getD k false = true ∧ s.n + 4 * k ≤ x ∧ x < s.n + 4 * k + 4) ∨ (s.n + 4 * i ≤ x ∧ x < s.n + 4 * i + e'.fresh)) → (x < s.n ∨ ∃ k, k < n ∧ (listed.setIfInBounds i true).getD k false = true ∧ s.n + 4 * k ≤ x ∧ x < s.n + 4 * k + 4) := by
       intro x hx
       rcases hU' x hx with h | ⟨k, h1, h2, h3⟩
       ·exact .inl h
       ·exact .inr ⟨k, h1, (congrFun hLset k).trans h2, h3⟩
      refine ⟨⟨F', β', ?_, fun t => ?_, fun b hb => (S2.f b (M3 b hb)).1, fun b hb => ?_, fun j bd hj hb => ?_, by rw [(put_size a oi.dst v).2]; exact M6.mono S2.f⟩, by rw [(put_size a oi.dst v).1]; exact M.nt⟩
      ·rw [hLset, eH]
       exact S1.weakU hU''
      ·rw [hLset, eT, q4]
       have := tmps_put (x := e'.val) (v := v) (fun t => RelA.mono S2 _ _ (M2 t)) M.nt q3 S3 t
       exact RelA.mono ⟨hU'', fun b hb => ⟨hb, rfl⟩, fun _ _ _ h => ⟨_, h⟩⟩ _ _ this
      ·rcases S4 b hb with h | h
       ·exact M4 b h
       ·exact .inr h
      ·obtain ⟨bs, h1⟩ := S2.e j bd (.inl (Nat.lt_of_lt_of_le hj C.k)) hb
       exact M5 j ⟨_, _, _, _, bs⟩ hj h1)
    unfold wpOp
    rw [hoi]
    exact fin
 refine key ops.size _ a _ (by simp [n]) ?_ ?_ ?_
 ·intro i o _ hE
  exfalso
  rw [Array.getD_eq_getD_getElem?] at hE
  by_cases hi : i < ops.size
  ·simp [hi] at hE
  ·simp [hi] at hE
 ·have : (List.range n).filter (fun i => !(Array.replicate ops.size false).getD i false) = List.range n := by
   apply List.filter_eq_self.2
   intro i hi
   have hi' : i < ops.size := by simpa using hi
   simp [hi']
  rw [this]; simp [n]
 ·have hL : (fun i => (Array.replicate ops.size false).getD i false) = fun _ => false := by
   funext i
   rw [Array.getD_eq_getD_getElem?]
   by_cases hi : i < ops.size
   ·simp [hi]
   ·simp [hi]
  have t0 : ∀ k, tS (look s.t) ds es (fun _ => false) k = look s.t := by
   intro k
   induction k with
   | zero => rfl
   | succ k ih => simp only [tS]; exact ih
  have h0 : ∀ k, hS (lookC s.h) es (fun _ => false) k = lookC s.h := by
   intro k
   induction k with
   | zero => rfl
   | succ k ih => simp only [hS]; exact ih
  have hU0 : ∀ x, x < s.n → (x < s.n ∨ ∃ k, k < n ∧ (Array.replicate ops.size false).getD k false = true ∧ s.n + 4 * k ≤ x ∧ x < s.n + 4 * k + 4) := fun x hx => .inl hx
  refine ⟨⟨F, β, ?_, fun t => ?_, C.f, C.g, C.e, C.d.mono fun b hb => ⟨hb, rfl⟩⟩, C.nt⟩
  ·rw [hL, h0]
   exact (C.m.drew (w' := { w with drawn := w.drawn + 1 }) rfl rfl rfl rfl).weakU (fun x hx => .inl hx)
  ·rw [hL, t0]
   have E : Ext (· < s.n) F β w (fun i => i < s.n ∨ ∃ k, k < n ∧ (Array.replicate ops.size false).getD k false = true ∧ s.n + 4 * k ≤ i ∧ i < s.n + 4 * k + 4) F β { w with drawn := w.drawn + 1 } := ⟨fun x hx => .inl hx, fun b hb => ⟨hb, rfl⟩, fun _ _ _ h => ⟨_, h⟩⟩
   exact RelA.mono E _ _ (C.t t)
theorem draw_run {P : Program} (hmix : P.follows .mixedOrders = true) {H : Hist} {s : St} {F : Nat → Prop} {β : Nat → Option Bind} {a : Act} {w : World} {ops : Array Oper} {Q : Exit → St → Prop} (id : Nat) (hx : DrawG P H.nt ops (Q .normal) s) (C : Conc H s F β a w) :
 (Code.region id ops true).wp P (Post H Q) a w := wp_region_any hmix (draw_any hx C)
end Go.Proofs.Ytdkmndimmpilaaa
namespace Go.Proofs.Ytdkmndimmpilaaa
set_option linter.all false
open Go.RowKit
theorem spec_am {P : Program} {f : FuncId} {fn : Func} {c : Code} {args : List AV} {hs hs' : List Chunk} {r : AV} (hf : P.funcs[f]? = some fn) (hb : fn.body = some c) (hn : (fn.name == "runtime.NumGoroutine") = false) (hmix : P.follows .mixedOrders = true)
 (nt : Nat) (hnt : nt = args.length + (fn.ntmps - args.length)) (rs : List ResultVar) (hrs : fn.results = rs.toArray) (hle : hs.length ≤ hs'.length)
 (h : awp P nt hs.length c (RetQ P hs.length rs r hs') ⟨argsT 0 args, hsT 0 hs, hs.length⟩) : Spec P f args hs r hs' :=
 spec_of hf hb hn (fun _ _ _ _ _ _ _ _ id hx C => draw_run hmix id hx C) nt hnt rs hrs hle h
section
variable {k : Nat} {b : Bool} {X Y : (Exit → St → Prop) → St → Prop} {Q : Exit → St → Prop} {s : St}
theorem cond_i (h1 : b = true → X Q s) (h2 : b = false → Y Q s) : CondJ k (.c (.v (.bool b))) X Y Q s := .inl ⟨h1, h2⟩
end
theorem joinK_n {α : Type} {k : Nat} {S : α → St} {Pr : α → Prop} {Q : Exit → St → Prop} {s : St} : joinK k S Pr Q .normal s = ∃ y, Pr y ∧ ToK k s (S y) := rfl
theorem joinK_e {α : Type} {k : Nat} {S : α → St} {Pr : α → Prop} {Q : Exit → St → Prop} {s : St} {i : Nat} : joinK k S Pr Q (.exit i) s = Q (.exit i) s := rfl
theorem joinK_r {α : Type} {k : Nat} {S : α → St} {Pr : α → Prop} {Q : Exit → St → Prop} {s : St} : joinK k S Pr Q .ret s = Q .ret s := rfl
section
variable {P : Program} {f : FuncId} {args args' : List AV} {h : Nat → Chunk} {m : Nat} {K : Eff → Prop} {r : AV}
theorem callP (S : Spec P f args' [] r []) (hw : WkL (cvL [] noC args) args') (k : K ⟨up [] m r, [], 0⟩) : CallG P f args h m K :=
 ⟨_, .inl ⟨[], args', [], r, [], List.nodup_nil, hw, rfl, by simp, S, rfl⟩, k⟩
theorem callB (S : Spec P f args' [] r []) (hw : WkL (cvL [] h args) args') (hr : scal r = true) (k : K ⟨r, [], 0⟩) : CallG P f args h m K :=
 ⟨_, .inr ⟨args', r, hr, hw, S, rfl⟩, k⟩
variable {c : Bool} {φ : Prop}
theorem gcallP (S : c = true → Spec P f args' [] r []) (hw : WkL (cvL [] noC args) args') (hφ : c = true → φ) (k : K ⟨.opt c (up [] m r), [], 0⟩) : GCall P c f args φ h m K :=
 .inl ⟨_, fun hc => ⟨hφ hc, .inl ⟨[], args', [], r, [], List.nodup_nil, hw, rfl, by simp, S hc, rfl⟩⟩, k⟩
end
def lpK {α : Type} (k : Nat) (S : α → St) (Pr : α → Prop) (μ : α → Nat) (x : α) (Q : Exit → St → Prop) : Exit → St → Prop := fun e s' => match e with
 | .normal => ∃ y, Pr y ∧ μ y < μ x ∧ ToK k s' (S y)
 | e => Q e s'
theorem loopI {k : Nat} {A : (Exit → St → Prop) → St → Prop} {Q : Exit → St → Prop} {s : St} {α : Type} (S : α → St) (Pr : α → Prop) (μ : α → Nat) (x : α) (hx : Pr x) (h0 : ToK k s (S x))
 (hr : ∀ x, Pr x → A (lpK k S Pr μ x Q) (S x)) : LoopG k A Q s := ⟨α, S, Pr, μ, ⟨x, hx, h0⟩, hr⟩
theorem lpK_n {α : Type} {k : Nat} {S : α → St} {Pr : α → Prop} {μ : α → Nat} {x : α} {Q : Exit → St → Prop} {s : St} : lpK k S Pr μ x Q .normal s = ∃ y, Pr y ∧ μ y < μ x ∧ ToK k s (S y) := rfl
theorem lpK_e {α : Type} {k : Nat} {S : α → St} {Pr : α → Prop} {μ : α → Nat} {x : α} {Q : Exit → St → Prop} {s : St} {i : Nat} : lpK k S Pr μ x Q (.exit i) s = Q (.exit i) s := rfl
theorem lpK_r {α : Type} {k : Nat} {S : α → St} {Pr : α → Prop} {μ : α → Nat} {x : α} {Q : Exit → St → Prop} {s : St} : lpK k S Pr μ x Q .ret s = Q .ret s := rfl
theorem ToK.trans {k : Nat} {s s' s'' : St} (h : ToK k s s') (h' : ToK k s' s'') : ToK k s s'' := by
 intro H F β a w hk C
 obtain ⟨F', β', C'⟩ := h H F β a w hk C
 exact h' H F' β' a w hk C'
theorem To.nil {k : Nat} {s : St} (t e sz : Nat) (ht : look s.t t = .c (.v (.slice none 0 0))) : ToK k s ⟨(t, .own s.n) :: s.t, (s.n, .row e sz []) :: s.h, s.n + 1⟩ := by
 intro H F β a w hk C
 have hb0 : ∀ bd, β s.n ≠ some bd := fun bd hb => absurd (C.m.used _ bd hb) (Nat.lt_irrefl _)
 obtain ⟨M, E⟩ := C.m.step (w' := w) (h' := lookC ((s.n, .row e sz []) :: s.h)) (β' := updB β s.n (some ⟨.slice none 0 0, none, 0, sz, []⟩)) (F' := F) (U' := (· < s.n + 1)) (fun i => i = s.n)
  (fun i hi => by simp [updB, Ne.symm hi]) (fun i hi => by simp [lookC, Ne.symm hi]) rfl rfl rfl (Nat.le_refl _) (fun _ _ _ => rfl) (fun i hi => Nat.lt_succ_of_lt hi) (fun b hb => hb)
  (fun b hb => ⟨C.m.fin b hb, .inl hb⟩) (fun i bd' hi hu => by subst hi; exact absurd hu (Nat.lt_irrefl _))
  (fun i bd' hi hb => by
   subst hi
   simp only [updB, if_true, Option.some.injEq] at hb
   subst hb
   exact ⟨Nat.lt_succ_self _, fun b hb => by have := Bind.has_nil hb; simp at this⟩)
  (fun i j _ _ _ hi hj _ _ _ _ => by rw [hi, hj])
  (fun E i hi _ => by
   subst hi
   refine ⟨⟨.slice none 0 0, none, 0, sz, []⟩, by simp [updB], ?_⟩
   simp only [lookC, if_true, ChOk]
   simp)
 refine ⟨F, updB β s.n (some ⟨.slice none 0 0, none, 0, sz, []⟩), fun t' => ?_, M, C.nt, C.d, C.f, C.g, fun i bd' hi hb => ?_, Nat.le_succ_of_le C.k⟩
 ·simp only [look]
  by_cases h : t = t'
  ·subst h
   rw [if_pos rfl]
   have h1 := C.t t
   rw [ht, relC] at h1
   simp only [RelA]
   rw [h1.1]
   refine ⟨Nat.lt_succ_self _, rfl, fun bd hb => ?_⟩
   simp only [updB, if_true, Option.some.injEq] at hb
   subst hb; rfl
  ·rw [if_neg h]; exact RelA.mono E _ _ (C.t t')
 ·refine C.e i bd' hi ?_
  have : s.n ≠ i := by have := C.k; omega
  simpa [updB, this] using hb
theorem ToK.refl (k : Nat) (s : St) : ToK k s s := fun _ F β _ _ _ C => ⟨F, β, C⟩
theorem ret0 {P : Program} {rs : List ResultVar} {r : AV} {s : St} {φ : Prop} {xs : List AV} (h : resAV P (look s.t) (lookC s.h) rs = some (φ, xs)) (hφ : φ) (hw : Wk (cv [] (lookC s.h) (oneV xs)) r) : RetG P 0 rs r [] s := by
 refine ⟨s, ToK.refl _ _, [], rfl, List.nodup_nil, trivial, ?_⟩
 rw [h]
 exact ⟨hφ, hw⟩
theorem spec_scal {P : Program} {f : FuncId} (hf : Enters P f) (xs : List Value) (v : Value) (hx : v.oneCell' = true) (h : ∀ w, Calls P f xs.toArray w fun e w' => e = .returned v ∧ Below w.heap.size w w') : Spec P f (xs.map fun x => .c (.v x)) [] (.c (.v v)) [] := by
 refine ⟨hf, Nat.le_refl _, fun w F β vs M hv => ?_⟩
 have hvs : vs = xs := by
  have hl := hv.len
  apply List.ext_getElem?
  intro i
  by_cases hi : i < xs.length
  ·obtain ⟨u, hu, hr⟩ := hv.at i (.c (.v xs[i])) (by simp [hi])
   rw [hu, (relC.1 hr).1]; simp [hi]
  ·rw [List.getElem?_eq_none (by simp at hl; omega), List.getElem?_eq_none (by omega)]
 subst hvs
 refine (h w).mono ?_
 rintro e w' ⟨rfl, hb⟩
 obtain ⟨S1, S2⟩ := M.step (w' := w') (h' := nth []) (β' := β) (F' := F) (U' := (· < 0)) (fun _ => False) (fun _ _ => rfl) (fun _ _ => rfl) hb.os hb.tape hb.output hb.size (fun b h _ => hb.block b h) (fun _ h => h) (fun _ h => h)
  (fun b h => ⟨Nat.lt_of_lt_of_le (M.fin b h) hb.size, .inl h⟩) (fun _ _ h => h.elim) (fun _ _ h => h.elim) (fun _ _ _ _ _ h => h.elim) (fun _ _ h => h.elim)
 exact ⟨v, F, β, rfl, S1, relC.2 ⟨rfl, hx⟩, fun _ h => h, fun _ h => .inl h, fun _ _ _ h => ⟨_, h⟩⟩
theorem enters {P : Program} {f : FuncId} {fn : Func} (hf : P.funcs[f]? = some fn) (hb : fn.body.isSome = true) (hn : (fn.name == "runtime.NumGoroutine") = false) : Enters P f := ⟨fn, hf, hb, hn⟩
theorem wk_self (x : AV) : Wk x x = True := eq_true (Wk.refl x)
theorem bsel_false (t p : Bool) : bsel t p false = (t && p) := by cases t <;> simp [bsel]
theorem bsel_true (t q : Bool) : bsel t true q = (t || q) := by cases t <;> simp [bsel]
theorem bool_imp (b : Bool) : (b = true → b = true) = True := by simp
theorem wrap_in (n : Int) (h1 : -9223372036854775808 ≤ n) (h2 : n ≤ 9223372036854775807) : IntKind.i64.wrap n = n := by rw [IntKind.wrap_i64]; omega
theorem look_n (i : Nat) : look [] i = .undef := rfl
theorem look_c (k i : Nat) (x : AV) (r : List (Nat × AV)) : look ((k, x) :: r) i = if k = i then x else look r i := rfl
theorem lookC_n (i : Nat) : lookC [] i = .dead := rfl
theorem lookC_c (k i : Nat) (x : Chunk) (r : List (Nat × Chunk)) : lookC ((k, x) :: r) i = if k = i then x else lookC r i := rfl
end Go.Proofs.Ytdkmndimmpilaaa
namespace Go.Proofs.Ytdkmndimmpilaaa
set_option linter.all false
open Go.RowKit
def Els {α : Type} (w : World) (B : Nat) (a : Option Addr) (sz : Nat) (enc : α → List Value) (xs : List α) : Prop :=
 xs = [] ∨ ∃ b o, a = some ⟨b, o, none⟩ ∧ b < B ∧ ∀ i j v, (xs[i]?).bind (fun x => (enc x)[j]?) = some v → w.cell? ⟨b, o + (i * sz + j), none⟩ = some v
theorem Els.nil {α : Type} (w : World) (B : Nat) (a : Option Addr) (sz : Nat) (enc : α → List Value) : Els w B a sz enc [] := .inl rfl
theorem Els.get {α : Type} {w : World} {B : Nat} {a : Option Addr} {sz : Nat} {enc : α → List Value} {xs : List α} (h : Els w B a sz enc xs) (i : Nat) (hi : i < xs.length) :
 ∃ b o, a = some ⟨b, o, none⟩ ∧ b < B ∧ ∀ j v, (enc xs[i])[j]? = some v → w.cell? ⟨b, o + (i * sz + j), none⟩ = some v := by
 rcases h with rfl | ⟨b, o, ha, hb, hc⟩
 ·simp at hi
 ·exact ⟨b, o, ha, hb, fun j v hv => hc i j v (by simp [hi, hv])⟩
theorem Els.below {α : Type} {w w' : World} {B B' : Nat} {a : Option Addr} {sz : Nat} {enc : α → List Value} {xs : List α} (h : Els w B a sz enc xs) (hb : Below B' w w') (hB : B ≤ B') : Els w' B a sz enc xs := by
 rcases h with rfl | ⟨b, o, ha, hlt, hc⟩
 ·exact .inl rfl
 ·exact .inr ⟨b, o, ha, hlt, fun i j v hv => (hb.cell (p := ⟨b, _, none⟩) (Nat.lt_of_lt_of_le hlt hB)).trans (hc i j v hv)⟩
theorem Els.mono {α : Type} {w : World} {B B' : Nat} {a : Option Addr} {sz : Nat} {enc : α → List Value} {xs : List α} (h : Els w B a sz enc xs) (hB : B ≤ B') : Els w B' a sz enc xs := by
 rcases h with rfl | ⟨b, o, ha, hlt, hc⟩
 ·exact .inl rfl
 ·exact .inr ⟨b, o, ha, by omega, hc⟩
theorem below_lit (w : World) (o : Obj) : Below w.heap.size w (w.alloc o) := (Below.refl _ _).alloc (Nat.le_refl _) _
theorem _root_.Go.RowKit.Below.drewn {B : Nat} {a w : World} (h : Below B a w) (n : Nat) : Below B a (w.drewN n) := ⟨h.os, h.tape, h.output, h.size, h.block⟩
def e64 (n : Nat) : List Value := [.int .u64 n]
def e32 (n : Nat) : List Value := [.int .u32 n]
def ei64 (n : Int) : List Value := [.int .i64 n]
theorem Els.u64 {w : World} {B : Nat} {a : Option Addr} {xs : List Nat} (h : Els w B a 1 e64 xs) (i : Nat) (hi : i < xs.length) :
 ∃ b o, a = some ⟨b, o, none⟩ ∧ b < B ∧ w.cell? ⟨b, o + i, none⟩ = some (.int .u64 (xs[i] : Nat)) := by
 obtain ⟨b, o, ha, hb, hc⟩ := h.get i hi
 exact ⟨b, o, ha, hb, by simpa using hc 0 _ rfl⟩
theorem Els.i64 {w : World} {B : Nat} {a : Option Addr} {xs : List Int} (h : Els w B a 1 ei64 xs) (i : Nat) (hi : i < xs.length) :
 ∃ b o, a = some ⟨b, o, none⟩ ∧ b < B ∧ w.cell? ⟨b, o + i, none⟩ = some (.int .i64 xs[i]) := by
 obtain ⟨b, o, ha, hb, hc⟩ := h.get i hi
 exact ⟨b, o, ha, hb, by simpa using hc 0 _ rfl⟩
theorem Els.u32 {w : World} {B : Nat} {a : Option Addr} {xs : List Nat} (h : Els w B a 1 e32 xs) (i : Nat) (hi : i < xs.length) :
 ∃ b o, a = some ⟨b, o, none⟩ ∧ b < B ∧ w.cell? ⟨b, o + i, none⟩ = some (.int .u32 (xs[i] : Nat)) := by
 obtain ⟨b, o, ha, hb, hc⟩ := h.get i hi
 exact ⟨b, o, ha, hb, by simpa using hc 0 _ rfl⟩
theorem take_snoc' {α : Type} (xs : List α) (k : Nat) (h : k < xs.length) : xs.take (k + 1) = xs.take k ++ [xs[k]] := by
 rw [List.take_succ_eq_append_getElem h]
theorem flatMap_get {α β : Type} (enc : α → List β) (sz : Nat) : ∀ (xs : List α), (∀ x ∈ xs, (enc x).length = sz) → ∀ i j, j < sz → (xs.flatMap enc)[i * sz + j]? = (xs[i]?).bind fun x => (enc x)[j]? := by
 intro xs
 induction xs with
 | nil => intro _ i j _; simp
 | cons x xs ih =>
  intro h i j hj
  have hx := h x (by simp)
  cases i with
  | zero => simp [List.flatMap_cons, List.getElem?_append, hx, hj]
  | succ i =>
   have e : (i + 1) * sz + j = sz + (i * sz + j) := by rw [Nat.add_mul]; omega
   rw [List.flatMap_cons, List.getElem?_append_right (by omega), e, hx, Nat.add_sub_cancel_left, ih (fun y hy => h y (by simp [hy])) i j hj]
   simp
theorem flatMap_len {α β : Type} (enc : α → List β) (sz : Nat) (xs : List α) (h : ∀ x ∈ xs, (enc x).length = sz) : (xs.flatMap enc).length = xs.length * sz := by
 induction xs with
 | nil => simp
 | cons x xs ih => rw [List.flatMap_cons, List.length_append, h x (by simp), ih fun y hy => h y (by simp [hy]), List.length_cons, Nat.add_mul]; omega
theorem mul_div_lt {j sz n : Nat} (h : j < n * sz) : j / sz < n ∧ j / sz * sz + j % sz = j ∧ j % sz < sz := by
 have hs : 0 < sz := by
  rcases Nat.eq_zero_or_pos sz with rfl | h0
  ·simp at h
  ·exact h0
 exact ⟨(Nat.div_lt_iff_lt_mul hs).2 h, by rw [Nat.mul_comm]; exact Nat.div_add_mod j sz, Nat.mod_lt _ hs⟩
theorem Els.news {α : Type} {w : World} {B : Nat} {a : Option Addr} {sz : Nat} {enc : α → List Value} {xs : List α} (h : Els w B a sz enc xs) (he : ∀ x ∈ xs, (enc x).length = sz) :
 ∀ ad, a = some ad → ∀ j u, (xs.flatMap enc)[j]? = some u → w.cell? (ad.add j) = some u := by
 intro ad had j u hu
 rcases h with rfl | ⟨b, o, ha, hb, hc⟩
 ·simp at hu
 ·rw [ha] at had
  obtain rfl := Option.some.inj had
  have hj : j < xs.length * sz := by rw [← flatMap_len enc sz xs he]; exact (List.getElem?_eq_some_iff.1 hu).1
  obtain ⟨h1, h2, h3⟩ := mul_div_lt hj
  have := hc (j / sz) (j % sz) u (by rw [← flatMap_get enc sz xs he _ _ h3, h2]; exact hu)
  rw [h2] at this
  rw [Addr.add_lit]; exact this
theorem Els.take {α : Type} {w : World} {B : Nat} {a : Option Addr} {sz : Nat} {enc : α → List Value} {xs : List α} (h : Els w B a sz enc xs) (m : Nat) : Els w B a sz enc (xs.take m) := by
 rcases h with rfl | ⟨b, o, ha, hb, hc⟩
 ·exact .inl (by simp)
 ·refine .inr ⟨b, o, ha, hb, fun i j v hv => ?_⟩
  rw [List.getElem?_take] at hv
  split at hv
  ·exact hc i j v hv
  ·simp at hv
theorem Els.drop {α : Type} {w : World} {B b o : Nat} {sz : Nat} {enc : α → List Value} {xs : List α} (h : Els w B (some ⟨b, o, none⟩) sz enc xs) (m : Nat) : Els w B (some ⟨b, o + m * sz, none⟩) sz enc (xs.drop m) := by
 rcases h with rfl | ⟨b', o', ha, hb, hc⟩
 ·exact .inl (by simp)
 ·simp only [Option.some.injEq, Addr.mk.injEq, and_true] at ha
  obtain ⟨rfl, rfl⟩ := ha
  refine .inr ⟨b, o + m * sz, rfl, hb, fun i j v hv => ?_⟩
  rw [List.getElem?_drop] at hv
  have := hc (m + i) j v hv
  rwa [Nat.add_mul, show o + (m * sz + i * sz + j) = o + m * sz + (i * sz + j) from by omega] at this
theorem Els.drewn {α : Type} {w : World} {B : Nat} {a : Option Addr} {sz : Nat} {enc : α → List Value} {xs : List α} (h : Els w B a sz enc xs) (n : Nat) : Els (w.drewN n) B a sz enc xs := h
def ElT (P : Program) (t e size bytes : Nat) (z : Value) : Prop :=
 P.underlying t = some (.slice e) ∧ 0 < size ∧ ∃ i, P.info? e = some i ∧ i.zero = some z ∧ i.size = size ∧ i.bytes = bytes ∧ z.cells.size = size
theorem ElT.mk' {P : Program} {t e size bytes : Nat} {z : Value} (h1 : P.underlying t = some (.slice e)) (h2 : (P.info? e).map (fun i => (i.zero, i.size, i.bytes)) = some (some z, size, bytes)) (h3 : z.cells.size = size) (h4 : 0 < size) : ElT P t e size bytes z := by
 obtain ⟨i, hi, hz0, hz1, hz2⟩ := info_parts h2
 exact ⟨h1, h4, i, hi, hz0, hz1, hz2, h3⟩
theorem wpApp {P : Program} (w : World) {ops : Array Oper} {rest : List Oper} {o : Oper} {a : Act} {Q : Exit → Act → World → Prop} (hgd : o.guard = none) (s x : Operand) (t : TypeId)
 (ho : o.op = .call { callee := .builtin .append, args := #[s, x], argTypes := #[t, t] })
 (base e size bytes : Nat) {z : Value} (hT : ElT P t e size bytes z)
 (v : Value) (n : Nat) (xs : List Value) (hs : a.eval s = v) (hown : w.ownsRow base e size v n xs)
 (ao : Option Addr) (m c : Nat) (news : List Value) (hx : a.eval x = .slice ao m c) (hl : news.length = m * size) (hnone : ao = none → m = 0 ∧ c = 0)
 (hnews : ∀ ad, ao = some ad → ∀ j u, news[j]? = some u → w.cell? (ad.add j) = some u) (h1 : ∀ u ∈ news, u.oneCell' = true)
 (h63 : n + m ≤ maxLen) (hbytes : (n + m) * bytes ≤ 140737488355328) (hbase : base ≤ w.heap.size)
 (h : ∀ v' w', w'.ownsRow base e size v' (n + m) (xs ++ news) → w.grownBy w' v.ownBlock → (v' = .slice none 0 0 ↔ v = .slice none 0 0 ∧ m = 0) → wpList P ops Q rest (a.put o.dst v') w') : wpList P ops Q (o :: rest) a w := by
 obtain ⟨ht, hsz, i, hi, hz, hsize, hby, hzs⟩ := hT
 cases ao with
 | some ad => exact wpList_append_own w hgd s x t ho base e i z size bytes ht hi hz hsize hby hzs hsz v n xs hs hown ad m c news hx hl (hnews ad rfl) h1 h63 hbytes hbase h
 | none =>
  obtain ⟨rfl, rfl⟩ := hnone rfl
  have hn : news = [] := List.eq_nil_of_length_eq_zero (by simpa using hl)
  subst hn
  exact wpList_append_own_none hgd s x t ho base e i size ht hi v n xs hs hown hx (by simpa using h v w (by simpa using hown) (World.grownBy.refl _ _) (by simp))
theorem madeCells_rep (z : Value) (n size : Nat) (h : z.cells.size = size) (_ : 0 < size) : (madeCells z.cells (n * size)).toList = (List.replicate n z.cells.toList).flatten := by
 have hl : ∀ x ∈ List.replicate n z.cells.toList, x.length = size := by
  intro x hx
  obtain ⟨_, rfl⟩ := List.mem_replicate.1 hx
  simpa using h
 apply List.ext_getElem?
 intro j
 have hflat : (List.replicate n z.cells.toList).flatten = (List.replicate n z.cells.toList).flatMap id := by rw [List.flatMap_id]
 rw [hflat]
 by_cases hj : j < n * size
 ·obtain ⟨h1, h2, h3⟩ := mul_div_lt hj
  have := flatMap_get (id : List Value → List Value) size (List.replicate n z.cells.toList) hl (j / size) (j % size) h3
  rw [h2] at this
  rw [this]
  simp only [madeCells]
  rw [List.getElem?_replicate, if_pos h1]
  simp only [Array.toList_map, Array.toList_range, List.getElem?_map, List.getElem?_range hj, Option.map_some, Option.bind_some, id]
  have hlt : j % size < z.cells.size := by omega
  rw [h]
  simp [hlt]
 ·have hlen := flatMap_len (id : List Value → List Value) size (List.replicate n z.cells.toList) hl
  rw [List.length_replicate] at hlen
  rw [List.getElem?_eq_none (by simp [madeCells]; omega), List.getElem?_eq_none (by omega)]
theorem wpMake {P : Program} (w : World) {ops : Array Oper} {rest : List Oper} {o : Oper} {a : Act} {Q : Exit → Act → World → Prop}
 (hg : o.guard = none) (l c : Operand) (t : TypeId) (hop : o.op = Op.makeSlice t l c)
 (base e size bytes : Nat) {z : Value} (hT : ElT P t e size bytes z) (n : Nat) (L C : Int) (hl : a.eval l = .int .i64 L) (hc : a.eval c = .int .i64 C) (hL : L = (n : Int)) (hC : C = (n : Int))
 (b2 : bytes * n ≤ 281474976710656) (b3 : n ≤ maxLen) (b4 : base ≤ w.heap.size)
 (hK : ∀ w', w'.ownsRow base e size (.slice (some ⟨w.heap.size, 0, none⟩) n n) n (List.replicate n z.cells.toList).flatten → w.grownBy w' none → wpList P ops Q rest (a.put o.dst (.slice (some ⟨w.heap.size, 0, none⟩) n n)) w') :
 wpList P ops Q (o :: rest) a w := by
 obtain ⟨ht, hsz, i, hi, hz, hsize, hby, hzs⟩ := hT
 refine wpList_make_full w hg l c t hop base e i z size ht hi hz hsize .i64 .i64 L C n hl hc hL hC (by rw [hby]; exact b2) b3 b4 fun w' h1 h2 => ?_
 rw [madeCells_rep z n size hzs hsz] at h1
 exact hK w' h1 h2
def I64 (n : Int) : Prop := -9223372036854775808 ≤ n ∧ n ≤ 9223372036854775807
theorem ret_u32 {a b : Int} (h : a = b) : Ending.returned (.int .u32 a) = .returned (.int .u32 b) := by rw [h]
theorem ret_u64 {a b : Int} (h : a = b) : Ending.returned (.int .u64 a) = .returned (.int .u64 b) := by rw [h]
theorem ret_i64 {a b : Int} (h : a = b) : Ending.returned (.int .i64 a) = .returned (.int .i64 b) := by rw [h]
theorem bytes_snoc (s : ByteArray) (k : Nat) (h : k < s.size) : s.data.toList.take (k + 1) = s.data.toList.take k ++ [s[k]] := by
 rw [List.take_succ_eq_append_getElem (by simpa using h)]; rfl
theorem take_all (s : ByteArray) : s.data.toList.take s.size = s.data.toList := List.take_of_length_le (Nat.le_of_eq Array.length_toList)
theorem u8_ofNat_toNat (x : Nat) (h : x < 256) : (UInt8.ofNat x).toNat = x := by simp; omega
theorem bs_append (l k : List UInt8) : (⟨l.toArray⟩ : ByteArray) ++ ⟨k.toArray⟩ = ⟨(l ++ k).toArray⟩ := by
 apply ByteArray.ext; simp
theorem bs_size (l : List UInt8) : (⟨l.toArray⟩ : ByteArray).size = l.length := by show l.toArray.size = _; simp
theorem str_ne {t s : ByteArray} (h : ¬ t = s) : (t.toList == s.toList) = false := by
 rw [beq_eq_false_iff_ne]
 intro he
 apply h
 rw [ByteArray.toList_eq, ByteArray.toList_eq] at he
 cases t; cases s
 simp only [ByteArray.mk.injEq] at *
 exact Array.toList_inj.1 he
def slLen : Value → Nat | .slice _ n _ => n | _ => 0
theorem own_slice {w : World} {base e sz n : Nat} {v : Value} {xs : List Value} (h : w.ownsRow base e sz v n xs) : ∃ a c, v = .slice a n c := by
 rcases h.2 with ⟨rfl, rfl⟩ | ⟨g, cap, cur, rfl, _⟩
 ·exact ⟨none, 0, rfl⟩
 ·exact ⟨_, _, rfl⟩
theorem own_below {w w' : World} {base e sz n : Nat} {v : Value} {xs : List Value} (h : w.ownsRow base e sz v n xs) (hb : Below w.heap.size w w') : w'.ownsRow base e sz v n xs := by
 refine ⟨h.1, ?_⟩
 rcases h.2 with ⟨h1, h2⟩ | ⟨g, cap, cur, h1, h2, h3, h4⟩
 ·exact .inl ⟨h1, h2⟩
 ·exact .inr ⟨g, cap, cur, h1, h2, (hb.block g (Array.getElem?_eq_some_iff.1 h3).1).trans h3, h4⟩
theorem elT_u8 : ElT Try.prog 111 5 1 1 (.int .u8 0) := ElT.mk' Try.underlying111 (by kernel_rfl) rfl (by decide)
theorem elT_i64 : ElT Try.prog 55 3 1 8 (.int .i64 0) := ElT.mk' Try.underlying55 (by kernel_rfl) rfl (by decide)
end Go.Proofs.Ytdkmndimmpilaaa
namespace Go.Proofs.Ytdkmndimmpilaaa
set_option linter.all false
open Go.RowKit Go.ChangeShapes Go.WideShapes Go.ChangeAt
def Opens (P : Program) (T sz : Nat) (w : World) {α : Type} (enc : α → List Value) (ok : α → Prop) : Prop :=
 ∀ (H : Type) (eH : TypeId × Value → H) (fuel : Nat) (cs : List Value) (y : DataW H × List MemPlace), DataW.trod eH P w 0 (fun _ => true) true fuel T cs = some y → (∀ n ∈ y.1.weights P T, n ≤ reachBytes) → ∃ x : α, cs = enc x ∧ cs.length = sz ∧ ok x
theorem Opens.int {P : Program} {T : Nat} {w : World} {k : IntKind} (h : P.underlying T = some (.int k)) : Opens P T 1 w (fun n : Int => [.int k n]) (fun n => (Lit.int k n).wf = true) := by
 intro H eH fuel cs y hy _
 obtain ⟨n, rfl, _, hw⟩ := DataW.trod_int h hy
 exact ⟨n, rfl, rfl, hw⟩
theorem wf_i64' {n : Int} (h : (Lit.int .i64 n).wf = true) : -9223372036854775808 ≤ n ∧ n ≤ 9223372036854775807 := by
 simpa [Lit.wf, IntKind.min, IntKind.max, IntKind.signed, IntKind.bits] using h
theorem wf_u64' {n : Int} (h : (Lit.int .u64 n).wf = true) : 0 ≤ n ∧ n ≤ 18446744073709551615 := by
 simpa [Lit.wf, IntKind.min, IntKind.max, IntKind.signed, IntKind.bits] using h
theorem wf_u32' {n : Int} (h : (Lit.int .u32 n).wf = true) : 0 ≤ n ∧ n ≤ 4294967295 := by
 simpa [Lit.wf, IntKind.min, IntKind.max, IntKind.signed, IntKind.bits] using h
theorem Opens.i64 {P : Program} {T : Nat} {w : World} (h : P.underlying T = some (.int .i64)) : Opens P T 1 w ei64 (fun n => -9223372036854775808 ≤ n ∧ n ≤ 9223372036854775807) := by
 intro H eH fuel cs y hy _
 obtain ⟨n, rfl, _, hw⟩ := DataW.trod_int h hy
 exact ⟨n, rfl, rfl, wf_i64' hw⟩
theorem Opens.u64 {P : Program} {T : Nat} {w : World} (h : P.underlying T = some (.int .u64)) : Opens P T 1 w e64 (fun n => n < 18446744073709551616) := by
 intro H eH fuel cs y hy _
 obtain ⟨n, rfl, _, hw⟩ := DataW.trod_int h hy
 have := wf_u64' hw
 exact ⟨n.toNat, by simp only [e64]; congr 2; omega, rfl, by omega⟩
theorem Opens.u32 {P : Program} {T : Nat} {w : World} (h : P.underlying T = some (.int .u32)) : Opens P T 1 w e32 (fun n => n < 4294967296) := by
 intro H eH fuel cs y hy _
 obtain ⟨n, rfl, _, hw⟩ := DataW.trod_int h hy
 have := wf_u32' hw
 exact ⟨n.toNat, by simp only [e32]; congr 2; omega, rfl, by omega⟩
def eBool (b : Bool) : List Value := [.bool b]
theorem Opens.bool {P : Program} {T : Nat} {w : World} (h : P.underlying T = some .bool) : Opens P T 1 w eBool (fun _ => True) := by
 intro H eH fuel cs y hy _
 obtain ⟨b, rfl, _⟩ := DataW.trod_bool h hy
 exact ⟨b, rfl, rfl, trivial⟩
def eStr (s : ByteArray) : List Value := [.string s]
theorem Opens.str {P : Program} {T : Nat} {w : World} (h : P.underlying T = some .string) : Opens P T 1 w eStr (fun s => s.size ≤ 140737488351232) := by
 intro H eH fuel cs y hy hw
 obtain ⟨s, rfl, rfl, hs⟩ := DataW.trod_string h hy
 exact ⟨s, rfl, rfl, (by
  have h := hw s.data.toList.length (List.mem_singleton.2 rfl)
  have e : s.data.toList.length = s.size := Array.length_toList
  rw [e] at h
  exact h)⟩
structure SL (α : Type) where
 a : Option Addr
 c : Nat
 xs : List α
def SL.val {α : Type} (s : SL α) : Value := .slice s.a s.xs.length s.c
def SL.enc {α : Type} (s : SL α) : List Value := [s.val]
structure SLok {α : Type} (w : World) (B : Nat) (sz bts : Nat) (enc : α → List Value) (ok : α → Prop) (s : SL α) : Prop where
 els : Els w B s.a sz enc s.xs
 each : ∀ x ∈ s.xs, ok x ∧ (enc x).length = sz
 cap : s.xs.length ≤ s.c
 max : s.c ≤ maxLen
 reach : s.c * bts ≤ 140737488351232
 nil : s.a = none → s.xs.length = 0 ∧ s.c = 0
theorem SLok.below {α : Type} {w w' : World} {B B' sz bts : Nat} {enc : α → List Value} {ok : α → Prop} {s : SL α} (h : SLok w B sz bts enc ok s) (hb : Below B' w w') (hB : B ≤ B') : SLok w' B sz bts enc ok s :=
 ⟨h.els.below hb hB, h.each, h.cap, h.max, h.reach, h.nil⟩
theorem Opens.slice {P : Program} {T E sz bts : Nat} {w : World} {α : Type} {enc : α → List Value} {ok : α → Prop} (hT : P.underlying T = some (.slice E)) (hc : P.cellsOf E = sz) (hsz : 0 < sz) (hby : P.bytesOf E = bts) (hE : Opens P E sz w enc ok) :
 Opens P T 1 w (SL.enc (α := α)) (SLok w w.heap.size sz bts enc ok) := by
 intro H eH fuel cs y hy hw
 rcases Deep.open_slice hT hy with ⟨rfl, _⟩ | ⟨a, len, cap, m, n, D, Pl, rfl, _, hl, hm, hmm, hy2, hx⟩
 ·exact ⟨⟨none, 0, []⟩, rfl, rfl, ⟨.inl rfl, by simp, Nat.le_refl _, Nat.zero_le _, by simp, fun _ => ⟨rfl, rfl⟩⟩⟩
 ·simp only [if_true] at hmm
  subst hmm
  subst hy2
  have hreach : m * bts ≤ 140737488351232 := by
   have h := hw ((len + (m - len)) * P.bytesOf E) (by simp [DataW.weights, hT])
   rw [show len + (m - len) = m from by omega, hby] at h
   exact h
  have hwe : ∀ i, i < len → ∀ k ∈ (D i).weights P E, k ≤ reachBytes := by
   intro i hi k hk
   refine hw k ?_
   simp only [DataW.weights, hT, List.mem_cons, List.mem_append]
   refine .inr (.inl ?_)
   have key : ∀ (l : List (DataW H)), D i ∈ l → k ∈ DataW.weightsAll P E l := by
    intro l
    induction l with
    | nil => intro h; simp at h
    | cons d l ih =>
     intro h
     simp only [DataW.weightsAll, List.mem_append]
     rcases List.mem_cons.1 h with rfl | h
     ·exact .inl hk
     ·exact .inr (ih h)
   exact key _ (List.mem_map.2 ⟨i, List.mem_range.2 hi, rfl⟩)
  have hx2 : ∀ i, i < len → ∃ x : α, ok x ∧ (enc x).length = sz ∧ ∀ j, j < sz → w.cell? ((a.add (i * sz)).add j) = (enc x)[j]? := by
   intro i hi
   obtain ⟨cs', h1, h2⟩ := hx i (by omega)
   obtain ⟨x, rfl, hlen, hok⟩ := hE H eH n cs' _ h2 (hwe i hi)
   obtain ⟨_, _, h3⟩ := World.cells?_some h1
   rw [hc] at h3
   exact ⟨x, hok, hlen, h3⟩
  by_cases h0 : len = 0
  ·subst h0
   exact ⟨⟨some a, m, []⟩, rfl, rfl, ⟨.inl rfl, by simp, Nat.zero_le _, hm, hreach, fun h => by simp at h⟩⟩
  ·obtain ⟨x0, _⟩ := hx2 0 (by omega)
   have : Inhabited α := ⟨x0⟩
   obtain ⟨f, hf⟩ := Deep.choose_lt (p := fun i x => ok x ∧ (enc x).length = sz ∧ ∀ j, j < sz → w.cell? ((a.add (i * sz)).add j) = (enc x)[j]?) hx2
   have hlen : ((List.range len).map f).length = len := by simp
   refine ⟨⟨some a, m, (List.range len).map f⟩, by simp [SL.enc, SL.val], rfl, ⟨?_, ?_, by simpa using hl, hm, hreach, fun h => by simp at h⟩⟩
   ·obtain ⟨_, hl0, hc0⟩ := hf 0 (by omega)
    have hcell := hc0 0 hsz
    rw [List.getElem?_eq_getElem (by omega)] at hcell
    simp only [Nat.zero_mul] at hcell
    have hadd0 : ((a.add 0).add 0) = a := by simp [Addr.add]
    rw [hadd0] at hcell
    have hsp := World.cell?_spot hcell
    have hlt := World.block_lt_of_cell? w a hcell
    obtain ⟨b, o, sp⟩ := a
    simp only at hsp
    subst hsp
    refine .inr ⟨b, o, rfl, hlt, fun i j v hv => ?_⟩
    cases hxi : ((List.range len).map f)[i]? with
    | none => rw [hxi] at hv; simp at hv
    | some x =>
     rw [hxi] at hv
     have hi : i < len := by have := (List.getElem?_eq_some_iff.1 hxi).1; simpa using this
     have hfx : f i = x := by simpa [hi] using hxi
     obtain ⟨_, hl1, hc1⟩ := hf i hi
     have hj : j < sz := by
      have hv' : (enc x)[j]? = some v := by simpa using hv
      have := (List.getElem?_eq_some_iff.1 hv').1
      rw [← hfx, hl1] at this; exact this
     have := hc1 j hj
     rw [hfx] at this
     rw [Deep.add_add, Addr.add_lit] at this
     rw [this]; simpa using hv
   ·intro x hx
    simp only [List.mem_map, List.mem_range] at hx
    obtain ⟨i, hi, rfl⟩ := hx
    obtain ⟨h1, h2, _⟩ := hf i hi
    exact ⟨h1, h2⟩
theorem Opens.map {P : Program} {T sz : Nat} {w : World} {α β : Type} {enc : α → List Value} {ok : α → Prop} {enc' : β → List Value} {ok' : β → Prop} (h : Opens P T sz w enc ok) (f : α → β) (hf : ∀ x, enc' (f x) = enc x) (hok : ∀ x, ok x → ok' (f x)) : Opens P T sz w enc' ok' := by
 intro H eH fuel cs y hy hw
 obtain ⟨x, rfl, hl, ho⟩ := h H eH fuel cs y hy hw
 exact ⟨f x, (hf x).symm, hl, hok x ho⟩
def OpensF (P : Program) (w : World) (fs : List Field) (o sz : Nat) {α : Type} (enc : α → List Value) (ok : α → Prop) : Prop :=
 ∀ (H : Type) (eH : TypeId × Value → H) (fuel : Nat) (cs : List Value), cs.length = o + sz →
  (∀ f ∈ fs, ∃ y, DataW.trod eH P w 0 (fun _ => true) true fuel f.type ((cs.drop f.offset).take (P.cellsOf f.type)) = some y ∧ ∀ n ∈ y.1.weights P f.type, n ≤ reachBytes) → ∃ x : α, cs.drop o = enc x ∧ ok x
theorem OpensF.nil {P : Program} {w : World} {o : Nat} : OpensF P w [] o 0 (fun _ : Unit => []) (fun _ => True) := by
 intro H eH fuel cs hl _
 exact ⟨(), List.drop_eq_nil_of_le (by omega), trivial⟩
theorem OpensF.cons {P : Program} {w : World} {f : Field} {fs : List Field} {o n sz : Nat} {α β : Type} {enc : α → List Value} {ok : α → Prop} {enc' : β → List Value} {ok' : β → Prop}
 (ho : f.offset = o) (hn : P.cellsOf f.type = n) (h : Opens P f.type n w enc ok) (h' : OpensF P w fs (o + n) sz enc' ok') :
 OpensF P w (f :: fs) o (n + sz) (fun x : α × β => enc x.1 ++ enc' x.2) (fun x => ok x.1 ∧ ok' x.2) := by
 intro H eH fuel cs hl hall
 obtain ⟨y, hy, hw⟩ := hall f (by simp)
 rw [ho, hn] at hy
 obtain ⟨x, hx, _, hok⟩ := h H eH fuel _ y hy hw
 obtain ⟨x', hx', hok'⟩ := h' H eH fuel cs (by omega) (fun g hg => hall g (by simp [hg]))
 refine ⟨(x, x'), ?_, hok, hok'⟩
 show cs.drop o = enc x ++ enc' x'
 rw [← hx, ← hx', ← List.drop_drop, List.take_append_drop]
theorem Opens.struct {P : Program} {T sz : Nat} {w : World} {fs : Array Field} {α : Type} {enc : α → List Value} {ok : α → Prop} (hT : P.underlying T = some (.struct fs)) (hc : P.cellsOf T = sz) (h : OpensF P w fs.toList 0 sz enc ok) :
 Opens P T sz w enc ok := by
 intro H eH fuel cs y hy hw
 obtain ⟨xs, n, _, rfl, hl, hlen, hfs⟩ := DataW.trod_struct hT hy
 obtain ⟨x, hx, hok⟩ := h H eH n cs (by omega) (fun f hf => by
  obtain ⟨i, hi, he⟩ := List.getElem_of_mem hf
  have hi' : i < fs.size := by simpa using hi
  have hfi : fs[i]? = some f := by rw [Array.getElem?_eq_getElem hi']; simpa using he
  have := hfs i f hfi
  have hx : xs[i]? = some (xs[i]'(by omega)) := List.getElem?_eq_getElem (by omega)
  rw [hx] at this
  refine ⟨_, this, fun k hk => hw k ?_⟩
  simp only [DataW.weights, hT]
  refine DataW.weights_mem_each (j := i) (t := f.type) ?_ ?_ k hk
  ·rw [List.getElem?_map, Array.getElem?_toList, hfi]; rfl
  ·rw [List.getElem?_map, hx]; rfl)
 exact ⟨x, by simpa using hx, by omega, hok⟩
theorem Opens.arg {P : Program} {T sz : Nat} {w : World} {α : Type} {enc : α → List Value} {ok : α → Prop} (h : Opens P T sz w enc ok) {H : Type} {eH : TypeId × Value → H} {v : Value} {d : DataW H} {p : List MemPlace}
 (hT : DataW.Trod eH P w 0 (fun _ => true) true T v d p) {ts : List TypeId} {ds : List (DataW H)} (hz : (DataW.weightsEach P ts ds).all (· ≤ reachBytes) = true) (j : Nat) (h1 : ts[j]? = some T) (h2 : ds[j]? = some d) : ∃ x : α, v.cells.toList = enc x ∧ ok x := by
 obtain ⟨fuel, hf⟩ := hT
 obtain ⟨x, h1, _, h2⟩ := h H eH fuel _ _ hf (fun n hn => by
  have := List.all_eq_true.1 hz n (DataW.weights_mem_each h1 h2 n hn)
  simpa using this)
 exact ⟨x, h1, h2⟩
theorem arg_struct {P : Program} {w : World} {base t : Nat} {v : Value} {cs : List Value} {fs : Array Field} (h : Value.okWide P w .any base t v) (hs : P.underlying t = some (.struct fs)) (hc : v.cells.toList = cs) : v = .agg cs.toArray := by
 simp only [Value.okWide, hs] at h
 obtain ⟨cs', rfl, _⟩ := h
 subst hc
 simp [Value.cells]
end Go.Proofs.Ytdkmndimmpilaaa
namespace Go.Proofs.Ytdkmndimmpilaaa
set_option linter.all false
open Go.RowKit
theorem rel_c {w : World} {F : Nat → Prop} {b : Nat} : ∀ (ps : List PV) (vs : List Value) (o : Nat), vs.length = ps.length → (∀ (j : Nat) v, vs[j]? = some v → w.cell? ⟨b, o + j, none⟩ = some v) → (∀ (j : Nat) p u, ps[j]? = some p → vs[j]? = some u → RelP w F p u) → RelC w F b o ps
 | [], _, _, _, _, _ => by simp only [RelC]
 | p :: ps, [], _, h, _, _ => by simp at h
 | p :: ps, v :: vs, o, h, hc, hr => by
  simp only [RelC]
  refine ⟨⟨v, by have := hc 0 v rfl; simpa using this, hr 0 p v rfl rfl⟩, rel_c ps vs (o + 1) (by simpa using h) (fun j u hu => ?_) (fun j q u h1 h2 => hr (j + 1) q u h1 h2)⟩
  have := hc (j + 1) u hu
  rwa [show o + (j + 1) = o + 1 + j from by omega] at this
theorem rel_e {α : Type} {w : World} {F : Nat → Prop} {b sz : Nat} {enc : α → List Value} {pv : α → List PV} : ∀ (xs : List α) (o : Nat), (∀ i j v, (xs[i]?).bind (fun x => (enc x)[j]?) = some v → w.cell? ⟨b, o + (i * sz + j), none⟩ = some v) →
 (∀ x ∈ xs, (pv x).length = sz ∧ (enc x).length = sz ∧ ∀ (j : Nat) p u, (pv x)[j]? = some p → (enc x)[j]? = some u → RelP w F p u) → RelE w F b sz o (xs.map pv)
 | [], _, _, _ => by simp only [List.map_nil, RelE]
 | x :: xs, o, hc, hp => by
  simp only [List.map_cons, RelE]
  obtain ⟨h1, h2, h3⟩ := hp x (by simp)
  refine ⟨h1, rel_c (pv x) (enc x) o (by rw [h1, h2]) (fun j v hv => ?_) h3, rel_e xs (o + sz) (fun i j v hv => ?_) fun y hy => hp y (List.mem_cons_of_mem _ hy)⟩
  ·have := hc 0 j v (by simpa using hv); simpa using this
  ·have := hc (i + 1) j v (by simpa using hv)
   rwa [show o + ((i + 1) * sz + j) = o + sz + (i * sz + j) from by rw [Nat.succ_mul]; omega] at this
theorem rel_sl {α : Type} {w : World} {B sz bts : Nat} {enc : α → List Value} {ok : α → Prop} {s : SL α} {pv : α → List PV} (h : SLok w B sz bts enc ok s)
 (hp : ∀ x ∈ s.xs, ok x → (pv x).length = sz ∧ ∀ (j : Nat) p u, (pv x)[j]? = some p → (enc x)[j]? = some u → RelP w (· < B) p u) : RelP w (· < B) (.sl sz (s.xs.map pv)) s.val := by
 simp only [RelP]
 refine ⟨s.a, s.c, by simp [SL.val], by simpa using h.cap, h.max, ?_⟩
 rcases h.els with h1 | ⟨b, o, ha, hb, hc⟩
 ·exact .inl (by rw [h1]; rfl)
 ·refine .inr ⟨b, o, ha, hb, rel_e s.xs o hc fun x hx => ?_⟩
  obtain ⟨h1, h2⟩ := h.each x hx
  obtain ⟨h3, h4⟩ := hp x hx h1
  exact ⟨h3, h2, h4⟩
theorem spec_law {P : Program} {f : FuncId} {args : List AV} (S : Spec P f args [] (B true) []) {w : World} {vs : List Value} (hr : RelL (· < 0) w (· < w.heap.size) (fun _ => none) args vs) :
 Calls P f vs.toArray w fun e w' => e = .returned (.bool true) ∧ Below w.heap.size w w' := by
 have M : MemOk w (inB fun _ => none) (· < ([] : List Chunk).length) (· < w.heap.size) (fun _ => none) (nth []) w :=
  ⟨Nat.le_refl _, rfl, rfl, rfl, fun _ _ _ => rfl, fun _ h => h, fun _ _ h => by simp at h, fun _ h => absurd rfl h, fun _ _ _ _ _ h => by simp at h, fun _ _ _ h => by simp at h⟩
 refine (S.2.2 w (· < w.heap.size) (fun _ => none) vs M hr).mono ?_
 rintro e w' ⟨v, F', β', rfl, M', hv, _⟩
 refine ⟨by rw [relB.1 hv], M'.os, M'.tape, M'.output, M'.size, fun b hb => M'.frame b hb ?_⟩
 rintro ⟨i, bd, h, _⟩
 simp at h
theorem relL_nil {U F : Nat → Prop} {β : Nat → Option Bind} {w : World} : RelL U w F β [] [] := by simp only [RelL]
theorem relL_cons {U F : Nat → Prop} {β : Nat → Option Bind} {w : World} {x : AV} {xs : List AV} {v : Value} {vs : List Value} (h1 : RelA U w F β x v) (h2 : RelL U w F β xs vs) : RelL U w F β (x :: xs) (v :: vs) := by
 simp only [RelL]; exact ⟨v, vs, rfl, h1, h2⟩
theorem relA_agg {U F : Nat → Prop} {β : Nat → Option Bind} {w : World} {xs : List AV} {vs : List Value} (h : RelL U w F β xs vs) (h1 : ∀ x ∈ vs, x.oneCell' = true) : RelA U w F β (.agg xs) (.agg vs.toArray) := by
 simp only [RelA]; exact ⟨vs.toArray, rfl, by simpa using h, by simpa using h1⟩
theorem relA_c {U F : Nat → Prop} {β : Nat → Option Bind} {w : World} {p : PV} {v : Value} (h : RelP w F p v) : RelA U w F β (.c p) v := by simp only [RelA]; exact h
theorem relP_v {F : Nat → Prop} {w : World} {v : Value} (h : v.oneCell' = true) : RelP w F (.v v) v := by simp [RelP, h]
end Go.Proofs.Ytdkmndimmpilaaa
namespace Go.Proofs.Ytdkmndimmpilaaa
set_option linter.all false
open Go.RowKit
section
variable {P : Program} {l : Nat} {n : Nat}
abbrev inR (l : Nat) : Fence := Fence.wide.inRound l
theorem calls_inR {f : FuncId} {args : Array Value} {w : World} {R : Ending → World → Prop} (h : Calls P f args w R) : CallsIn (inR l) n P f args w R := (callsIn_wide (n := n)).2 h
theorem rows_inR {row : String} {args : Array Value} {w : World} {R : Value → World → Prop} (h : Rows P row args w R) : RowsIn (inR l) n P row args w R := fun c cs _ => let ⟨v, w', r, s⟩ := h c cs; ⟨v, w', r, stepsIn_wide.2 s⟩
def notDefer (o : Oper) : Bool := match o.op with | .defer _ => false | _ => true
theorem oper_inR {o : Oper} {a : Act} {w : World} {next : Act → World → Prop} {Q : Exit → Act → World → Prop} (hd : notDefer o = true) (h : o.wp P a w next Q) : o.wpIn (inR l) n P a w next Q := by
 refine ⟨fun _ _ => trivial, ?_⟩
 rw [Oper.semAt_eq _ _ _ (by intro c hc; unfold notDefer at hd; rw [hc] at hd; cases hd)]
 unfold Oper.wp at h
 generalize (execOp a.eval o).run P w = r at *
 have hn : (inR l).depth.isSome = true → 1 ≤ n := fun h => by simp [inR, Fence.wide] at h
 cases r with
 | ok x w' =>
  cases x <;> simp only [Oper.upon, Oper.uponIn] at h ⊢ <;> first | exact h | exact ⟨hn, calls_inR (Calls.mono h (fun e w'' he => by cases e <;> exact he))⟩ | exact ⟨hn, rows_inR h⟩
 | halt x w' => cases x <;> simp only [Oper.upon, Oper.uponIn] at h ⊢ <;> exact h
theorem op_inR {ops : Array Oper} {Q : Exit → Act → World → Prop} {i : Nat} {K K' : Act → World → Prop} {a : Act} {w : World} (hd : ∀ o ∈ ops.toList, notDefer o = true) (hq : ¬ LetsOut Q) (hk : ∀ a w, K a w → K' a w) (h : wpOp P ops Q i K a w) : wpOpIn (inR l) n P ops Q i K' a w := by
 unfold wpOp at h
 unfold wpOpIn
 cases ho : ops[i]? with
 | none => simp only [ho] at h; exact hk _ _ h
 | some o =>
  simp only [ho] at h
  have hm : o ∈ ops.toList := by
   rw [Array.getElem?_eq_some_iff] at ho
   obtain ⟨hi, rfl⟩ := ho
   simp
  simp only
  split
  ·rename_i hw
   rw [if_pos hw] at h
   rcases h with h | h
   ·exact Oper.wpIn_mono hk (oper_inR (hd o hm) h)
   ·exact absurd h.2 hq
  ·rename_i hw
   rw [if_neg hw] at h
   exact ⟨fun _ _ => trivial, hk _ _ h⟩
theorem any_inR {ops : Array Oper} {Q : Exit → Act → World → Prop} {md : Region.Mode} (hd : ∀ o ∈ ops.toList, notDefer o = true) (hq : ¬ LetsOut Q) : ∀ (fuel : Nat) (listed : Array Bool) (a : Act) (w : World), wpAny P md ops Q fuel listed a w → wpAnyIn (inR l) n P md ops Q fuel listed a w
 | 0, _, _, _, h => h
 | fuel + 1, listed, a, w, h => ⟨h.1, fun i hi => op_inR hd hq (fun a w hk => any_inR hd hq fuel _ a w hk) (h.2 i hi)⟩
def noDefer : Code → Bool
 | .region _ ops _ => ops.toList.all notDefer
 | .seq x y => noDefer x && noDefer y
 | .cond _ x y => noDefer x && noDefer y
 | .block _ c => noDefer c
 | .loop c => noDefer c
 | .scope _ => false
 | .rangeFunc _ _ _ _ => false
 | _ => true
section
variable {H : Hist}
def NoOut (Q : Exit → St → Prop) : Prop := ∀ s, ¬ Q .outgrown s
theorem NoOut.lets {Q : Exit → St → Prop} (h : NoOut Q) : ¬ LetsOut (Post H Q) := by
 rintro ⟨a, w, s, F, β, _, hq⟩
 exact h s hq
theorem awpL_inR {ops : Array Oper} {Q : Exit → St → Prop} (hno : NoOut Q) : ∀ (L : List Oper) (s : St) (F : Nat → Prop) (β : Nat → Option Bind) (a : Act) (w : World), (∀ o ∈ L, notDefer o = true) → awpL P H.nt ops L (Q .normal) s → Conc H s F β a w → wpListIn (inR l) n P ops (Post H Q) L a w
 | [], ⟨t, h0, m⟩, F, β, a, w, _, h, C => ⟨⟨t, h0, m⟩, F, β, C, h⟩
 | o :: r, ⟨t, h0, m⟩, F, β, a, w, hd, h, C => by
  simp only [awpL] at h
  have := opW_run C h (next := wpListIn (inR l) n P ops (Post H Q) r) (Q := Post H Q) fun s' F' β' a' w' hk C' => awpL_inR hno r s' F' β' a' w' (fun o ho => hd o (by simp [ho])) hk C'
  unfold wpListIn
  split
  ·rename_i hw
   rw [if_pos hw] at this
   rcases this with h1 | h1
   ·exact oper_inR (hd o (by simp)) h1
   ·exact absurd h1.2 hno.lets
  ·rename_i hw
   rw [if_neg hw] at this
   exact ⟨fun _ _ => trivial, this⟩
theorem awp_inR (hmix : P.follows .mixedOrders = true) : ∀ (c : Code), noDefer c = true → ∀ (Q : Exit → St → Prop), NoOut Q → ∀ (s : St) (F : Nat → Prop) (β : Nat → Option Bind) (a : Act) (w : World), awp P H.nt H.k c Q s → Conc H s F β a w → c.wpIn (inR l) n P (Post H Q) a w := by
 intro c
 induction c with
 | skip => intro _ Q _ s F β a w h C; cases s; exact wpIn_skip ⟨_, F, β, C, h⟩
 | region id ops draw =>
  intro hd Q hno s F β a w h C
  have hd' : ∀ o ∈ ops.toList, notDefer o = true := List.all_eq_true.1 hd
  cases s
  cases draw with
  | false => exact wpIn_region_list (awpL_inR hno ops.toList _ F β a w hd' h C)
  | true => exact wpIn_region_any hmix (any_inR hd' hno.lets _ _ _ _ (draw_any h C))
 | seq x y ihx ihy =>
  intro hd Q hno s F β a w h C
  simp only [noDefer, Bool.and_eq_true] at hd
  obtain ⟨st, sh, sn⟩ := s
  simp only [awp] at h
  refine wpIn_seq (wpIn_mono (ihx hd.1 (seqK (awp P H.nt H.k y Q) Q) (fun s hs => hno s hs) _ F β a w h C) ?_)
  rintro e a' w' ⟨s', F', β', C', hq⟩
  cases e with
  | normal => exact ihy hd.2 Q hno s' F' β' a' w' hq C'
  | _ => exact ⟨s', F', β', C', hq⟩
 | cond c x y ihx ihy =>
  intro hd Q hno s F β a w h C
  simp only [noDefer, Bool.and_eq_true] at hd
  obtain ⟨st, sh, sn⟩ := s
  simp only [awp] at h
  have one : ∀ (s2 : St) (F2 : Nat → Prop) (β2 : Nat → Option Bind), Conc H s2 F2 β2 a w → ∀ Q' : Exit → St → Prop, NoOut Q' → CondG (getO (look st) c) (awp P H.nt H.k x Q') (awp P H.nt H.k y Q') s2 → (Code.cond c x y).wpIn (inR l) n P (Post H Q') a w := by
   intro s2 F2 β2 C2 Q' hno' h
   unfold CondG at h
   split at h
   ·rename_i b hb
    have hg := C.G c
    rw [hb] at hg
    exact wpIn_cond_split (relB.1 hg) (fun hb => ihx hd.1 Q' hno' _ F2 β2 a w (h.1 hb) C2) fun hb => ihy hd.2 Q' hno' _ F2 β2 a w (h.2 hb) C2
   ·exact h.elim
  rcases h with h | ⟨α, S, Pr, h1, h2⟩ | ⟨s2, hto, h⟩
  ·exact one _ F β C Q hno h
  rotate_left
  ·obtain ⟨F2, β2, C2⟩ := hto H F β a w rfl C
   exact one s2 F2 β2 C2 Q hno h
  ·refine wpIn_mono (one _ F β C (joinK H.k S Pr Q) (fun s hs => hno s hs) h1) ?_
   rintro e a' w' ⟨s', F', β', C', hq⟩
   cases e with
   | normal =>
    obtain ⟨z, hz, hto⟩ := hq
    obtain ⟨F2, β2, C2⟩ := hto H F' β' a' w' rfl C'
    exact ⟨S z, F2, β2, C2, h2 z hz⟩
   | _ => exact ⟨s', F', β', C', hq⟩
 | block id c ih =>
  intro hd Q hno s F β a w h C
  simp only [noDefer] at hd
  obtain ⟨st, sh, sn⟩ := s
  simp only [awp] at h
  refine wpIn_block (wpIn_mono (ih hd (blkK id Q) (fun s hs => hno s hs) _ F β a w h C) ?_)
  rintro e a' w' ⟨s', F', β', C', hq⟩
  cases e with
  | exit i =>
   simp only [Exit.inBlock]
   simp only [blkK] at hq
   by_cases hi : i = id
   ·rw [if_pos hi] at hq ⊢; exact ⟨s', F', β', C', hq⟩
   ·rw [if_neg hi] at hq ⊢; exact ⟨s', F', β', C', hq⟩
  | _ => exact ⟨s', F', β', C', hq⟩
 | loop c ih =>
  intro hd Q hno s F β a w h C
  simp only [noDefer] at hd
  obtain ⟨st, sh, sn⟩ := s
  simp only [awp] at h
  obtain ⟨α, S, Pr, μ, ⟨x0, hx0, hto⟩, hround⟩ := h
  obtain ⟨F0, β0, C0⟩ := hto H F β a w rfl C
  classical
  let Iv : Act → World → Nat → Prop := fun a w n => ∃ x F β, Pr x ∧ Conc H (S x) F β a w ∧ μ x = n
  refine wpIn_loop (fun a w => ∃ n, Iv a w n) (fun a w => if h : ∃ n, Iv a w n then Classical.choose (least h) else 0) ⟨_, x0, F0, β0, hx0, C0, rfl⟩ ?_
  intro a1 w1 hI
  obtain ⟨x, F1, β1, hx, C1, hμ⟩ := (Classical.choose_spec (least hI)).1
  refine wpIn_mono (ih hd (lpK H.k S Pr μ x Q) (fun s hs => hno s hs) (S x) F1 β1 a1 w1 (hround x hx) C1) ?_
  rintro e a' w' ⟨s', F', β', C', hq⟩
  cases e with
  | normal =>
   obtain ⟨y, hy, hlt, hto'⟩ := hq
   obtain ⟨F2, β2, C2⟩ := hto' H F' β' a' w' rfl C'
   have hI' : ∃ n, Iv a' w' n := ⟨_, y, F2, β2, hy, C2, rfl⟩
   refine ⟨hI', ?_⟩
   simp only [dif_pos hI', dif_pos hI]
   rw [← hμ]
   exact Nat.lt_of_le_of_lt ((Classical.choose_spec (least hI')).2 _ ⟨y, F2, β2, hy, C2, rfl⟩) hlt
  | _ => exact ⟨s', F', β', C', hq⟩
 | rangeFunc f ps x y _ _ => intro hd; simp [noDefer] at hd
 | exit id => intro _ Q _ s F β a w h C; cases s; exact wpIn_exit ⟨_, F, β, C, h⟩
 | scope c ih => intro hd; simp [noDefer] at hd
 | label l => intro _ Q _ s F β a w h C; cases s; exact wpIn_label ⟨_, F, β, C, h⟩
 | goto l => intro _ Q _ s F β a w h C; cases s; exact h.elim
 | ret => intro _ Q _ s F β a w h C; cases s; exact wpIn_ret ⟨_, F, β, C, h⟩
 | refuse why => intro _ Q _ s F β a w h C; cases s; exact h.elim
end
theorem asg_inR {i : Nat} {d p : Tmp} {ty : TypeId} {pos : String} {es : Array Edge} {K : Act → World → Prop} {J : Exit → Act → World → Prop} {a : Act} {w : World} (h : K (a.put (some d) (a.tmps.getD p undef)) w) : (Code.region i #[{ dst := some d, op := .assign (.tmp p), type := ty, pos := pos, after := es, guard := none }] false).wpIn (inR l) n P (Exit.then K J) a w := by
 refine wpIn_region_list ?_
 simp only [wpListIn, Region.wanted, if_true]
 refine oper_inR rfl ?_
 unfold Oper.wp
 exact h
end
def aliveB (h : Nat → Chunk) (β : Nat → Option Bind) (i : Nat) : Option Bind := match h i with | .dead => none | _ => β i
theorem aliveB_le {h : Nat → Chunk} {β : Nat → Option Bind} {i : Nat} {bd : Bind} (hb : aliveB h β i = some bd) : h i ≠ .dead ∧ β i = some bd := by
 unfold aliveB at hb
 split at hb
 ·cases hb
 ·rename_i hd; exact ⟨hd, hb⟩
theorem aliveB_of {h : Nat → Chunk} {β : Nat → Option Bind} {i : Nat} (hd : h i ≠ .dead) : aliveB h β i = β i := by
 unfold aliveB
 split
 ·rename_i e; exact absurd e hd
 ·rfl
theorem MemOk.alive {W : World} {N U F : Nat → Prop} {β : Nat → Option Bind} {h : Nat → Chunk} {w : World} (M : MemOk W N U F β h w) : MemOk W N U F (aliveB h β) h w := by
 have E : Ext U F β w U F (aliveB h β) w := ⟨fun _ h => h, fun b hb => ⟨hb, rfl⟩, fun i bd _ hb => ⟨_, (aliveB_le hb).2⟩⟩
 refine ⟨M.size, M.os, M.tape, M.output, M.frame, M.fin, fun id bd hb => M.used id bd (aliveB_le hb).2, fun id hd => ?_, fun i j bi bj b hi hj => M.dis i j bi bj b (aliveB_le hi).2 (aliveB_le hj).2, fun i bd b hb => M.off i bd b (aliveB_le hb).2⟩
 obtain ⟨bd, hb, hc⟩ := M.ch id hd
 exact ⟨bd, by rw [aliveB_of hd]; exact hb, hc.mono E fun g _ => rfl⟩
theorem Conc.alive {H : Hist} {s : St} {F : Nat → Prop} {β : Nat → Option Bind} {a : Act} {w : World} (C : Conc H s F β a w) : Conc H s F (aliveB (lookC s.h) β) a w := by
 have E : Ext (· < s.n) F β w (· < s.n) F (aliveB (lookC s.h) β) w := ⟨fun _ h => h, fun b hb => ⟨hb, rfl⟩, fun i bd _ hb => ⟨_, (aliveB_le hb).2⟩⟩
 exact ⟨fun t => RelA.mono E _ _ (C.t t), C.m.alive, C.nt, C.d, C.f, C.g, fun i bd hi hb => C.e i bd hi (aliveB_le hb).2, C.k⟩
def noMp (h : Nat → Chunk) : Prop := ∀ i a n es, h i ≠ .mp a n es
theorem Conc.beyond {H : Hist} {s : St} {F : Nat → Prop} {β : Nat → Option Bind} {a : Act} {A B : World} (C : Conc H s F β a A) (hmp : noMp (lookC s.h)) {S : Nat} (hS : H.W.heap.size ≤ S) (hds : ∀ D, mkD D ∈ a.defers → D < S) {row : Option Nat} (hg : A.grownBy B row) (hr : ∀ r, row = some r → S ≤ r ∧ ∃ o : Obj, A.heap[r]? = some o ∧ o.isCells = false) : Conc H s F β a B := by
 have same : ∀ b o, A.heap[b]? = some o → (o.isCells = true ∨ b < S) → B.heap[b]? = A.heap[b]? := by
  intro b o ho hc
  refine hg.block b (Array.getElem?_eq_some_iff.1 ho).1 fun e => ?_
  obtain ⟨h1, o', h2, h3⟩ := hr b e.symm
  rw [ho] at h2; cases h2
  rcases hc with hc | hc
  ·rw [h3] at hc; cases hc
  ·omega
 have st : CellsStay A B := by
  intro b o u hu
  unfold World.cell? at hu ⊢
  cases hb : A.heap[b]? with
  | none => simp [hb] at hu
  | some ob =>
   simp only [hb] at hu
   cases ob with
   | cells c t f => simp only [same b _ hb (.inl rfl), hb]; exact hu
   | _ => simp at hu
 have M := C.m
 refine ⟨fun t => RelA.sh st _ _ (C.t t), ⟨Nat.le_trans M.size hg.size, hg.os.trans M.os, hg.tape.trans M.tape, hg.output.trans M.output, fun b hb hN => ?_, fun b hb => Nat.lt_of_lt_of_le (M.fin b hb) hg.size, M.used, fun id hd => ?_, M.dis, fun i bd b hb hbb => ?_⟩, C.nt, ?_, C.f, C.g, C.e, C.k⟩
 ·refine (hg.block b (Nat.lt_of_lt_of_le hb M.size) fun e => ?_).trans (M.frame b hb hN)
  have := (hr b e.symm).1; omega
 ·obtain ⟨bd, hb, hk⟩ := M.ch id hd
  refine ⟨bd, hb, ?_⟩
  cases hc : lookC s.h id with
  | dead => trivial
  | row e sz xs =>
   rw [hc] at hk
   refine hk.sh st fun g hbg => ?_
   obtain ⟨⟨_, hbs⟩, _, _, h4⟩ := hk
   rcases h4 with ⟨h4, _⟩ | ⟨g', cap, cur, h5, _, h7, _⟩
   ·rcases hbg with hbg | hbg
    ·rw [h4] at hbg; cases hbg
    ·rw [hbs] at hbg; cases hbg
   ·rcases hbg with hbg | hbg
    ·rw [h5] at hbg; cases hbg; exact same g _ h7 (.inl rfl)
    ·rw [hbs] at hbg; cases hbg
  | keep e sz xs =>
   rw [hc] at hk
   refine hk.sh st fun g hbg => ?_
   obtain ⟨⟨_, hbs⟩, _, _, h4⟩ := hk
   rcases h4 with ⟨h4, _⟩ | ⟨g', cap, cur, h5, _, h7, _⟩
   ·rcases hbg with hbg | hbg
    ·rw [h4] at hbg; cases hbg
    ·rw [hbs] at hbg; cases hbg
   ·rcases hbg with hbg | hbg
    ·rw [h5] at hbg; cases hbg; exact same g _ h7 (.inl rfl)
    ·rw [hbs] at hbg; cases hbg
  | blk t cs =>
   rw [hc] at hk
   refine hk.sh st fun g hbg => ?_
   obtain ⟨⟨_, hbs⟩, _, g', vs, h5, _, h7, _⟩ := hk
   rcases hbg with hbg | hbg
   ·rw [h5] at hbg; cases hbg; exact same g _ h7 (.inl rfl)
   ·rw [hbs] at hbg; cases hbg
  | mp a n es => exact absurd hc (hmp id a n es)
  | nst e sz c e2 sz2 xs ys op =>
   rw [hc] at hk
   refine hk.sh st fun g hbg => ?_
   obtain ⟨⟨_, hbs⟩, _, _, _, _, h4⟩ := hk
   rcases hbg with hbg | hbg
   ·rcases h4 with ⟨h4, _⟩ | ⟨g', cap, cur, h5, _, h7, _⟩
    ·rw [h4] at hbg; cases hbg
    ·rw [h5] at hbg; cases hbg; exact same g _ h7 (.inl rfl)
   ·obtain ⟨cur, h7⟩ := hbs g hbg
    exact same g _ h7 (.inl rfl)
 ·obtain ⟨h1, h2, h3⟩ := M.off i bd b hb hbb
  exact ⟨h1, Nat.lt_of_lt_of_le h2 hg.size, h3⟩
 ·obtain ⟨Ds, h1, h2, h3⟩ := C.d
  refine ⟨Ds, h1, h2, fun D hD => ⟨(h3 D hD).1, (h3 D hD).2.1, ?_⟩⟩
  have hlt : D < S := hds D (by rw [h1]; exact List.mem_map.2 ⟨D, hD, rfl⟩)
  exact (same D _ (h3 D hD).2.2 (.inr hlt)).trans (h3 D hD).2.2
def isMp : Chunk → Bool
 | .mp _ _ _ => true
 | _ => false
theorem noMp_list {L : List (Nat × Chunk)} (h : (L.all fun x => !isMp x.2) = true) : noMp (lookC L) := by
 induction L with
 | nil => intro i a n es he; simp [lookC] at he
 | cons x r ih =>
  intro i a n es he
  simp only [List.all_cons, Bool.and_eq_true] at h
  simp only [lookC] at he
  split at he
  ·have := h.1; rw [he] at this; simp [isMp] at this
  ·exact ih h.2 i a n es he
mutual
theorem RelA.narrow {U U' F : Nat → Prop} {β : Nat → Option Bind} {w : World} : ∀ (x : AV) (u : Value), (∀ i ∈ idsA x, U' i) → RelA U w F β x u → RelA U' w F β x u
 | .undef, _, _, _ => by simp only [RelA]
 | .c p, u, _, h => by simp only [RelA] at h ⊢; exact h
 | .agg xs, u, hi, h => by
  simp only [RelA] at h ⊢
  obtain ⟨vs, rfl, h1, h2⟩ := h
  exact ⟨vs, rfl, RelL.narrow xs _ hi h1, h2⟩
 | .tup xs, u, hi, h => by
  simp only [RelA] at h ⊢
  obtain ⟨vs, rfl, h1⟩ := h
  exact ⟨vs, rfl, RelL.narrow xs _ hi h1⟩
 | .own id, u, hi, h => by simp only [RelA] at h ⊢; exact ⟨hi id (by simp [idsA]), h.2⟩
 | .view id o l, u, hi, h => by simp only [RelA] at h ⊢; exact ⟨hi id (by simp [idsA]), h.2⟩
 | .ptr id i o, u, hi, h => by simp only [RelA] at h ⊢; exact ⟨hi id (by simp [idsA]), h.2⟩
 | .fel sz xs i o, u, _, h => by simp only [RelA] at h ⊢; exact h
 | .clo f x y, u, hi, h => by
  simp only [RelA] at h ⊢
  obtain ⟨fs, cs, rfl, h1, h2⟩ := h
  exact ⟨fs, cs, rfl, RelL.narrow x _ (fun i hm => hi i (by simp [idsA, hm])) h1, RelL.narrow y _ (fun i hm => hi i (by simp [idsA, hm])) h2⟩
 | .ifc t x, u, hi, h => by
  simp only [RelA] at h ⊢
  obtain ⟨y, rfl, h1⟩ := h
  exact ⟨y, rfl, RelA.narrow x y hi h1⟩
 | .map id, u, hi, h => by simp only [RelA] at h ⊢; exact ⟨hi id (by simp [idsA]), h.2⟩
 | .opt t x, u, hi, h => by simp only [RelA] at h ⊢; exact ⟨fun ht => RelA.narrow x u hi (h.1 ht), h.2⟩
theorem RelL.narrow {U U' F : Nat → Prop} {β : Nat → Option Bind} {w : World} : ∀ (xs : List AV) (us : List Value), (∀ i ∈ idsL xs, U' i) → RelL U w F β xs us → RelL U' w F β xs us
 | [], us, _, h => by simp only [RelL] at h ⊢; exact h
 | x :: r, us, hi, h => by
  simp only [RelL] at h ⊢
  obtain ⟨u, us', rfl, h1, h2⟩ := h
  exact ⟨u, us', rfl, RelA.narrow x u (fun i hm => hi i (by simp [idsL, hm])) h1, RelL.narrow r us' (fun i hm => hi i (by simp [idsL, hm])) h2⟩
end
theorem look_ids {k2 : Nat} : ∀ {t : List (Nat × AV)}, (idsL (t.map (·.2))).all (fun i => Nat.blt i k2) = true → ∀ j, ∀ i ∈ idsA (look t j), i < k2
 | [], _, j, i, h => by simp [look, idsA] at h
 | (k, x) :: r, hall, j, i, h => by
  simp only [List.map_cons, idsL, List.all_append, Bool.and_eq_true] at hall
  simp only [look] at h
  split at h
  ·have := List.all_eq_true.1 hall.1 i h; simpa using this
  ·exact look_ids hall.2 j i h
def IterOk (P : Program) (gf : FuncId) (b : List AV) {ι : Type} (pv : ι → PV) (Pi : ι → Prop) (its : List ι) : Prop :=
 Enters P gf ∧ ∀ (w : World) (U F : Nat → Prop) (β : Nat → Option Bind) (lb : List Value), (∀ b, F b → b < w.heap.size) → RelL U w F β b lb →
  SeqStopsK Fence.wide 2 P gf lb.toArray (fun x : {x : ι × Value // Pi x.1 ∧ RelP w F (pv x.1) x.2} => #[x.1.2]) (fun W W' => ∀ b, F b → W'.heap[b]? = W.heap[b]?) (fun xs => xs.map (fun x => x.1.1) = its) (fun _ => True) its.length w
def rgK (k2 n' : Nat) (h : List (Nat × Chunk)) : Exit → St → Prop
 | .normal, s => ToK k2 s ⟨[], h, n'⟩
 | _, _ => False
theorem rgK_n {k2 n' : Nat} {h : List (Nat × Chunk)} {s : St} : rgK k2 n' h .normal s = ToK k2 s ⟨[], h, n'⟩ := rfl
theorem eg_of {P : Program} {f : FuncId} (h : Enters P f) (args : Array Value) (w : World) : (callFunc f args).run P w = .ok (.enter f args) w := by
 obtain ⟨fn, h1, h2, h3⟩ := h
 have h4 : fn.body.isNone = false := by cases hb : fn.body <;> simp_all
 simp only [callFunc, Sem.run_bind, run_program, Result.andThen_ok, h1, h3, Bool.false_eq_true, if_false, h4, Sem.run_pure]
theorem range_i {P : Program} (hmix : P.follows .mixedOrders = true) {nt k : Nat} {g : Operand} {p d : Tmp} {i0 : Nat} {ty : TypeId} {pos : String} {es : Array Edge} {y : Code} {Q : Exit → St → Prop} {s : St} {gf : FuncId} {b : List AV} {ι : Type} {pv : ι → PV} {Pi : ι → Prop} {its : List ι}
 (hg : getO (look s.t) g = .clo (.func gf) [] b) (IT : IterOk P gf b pv Pi its) (t' : List (Nat × AV)) (k2 n' : Nat) (hs : List ι → List (Nat × Chunk)) (hto : ToK k s ⟨t', hs [], n'⟩)
 (hids : (idsL (t'.map (·.2))).all (fun i => Nat.blt i k2) = true) (hk2 : k2 ≤ n') (hk : k ≤ k2) (hmp : ∀ pre, noMp (lookC (hs pre))) (hnd : noDefer y = true) (hp : p < nt) (hdn : d < nt)
 (hbody : ∀ (pre : List ι) (x : ι), pre.length < its.length → (∀ z ∈ pre, Pi z) → Pi x → awp P nt k2 y (rgK k2 n' (hs (pre ++ [x]))) ⟨(d, .c (pv x)) :: (p, .c (pv x)) :: t', hs pre, n'⟩)
 (hdone : Q .normal ⟨t', hs its, n'⟩) : RangeG P nt k g #[p] (Code.region i0 #[{ dst := some d, op := .assign (.tmp p), type := ty, pos := pos, after := es, guard := none }] false) y Q s := by
 intro H F β a w hnt hHk C
 -- the iterator's value
 have hgv := C.G g
 rw [hg] at hgv
 simp only [RelA] at hgv
 obtain ⟨fs, cs, hgv, h1, h2⟩ := hgv
 simp only [RelL] at h1
 obtain rfl : fs = #[] := by simpa using h1
 -- the state at the loop's head, all that is frozen kept
 let H1 : Hist := { H with F := F }
 have C1 : Conc H1 s F β a w := ⟨C.t, C.m, C.nt, C.d, fun b hb => hb, fun b hb => .inl hb, C.e, C.k⟩
 obtain ⟨F0, β0, C0⟩ := hto H1 F β a w hHk C1
 have hds : ∀ D, mkD D ∈ a.defers → D < w.heap.size := by
  intro D hD
  obtain ⟨Ds, e1, _, e3⟩ := C.d
  rw [e1] at hD
  obtain ⟨D', hD', e⟩ := List.mem_map.1 hD
  have : D' = D := by simpa [mkD] using e
  subst this
  exact C.m.fin _ (e3 D' hD').1
 have hWs : H1.W.heap.size ≤ w.heap.size := C.m.size
 let α := {x : ι × Value // Pi x.1 ∧ RelP w F (pv x.1) x.2}
 let I : List α → World → Prop := fun pre W => (∃ F' β', Conc H1 ⟨t', hs (pre.map (fun x => x.1.1)), n'⟩ F' β' a W) ∧ (∀ b, F b → W.heap[b]? = w.heap[b]?)
 refine wpIn_wide.1 (wpIn_rangeFunc_ownG (F := Fence.wide) (n := 3) rfl (by decide) hgv trivial (eg_of IT.1) (IT.2 w _ F β cs.toList (fun b hb => C.m.fin b hb) h2) (fun h1 h2 b hb => (h2 b hb).trans (h1 b hb))
  (fun W l o o' hl ho hc _ b hb => World.putObj_heap_other (by have := C.m.fin b hb; omega)) (Below.refl _ _) (fun _ => rfl) I (fun _ _ _ => False) ?hI (fun _ _ _ _ _ h _ _ => h) ⟨⟨F0, β0, C0⟩, fun _ _ => rfl⟩
  (fun x => ({ tmps := a.tmps.setIfInBounds p x.1.2, defers := [] } : Act).put (some d) (({ tmps := a.tmps.setIfInBounds p x.1.2, defers := [] } : Act).tmps.getD p undef)) ?hassign ?hbody ?hdone ?hstop)
 case hI =>
  rintro pre A B row ⟨⟨F', β', C'⟩, hk⟩ hgr hr
  refine ⟨⟨F', β', C'.beyond (hmp _) hWs hds hgr hr⟩, fun b hb => ?_⟩
  refine (hgr.block b ?_ fun e => ?_).trans (hk b hb)
  ·have hl := C.m.fin b hb
   have : A.heap[b]?.isSome = true := by rw [hk b hb]; simp [hl]
   simpa using this
  ·have := (hr b e.symm).1; have := C.m.fin b hb; omega
 case hassign =>
  intro l x W K hK
  refine asg_inR ?_
  simpa using hK
 case hbody =>
  rintro l pre x W ⟨⟨F', β', C'⟩, hkp⟩ hlen
  obtain ⟨x, hPx, hxr⟩ := x
  have C2 := C'.alive
  obtain ⟨βr, hβr⟩ : ∃ βr, βr = aliveB (lookC (hs (pre.map (fun x => x.1.1)))) β' := ⟨_, rfl⟩
  rw [← hβr] at C2
  let H2 : Hist := ⟨W, inB βr, F', βr, k2, nt⟩
  have hFF : ∀ b, F b → F' b := C'.f
  have hxW : RelP W F' (pv x.1) x.2 := RelP.mono (fun b hb => ⟨hFF b hb, hkp b hb⟩) _ _ hxr
  have hsz : a.tmps.size = nt := C.nt.trans hnt
  have off : ∀ i bd b, βr i = some bd → bd.has b → ¬ F' b := fun i bd b h1 h2 => (C2.m.off i bd b h1 h2).1
  have CB : Conc H2 ⟨(d, .c (pv x.1)) :: (p, .c (pv x.1)) :: t', hs (pre.map (fun x => x.1.1)), n'⟩ F' βr (({ tmps := a.tmps.setIfInBounds p x.2, defers := [] } : Act).put (some d) (({ tmps := a.tmps.setIfInBounds p x.2, defers := [] } : Act).tmps.getD p undef)) W := by
   refine ⟨fun t => ?_, ?_, ?_, Dfr.nil _ _ _, fun b hb => hb, fun b hb => .inl hb, fun i bd _ hb => ⟨_, hb⟩, hk2⟩
   ·have hpv : (a.tmps.setIfInBounds p x.2).getD p undef = x.2 := by
     rw [Array.getD_eq_getD_getElem?, Array.getElem?_setIfInBounds_self, if_pos (by rw [hsz]; exact hp)]; rfl
    have base : ∀ t, RelA (· < n') W F' βr (look ((p, .c (pv x.1)) :: t') t) ((a.tmps.setIfInBounds p x.2).getD t undef) := by
     intro t
     simp only [look]
     by_cases e : p = t
     ·subst e; rw [if_pos rfl, hpv]; simp only [RelA]; exact hxW
     ·rw [if_neg e, Array.getD_eq_getD_getElem?, Array.getElem?_setIfInBounds_ne e, ← Array.getD_eq_getD_getElem?]; exact C2.t t
    simp only [Act.put, look]
    by_cases e : d = t
    ·subst e
     rw [if_pos rfl, Array.getD_eq_getD_getElem?, Array.getElem?_setIfInBounds_self, if_pos (by rw [Array.size_setIfInBounds, hsz]; exact hdn), hpv]
     simp only [RelA, Option.getD_some]; exact hxW
    ·rw [if_neg e, Array.getD_eq_getD_getElem?, Array.getElem?_setIfInBounds_ne e, ← Array.getD_eq_getD_getElem?]
     exact base t
   ·exact ⟨Nat.le_refl _, rfl, rfl, rfl, fun _ _ _ => rfl, C2.m.fin, C2.m.used, C2.m.ch, C2.m.dis, fun i bd b hb hbb => ⟨(C2.m.off i bd b hb hbb).1, (C2.m.off i bd b hb hbb).2.1, .inr ⟨i, bd, hb, hbb⟩⟩⟩
   ·simp [Act.put, hsz, H2]
  have hb1 := hbody (pre.map (fun x => x.1.1)) x.1 (by simpa using hlen) (fun z hz => by obtain ⟨z', _, rfl⟩ := List.mem_map.1 hz; exact z'.2.1) hPx
  have hr := awp_inR (H := H2) (l := l) (n := 1) hmix y hnd _ (fun s hs => hs) _ F' βr _ W hb1 CB
  refine wpIn_mono hr ?_
  rintro e a2 W2 ⟨s2, F2, β2, D2, hq⟩
  cases e with
  | normal =>
   obtain ⟨F3, β3, D3⟩ := hq H2 F2 β2 a2 W2 rfl D2
   have kp : ∀ b, F' b → W2.heap[b]? = W.heap[b]? := fun b hb => D3.m.frame b (C2.m.fin b hb) fun hN => by
    obtain ⟨i, bd, h1, h2⟩ := hN
    exact off i bd b h1 h2 hb
   refine ⟨⟨D3.m.size, fun j o hj ho hc => ?_⟩, fun b hb => kp b (hFF b hb), ⟨F3, β3, ?_⟩, fun b hb => (kp b (hFF b hb)).trans (hkp b hb)⟩
   · -- what is no cells lies as it lay
    refine (D3.m.frame j (Array.getElem?_eq_some_iff.1 ho).1 ?_).trans ho
    rintro ⟨i, bd, h1, h2⟩
    have hal : lookC (hs (pre.map (fun x => x.1.1))) i ≠ .dead := by rw [hβr] at h1; exact (aliveB_le h1).1
    obtain ⟨bd', h3, h4⟩ := C2.m.ch i hal
    rw [h1] at h3; cases h3
    cases hcc : lookC (hs (pre.map (fun x => x.1.1))) i with
    | dead => exact hal hcc
    | row e sz xs =>
     rw [hcc] at h4
     obtain ⟨⟨_, hbs⟩, _, _, h5⟩ := h4
     rcases h2 with h2 | h2
     ·rcases h5 with ⟨h5, _⟩ | ⟨g', cap, cur, h6, _, h7, _⟩
      ·rw [h5] at h2; cases h2
      ·rw [h6] at h2; cases h2
       rw [ho] at h7; cases h7; cases hc
     ·rw [hbs] at h2; cases h2
    | keep e sz xs =>
     rw [hcc] at h4
     obtain ⟨⟨_, hbs⟩, _, _, h5⟩ := h4
     rcases h2 with h2 | h2
     ·rcases h5 with ⟨h5, _⟩ | ⟨g', cap, cur, h6, _, h7, _⟩
      ·rw [h5] at h2; cases h2
      ·rw [h6] at h2; cases h2
       rw [ho] at h7; cases h7; cases hc
     ·rw [hbs] at h2; cases h2
    | blk t cs =>
     rw [hcc] at h4
     obtain ⟨⟨_, hbs⟩, _, g', vs, h6, _, h7, _⟩ := h4
     rcases h2 with h2 | h2
     ·rw [h6] at h2; cases h2
      rw [ho] at h7; cases h7; cases hc
     ·rw [hbs] at h2; cases h2
    | nst e sz c e2 sz2 xs ys op =>
     rw [hcc] at h4
     obtain ⟨⟨_, hbs⟩, _, _, _, _, h5⟩ := h4
     rcases h2 with h2 | h2
     ·rcases h5 with ⟨h5, _⟩ | ⟨g', cap, cur, h6, _, h7, _⟩
      ·rw [h5] at h2; cases h2
      ·rw [h6] at h2; cases h2
       rw [ho] at h7; cases h7; cases hc
     ·obtain ⟨cur, h7⟩ := hbs j h2
      rw [ho] at h7; cases h7; cases hc
    | mp x1 x2 x3 => exact hmp _ i x1 x2 x3 hcc
   ·have E : Ext (· < k2) F' βr W (· < n') F3 β3 W2 := ⟨fun i hi => Nat.lt_of_lt_of_le hi hk2, fun b hb => ⟨D3.f b hb, kp b hb⟩, fun i bd hi hb => D3.e i bd hi hb⟩
    have M3 := D3.m
    rw [List.map_append]
    refine ⟨fun t => RelA.mono E _ _ (RelA.narrow _ _ (look_ids hids t) (C2.t t)), ⟨Nat.le_trans C2.m.size M3.size, M3.os.trans C2.m.os, M3.tape.trans C2.m.tape, M3.output.trans C2.m.output, fun b hb hN => ?_, M3.fin, M3.used, M3.ch, M3.dis, fun i bd b hb hbb => ?_⟩, C.nt, C2.d.mono fun b hb => ⟨D3.f b hb, kp b hb⟩, fun b hb => D3.f b (C2.f b hb), fun b hb => ?_, fun i bd hi hb => by obtain ⟨bs, h1⟩ := D3.e i bd (Nat.lt_of_lt_of_le hi (by rw [show H1.k = k from hHk]; exact hk)) hb; exact C2.e i ⟨_, _, _, _, bs⟩ hi h1, ?_⟩
    ·refine (M3.frame b (Nat.lt_of_lt_of_le hb C2.m.size) ?_).trans (C2.m.frame b hb hN)
     rintro ⟨i, bd, h1, h2⟩
     rcases (C2.m.off i bd b h1 h2).2.2 with h3 | h3
     ·have hb' : b < H1.W.heap.size := hb; omega
     ·exact hN h3
    ·obtain ⟨h3, h4, h5⟩ := M3.off i bd b hb hbb
     refine ⟨h3, h4, ?_⟩
     rcases h5 with h5 | ⟨j, bj, h6, h7⟩
     ·exact .inl (Nat.le_trans C2.m.size h5)
     ·exact (C2.m.off j bj b h6 h7).2.2
    ·rcases D3.g b hb with h3 | h3 | ⟨j, bj, h6, h7⟩
     ·exact C2.g b h3
     ·exact .inr (.inl (Nat.le_trans C2.m.size h3))
     ·exact .inr (C2.m.off j bj b h6 h7).2.2
    ·have : H1.k = k := hHk
     change H1.k ≤ n'
     omega
  | _ => exact hq.elim
 case hdone =>
  rintro D xs W hD hS ⟨⟨F', β', C'⟩, hkp⟩ hDW
  rw [hS] at C'
  have C2 := C'.alive
  have hnF : ∀ i bd, aliveB (lookC (hs its)) β' i = some bd → ¬ bd.has D := by
   intro i bd h1 h2
   obtain ⟨bd', h3, h4⟩ := C2.m.ch i (aliveB_le h1).1
   rw [h1] at h3; cases h3
   cases hcc : lookC (hs its) i with
   | dead => exact (aliveB_le h1).1 hcc
   | row e sz xs =>
    rw [show lookC (St.h ⟨t', hs its, n'⟩) i = _ from hcc] at h4
    obtain ⟨⟨_, hbs⟩, _, _, h5⟩ := h4
    rcases h2 with h2 | h2
    ·rcases h5 with ⟨h5, _⟩ | ⟨g', cap, cur, h6, _, h7, _⟩
     ·rw [h5] at h2; cases h2
     ·rw [h6] at h2; cases h2
      rw [hDW] at h7; cases h7
    ·rw [hbs] at h2; cases h2
   | keep e sz xs =>
    rw [show lookC (St.h ⟨t', hs its, n'⟩) i = _ from hcc] at h4
    obtain ⟨⟨_, hbs⟩, _, _, h5⟩ := h4
    rcases h2 with h2 | h2
    ·rcases h5 with ⟨h5, _⟩ | ⟨g', cap, cur, h6, _, h7, _⟩
     ·rw [h5] at h2; cases h2
     ·rw [h6] at h2; cases h2
      rw [hDW] at h7; cases h7
    ·rw [hbs] at h2; cases h2
   | blk t cs =>
    rw [show lookC (St.h ⟨t', hs its, n'⟩) i = _ from hcc] at h4
    obtain ⟨⟨_, hbs⟩, _, g', vs, h6, _, h7, _⟩ := h4
    rcases h2 with h2 | h2
    ·rw [h6] at h2; cases h2
     rw [hDW] at h7; cases h7
    ·rw [hbs] at h2; cases h2
   | nst e sz c e2 sz2 xs ys op =>
    rw [show lookC (St.h ⟨t', hs its, n'⟩) i = _ from hcc] at h4
    obtain ⟨⟨_, hbs⟩, _, _, _, _, h5⟩ := h4
    rcases h2 with h2 | h2
    ·rcases h5 with ⟨h5, _⟩ | ⟨g', cap, cur, h6, _, h7, _⟩
     ·rw [h5] at h2; cases h2
     ·rw [h6] at h2; cases h2
      rw [hDW] at h7; cases h7
    ·obtain ⟨cur, h7⟩ := hbs D h2
     rw [hDW] at h7; cases h7
   | mp x1 x2 x3 => exact hmp _ i x1 x2 x3 hcc
  have E : Ext (· < n') F' (aliveB (lookC (hs its)) β') W (· < n') (fun b => F' b ∨ b = D) (aliveB (lookC (hs its)) β') W := ⟨fun _ h => h, fun b hb => ⟨.inl hb, rfl⟩, fun _ _ _ h => ⟨_, h⟩⟩
  have M := C2.m
  refine ⟨⟨t', hs its, n'⟩, fun b => F' b ∨ b = D, aliveB (lookC (hs its)) β', ⟨fun t => RelA.mono E _ _ (C2.t t), ⟨M.size, M.os, M.tape, M.output, M.frame, ?_, M.used, fun id hd => ?_, M.dis, fun i bd b hb hbb => ?_⟩, C2.nt, ?_, fun b hb => .inl (C'.f b (C.f b hb)), fun b hb => ?_, C2.e, C2.k⟩, hdone⟩
  ·rintro b (hb | rfl)
   ·exact M.fin b hb
   ·exact (Array.getElem?_eq_some_iff.1 hDW).1
  ·obtain ⟨bd, hb, hc⟩ := M.ch id hd
   exact ⟨bd, hb, hc.mono E fun g _ => rfl⟩
  ·obtain ⟨h1, h2, h3⟩ := M.off i bd b hb hbb
   exact ⟨fun h => h.elim h1 fun e => hnF i bd hb (by rw [← e]; exact hbb), h2, h3⟩
  ·obtain ⟨Ds, h1, h2, h3⟩ := C2.d
   refine ⟨D :: Ds, by rw [List.map_cons, ← h1], List.nodup_cons.2 ⟨fun hm => ?_, h2⟩, fun E hE => ?_⟩
   ·have := hds D (by rw [h1]; exact List.mem_map.2 ⟨D, hm, rfl⟩); omega
   ·rcases List.mem_cons.1 hE with rfl | hE
    ·exact ⟨.inr rfl, Nat.le_trans C.m.size hD, hDW⟩
    ·exact ⟨.inl (h3 E hE).1, (h3 E hE).2⟩
  ·rcases hb with hb | rfl
   ·rcases C'.g b hb with h | h
    ·exact C.g b h
    ·exact .inr h
   ·exact .inr (.inl (Nat.le_trans C.m.size hD))
 case hstop => intro D c pre W _ _ h _; exact h.elim
end Go.Proofs.Ytdkmndimmpilaaa
namespace Go.Proofs.Ytdkmndimmpilaaa
set_option linter.all false
open Go.RowKit
theorem retA {P : Program} {rs : List ResultVar} {r : AV} {s : St} {φ : Prop} {xs : List AV} (h : resAV P (look s.t) (lookC s.h) rs = some (φ, xs)) (hw : Wk (cv [] (lookC s.h) (oneV xs)) r) (hφ : φ := by repeat' (first | exact trivial | exact rfl | refine ⟨?_, ?_⟩)) : RetG P 0 rs r [] s := ret0 h hφ hw
theorem wkc {x y : AV} (h : Wk x y := by first | exact Wk.refl _ | exact Wk.nil _ | (refine Wk.tup ?_; repeat' (first | exact trivial | exact Wk.refl _ | exact Wk.nil _ | refine ⟨?_, ?_⟩ | (refine Wk.agg ?_)))) : Wk x y := h
theorem obA {a b : Prop} (h : b) (ha : a := by first | omega | decide | (simp; done) | (simp; omega) | (intro hh; refine ⟨hh, ?_⟩; omega) | (simp [mhas, mfind]; done) | (simp +contextual; done) | fail) : a ∧ b := ⟨ha, h⟩
theorem tdv {a b : Int} (h : 0 ≤ a) : a.tdiv b = a / b := Int.tdiv_eq_ediv_of_nonneg h
theorem tmd {a b : Int} (h : 0 ≤ a) : a.tmod b = a % b := Int.tmod_eq_emod_of_nonneg h
theorem xa {p : Prop} [Decidable p] : (decide p = true) = p := decide_eq_true_eq
theorem xb {p : Prop} [Decidable p] : decide p = false ↔ ¬ p := decide_eq_false_iff_not
theorem xc {b : Bool} : ((!b) = true) ↔ b = false := by cases b <;> simp
theorem xd {b : Bool} : ((!b) = false) ↔ b = true := by cases b <;> simp
theorem xe {a b : Bool} : (a || b) = true ↔ a = true ∨ b = true := by cases a <;> simp
theorem xf {a b : Bool} : (a && b) = true ↔ a = true ∧ b = true := by cases a <;> simp
theorem xg {a b : Bool} : (a || b) = false ↔ a = false ∧ b = false := by cases a <;> simp
theorem xh {a b : Bool} : (a && b) = false ↔ a = false ∨ b = false := by cases a <;> simp
theorem xi {a b : Int} : ¬ a < b ↔ b ≤ a := Int.not_lt
theorem xj {a b : Int} : ¬ a ≤ b ↔ b < a := Int.not_le
theorem xk {p q : Prop} : ¬ (p ∧ q) ↔ (p → ¬ q) := not_and
theorem xl {p q : Prop} : ¬ (p ∨ q) ↔ ¬ p ∧ ¬ q := not_or
attribute [push_cast] clearAV copyAV partOf invA awp awpL opW opWF opX opG ex4 ex3 nstEx nIdxAV nLenAV nLoadAV nStoreAV nAppAV nLitAV nsplit fz fzL inZ fzH deadsOf rowsA rowsL fzEff mapAV kty keyA intsA ex2 ex1 loadAV cellsAt valOf addO fieldAddrAV partAV fieldAV indexAddrAV indexAV bound sliceAV convAV lenAV minInts maxInts isPtr pickAV bsel_false bsel_true binAV intBin strBin eqAV eqCells eqVal nilP unAV slOf cellsOf toPV toPVs splice fillA plFs buildAV chunks sameO makeAV sliceLitAV storeAV rowOf appAV dstOk dstV gcond strip stripsT St.app putO look_n look_c lookC_n lookC_c getO ofV seqK blkK scoK nilCmp xorB opK drK lpK_n lpK_e lpK_r joinK_n joinK_e joinK_r argsT hsT RetQ I B S Op.operands Call.operands cv cvL ix ix.go cellP cvC up upL upC upsL upI drawL touch touch2 cellIds idsA idsL memN onlyC wk_self bool_imp cvT cvH hsW resAV oneV WkL WkC List.map_cons List.map_nil Option.toArray List.getElem?_cons_zero List.getElem?_cons_succ List.getElem?_nil List.drop_succ_cons List.drop_zero List.drop_nil List.take_succ_cons List.take_zero List.take_nil List.append_nil List.nil_append List.cons_append List.getElem?_toArray List.length_cons List.length_nil List.all_cons List.all_nil Bool.and_true Bool.true_and Bool.and_self Bool.and_false Bool.false_and Bool.or_false Bool.or_true Bool.true_or Bool.false_or Option.map_some Option.map_none Option.bind_some Option.bind_none if_true if_false true_and and_true List.getD_cons_zero List.getD_cons_succ Bool.not_true Bool.not_false Bool.false_eq_true not_false_eq_true not_true_eq_false Option.isSome_some List.isEmpty_cons Nat.add_zero Nat.zero_add List.length_map List.replicate_succ List.replicate_zero Nat.sub_zero and_self implies_true forall_const Value.oneCell' imp_self Int.toNat_zero Int.toNat_one Int.toNat_natCast true_or or_true or_false false_or Array.toList_append List.size_toArray decide_true decide_false Nat.ble_eq Nat.beq_eq Bool.and_eq_true Int.natCast_add Int.cast_ofNat_Int Int.natCast_zero Int.natCast_one decide_eq_true_eq decide_eq_false_iff_not Bool.not_eq_true' Bool.not_eq_false' Bool.or_eq_true Bool.or_eq_false_iff Bool.and_eq_false_iff beq_self_eq_true
theorem xtI : True := True.intro
structure XHid (p : Prop) : Prop where
 x : p
theorem xst {G G' : Prop} (k : G') (h : XHid G' → G := by intro h0; first | ((try simp (etaStruct := .none) only [push_cast, DrawG, Int.cast_ofNat_Int, seval]); (try simp (disch := omega) only [wrap_in, wk_self, tdv, tmd]); (repeat with_reducible refine obA ?_); exact h0.x) | (have _h : XHid True := h0; (try simp (etaStruct := .none) only [push_cast, DrawG, Int.cast_ofNat_Int, seval]); (try simp (disch := omega) only [wrap_in, wk_self, tdv, tmd]); (repeat with_reducible refine obA ?_))) : G := h ⟨k⟩
theorem xsu {G G' : Prop} (k : G') (h : XHid G' → G := by intro h0; first | ((try simp (disch := omega) only [wrap_in, wk_self, tdv, tmd]); (repeat with_reducible refine obA ?_); exact h0.x) | (have _h : XHid True := h0; (try simp (disch := omega) only [wrap_in, wk_self, tdv, tmd]); (repeat with_reducible refine obA ?_))) : G := h ⟨k⟩
theorem xhh {p q : Prop} (x : p) (h : p → q := by intro h0; (simp only [xa, xb, xc, xd, xe, xf, xg, xh, xi, xj, Bool.not_true, Bool.not_false, xk, xl] at h0); exact h0) : q := h x
theorem xrz {P : Program} {rs : List ResultVar} {r : AV} {s : St} {φ : Prop} {xs : List AV} (h : resAV P (look s.t) (lookC s.h) rs = some (φ, xs)) (hw : Wk (cv [] (lookC s.h) (oneV xs)) r := by first | (refine Wk.of ?_; (try simp (etaStruct := .none) only [push_cast, DrawG, Int.cast_ofNat_Int, seval]); first | done | (simp [*]; done) | (simp_all; done) | fail) | ((try simp (etaStruct := .none) only [push_cast, DrawG, Int.cast_ofNat_Int, seval]); (try simp [*]); (try exact wkc))) (hφ : φ := by repeat' (first | exact trivial | exact rfl | refine ⟨?_, ?_⟩)) : RetG P 0 rs r [] s := ret0 h hφ hw
section
variable {P : Program} {f : FuncId} {args args' : List AV} {h : Nat → Chunk} {m : Nat} {K : Eff → Prop} {r : AV} {c : Bool} {φ : Prop}
theorem caP (S : Spec P f args' [] r []) (k : K ⟨up [] m r, [], 0⟩) (hw : WkL (cvL [] noC args) args' := by exact WkL.refl _) : CallG P f args h m K := callP S hw k
theorem gcP (S : c = true → Spec P f args' [] r []) (k : K ⟨.opt c (up [] m r), [], 0⟩) (hw : WkL (cvL [] noC args) args' := by exact WkL.refl _) (hφ : c = true → φ := by intro hc; (try simp (etaStruct := .none) only [push_cast, DrawG, Int.cast_ofNat_Int, seval]); (try simp_all)) : GCall P c f args φ h m K := gcallP S hw hφ k
end
end Go.Proofs.Ytdkmndimmpilaaa
namespace Go.Proofs.Ytdkmndimmpilaaa
set_option linter.all false
theorem mix : Try.prog.follows .mixedOrders = true := by kernel_rfl
theorem it3 : intTy Try.prog 3 = true := by kernel_rfl
theorem ty3 : ty Try.prog 3 = some ⟨.int .i64, false, 1, 8, [.int .i64 0]⟩ := by kernel_rfl
theorem ty4 : ty Try.prog 4 = some ⟨.bool, false, 1, 1, [.bool false]⟩ := by kernel_rfl
theorem ty5 : ty Try.prog 5 = some ⟨.int .u8, false, 1, 1, [.int .u8 0]⟩ := by kernel_rfl
theorem ty9 : ty Try.prog 9 = some ⟨.str, false, 1, 16, [.string ByteArray.empty]⟩ := by kernel_rfl
theorem ty23 : ty Try.prog 23 = some ⟨.sl 38, false, 1, 24, [.slice none 0 0]⟩ := by kernel_rfl
theorem ty25 : ty Try.prog 25 = some ⟨.st [some (0, 1, false), some (1, 1, false)], true, 2, 16, [.int .i64 0, .int .i64 0]⟩ := by kernel_rfl
theorem ty27 : ty Try.prog 27 = some ⟨.st [some (0, 1, false), some (1, 1, false), some (2, 1, false), some (3, 2, true), some (5, 1, false)], true, 6, 48, [.int .i64 0, .int .i64 0, .int .i64 0, .int .i64 0, .int .i64 0, .int .i64 0]⟩ := by kernel_rfl
theorem it28 : intTy Try.prog 28 = true := by kernel_rfl
theorem ty28 : ty Try.prog 28 = some ⟨.int .i64, false, 1, 8, [.int .i64 0]⟩ := by kernel_rfl
theorem ty36 : ty Try.prog 36 = some ⟨.sl 27, false, 1, 24, [.slice none 0 0]⟩ := by kernel_rfl
theorem ty38 : ty Try.prog 38 = some ⟨.st [some (0, 1, false), some (1, 1, false), some (2, 1, false)], true, 3, 40, [.slice none 0 0, .int .i64 0, .bool false]⟩ := by kernel_rfl
theorem ty48 : ty Try.prog 48 = some ⟨.int .u64, false, 1, 8, [.int .u64 0]⟩ := by kernel_rfl
theorem ty49 : ty Try.prog 49 = some ⟨.sl 48, false, 1, 24, [.slice none 0 0]⟩ := by kernel_rfl
theorem ty54 : ty Try.prog 54 = some ⟨.sl 9, false, 1, 24, [.slice none 0 0]⟩ := by kernel_rfl
theorem ty55 : ty Try.prog 55 = some ⟨.sl 3, false, 1, 24, [.slice none 0 0]⟩ := by kernel_rfl
theorem ty57 : ty Try.prog 57 = some ⟨.st [some (0, 1, false), some (1, 1, false), some (2, 1, false), some (3, 1, false), some (4, 1, false), some (5, 1, false), some (6, 1, false), some (7, 1, false)], true, 8, 144, [.int .i64 0, .slice none 0 0, .int .i64 0, .int .i64 0, .slice none 0 0, .slice none 0 0, .slice none 0 0, .slice none 0 0]⟩ := by kernel_rfl
theorem ty59 : ty Try.prog 59 = some ⟨.st [some (0, 1, false), some (1, 1, false), some (2, 1, false), some (3, 1, false)], true, 4, 40, [.int .i64 0, .int .i64 0, .bool false, .string ByteArray.empty]⟩ := by kernel_rfl
theorem ty66 : ty Try.prog 66 = some ⟨.sl 59, false, 1, 24, [.slice none 0 0]⟩ := by kernel_rfl
theorem ty67 : ty Try.prog 67 = some ⟨.sl 28, false, 1, 24, [.slice none 0 0]⟩ := by kernel_rfl
theorem ty74 : ty Try.prog 74 = some ⟨.other, false, 1, 8, [.nilFunc]⟩ := by kernel_rfl
theorem ty76 : ty Try.prog 76 = some ⟨.other, false, 1, 8, [.nilFunc]⟩ := by kernel_rfl
theorem ty98 : ty Try.prog 98 = some ⟨.ptr 57, false, 1, 8, [.pointer none]⟩ := by kernel_rfl
theorem ty104 : ty Try.prog 104 = some ⟨.other, false, 1, 8, [.nilFunc]⟩ := by kernel_rfl
theorem ty109 : ty Try.prog 109 = some ⟨.other, false, 1, 8, [.nilFunc]⟩ := by kernel_rfl
theorem ty110 : ty Try.prog 110 = some ⟨.ptr 113, false, 1, 8, [.pointer none]⟩ := by kernel_rfl
theorem ty111 : ty Try.prog 111 = some ⟨.sl 5, false, 1, 24, [.slice none 0 0]⟩ := by kernel_rfl
theorem ty113 : ty Try.prog 113 = some ⟨.st [some (0, 1, false), some (1, 1, false)], true, 2, 32, [.pointer none, .slice none 0 0]⟩ := by kernel_rfl
theorem ty119 : ty Try.prog 119 = some ⟨.int .u32, false, 1, 4, [.int .u32 0]⟩ := by kernel_rfl
theorem ty121 : ty Try.prog 121 = some ⟨.int .u64, false, 1, 8, [.int .u64 0]⟩ := by kernel_rfl
theorem ty134 : ty Try.prog 134 = some ⟨.ptr 55, false, 1, 8, [.pointer none]⟩ := by kernel_rfl
theorem ty139 : ty Try.prog 139 = some ⟨.ptr 5, false, 1, 8, [.pointer none]⟩ := by kernel_rfl
theorem fl27 : flatN Try.prog 9 27 = some [0, 0, 0, 0, 0, 0] := by kernel_rfl
theorem ag27 : aggT Try.prog 27 = true := by kernel_rfl
attribute [push_cast] it3 ty3 ty4 ty5 ty9 ty23 ty25 ty27 it28 ty28 ty36 ty38 ty48 ty49 ty54 ty55 ty57 ty59 ty66 ty67 ty74 ty76 ty98 ty104 ty109 ty110 ty111 ty113 ty119 ty121 ty134 ty139 fl27 ag27
end Go.Proofs.Ytdkmndimmpilaaa
namespace Go.Proofs.Ytdkmndimmpilaaa
set_option linter.all false
open Go.RowKit
abbrev In64 (n : Int) : Prop := -9223372036854775808 ≤ n ∧ n ≤ 9223372036854775807
abbrev pI (n : Int) : PV := .v (.int .i64 n)
abbrev pB (b : Bool) : PV := .v (.bool b)
def i64P (n : Int) : List PV := [pI n]
def u64P (n : Nat) : List PV := [.v (.int .u64 n)]
def boolP (b : Bool) : List PV := [pB b]
def strP (s : ByteArray) : List PV := [.v (.string s)]
structure Cel where
 x : Int
 y : Int
 deriving DecidableEq, Inhabited
def celP (c : Cel) : List PV := [pI c.x, pI c.y]
abbrev celA (c : Cel) : AV := .agg [I .i64 c.x, I .i64 c.y]
structure Fld where
 w : Int
 h : Int
 p : List Int
 deriving DecidableEq, Inhabited
structure Trp where
 id : Int
 owner : Int
 kind : Int
 c : Cel
 life : Int
 load : Int
 deriving DecidableEq, Inhabited
structure Wld where
 f : Fld
 bases : List Cel
 stocks : List Int
 mines : List Int
 troops : List Trp
 next : Int
 now : Int
 deriving DecidableEq, Inhabited
structure Ord where
 by_ : Int
 kind : Int
 who : Int
 c : Cel
 what : Int
 deriving DecidableEq, Inhabited
def ordP (o : Ord) : List PV := [pI o.by_, pI o.kind, pI o.who, pI o.c.x, pI o.c.y, pI o.what]
abbrev ordA (o : Ord) : AV := .agg [I .i64 o.by_, I .i64 o.kind, I .i64 o.who, I .i64 o.c.x, I .i64 o.c.y, I .i64 o.what]
theorem getD_in {α : Type} [Inhabited α] (f : α → List PV) (l : List α) (i : Nat) (h : i < l.length) : (l.map f).getD i [] = f (l.getD i default) := by
 simp [h]
theorem getD_at {α : Type} [Inhabited α] (l : List α) (i : Nat) (h : i < l.length) : l.getD i default = l[i] := by simp [h]
theorem take_snoc {α : Type} [Inhabited α] (l : List α) (k : Nat) (h : k < l.length) : l.take (k + 1) = l.take k ++ [l.getD k default] := by rw [List.take_succ_eq_append_getElem h, getD_at _ _ h]
end Go.Proofs.Ytdkmndimmpilaaa
namespace Go.Proofs.Ytdkmndimmpilaaa
set_option linter.all false
open Go.RowKit Go.Shelf
set_option maxRecDepth 100000
def partC {α : Type} (xs : List α) (m k : Nat) : List α := (xs.drop (k * m)).take m
set_option maxHeartbeats 2000000 in
theorem chunk1_in {α : Type} (l : Nat) (b1 p1 b2 p2 b o len cap m cnt : Nat) (Kp : World → World → Prop) (hK0 : ∀ W, Kp W W) (hKd : ∀ W, Kp W W.drew) (hKt : ∀ {A B C : World}, Kp A B → Kp B C → Kp A C) (W : World) (ad : Option Addr) (had : 0 < cnt → ad = some ⟨b, o, none⟩) (hKc : ∀ W', Kp W W' → W'.cell? ⟨b1, p1, none⟩ = W.cell? ⟨b1, p1, none⟩ ∧ W'.cell? ⟨b2, p2, none⟩ = W.cell? ⟨b2, p2, none⟩) (hm : 1 ≤ m) (hml : m ≤ 4611686018427387903) (hlen : len = cnt * m) (hl : len ≤ 4611686018427387903) (hcap : len ≤ cap) (A : List α) (hA : A.length = cnt) (enc : α → Value) (hE : ∀ k (hk : k < A.length), enc (A[k]) = .slice (some ⟨b, o + k * m, none⟩) m m) (J Jx : List α → World → Prop) (hJd : ∀ pre W, J pre W → J pre W.drew)
 (hY : ∀ pre x W, J pre W → pre.length < cnt → YieldAt Fence.wide 1 Try.prog l #[enc x] W fun e W' => (e = .returned (.bool true) ∧ J (pre ++ [x]) W' ∧ Kp W W') ∨ (e = .returned (.bool false) ∧ Jx (pre ++ [x]) W'))
 (h1 : W.cell? ⟨b1, p1, none⟩ = some (.slice ad len cap)) (h2 : W.cell? ⟨b2, p2, none⟩ = some (.int .i64 m)) (h0 : J [] W) :
 CallsIn Fence.wide 2 Try.prog 83 #[.func (.yield l) #[] #[], .pointer (some ⟨b1, p1, none⟩), .pointer (some ⟨b2, p2, none⟩)] W fun e W' => (∃ v, e = .returned v) ∧ ((∃ ys, ys = A ∧ J ys W') ∨ (∃ pre, True ∧ Jx pre W')) := by
 refine callsIn_of_wp Try.func83 rfl trivial ?_ rfl
 simp only [Try.ntmps83, List.size_toArray, List.length_cons, List.length_nil, Nat.reduceAdd, Nat.reduceSub, Array.replicate_succ, Array.replicate_zero, List.push_toArray, List.append_toArray, List.nil_append, List.cons_append]
 gi_wp2
 gi_loopw [4] (fun i wr => ∃ k : Nat, k ≤ cnt ∧ i = .int .i64 (k * m : Nat) ∧ J (A.take k) wr ∧ Kp W wr)
  (fun i _ => len - (intOf i).toNat)
 case atStart => exact ⟨0, Nat.zero_le _, by simp, h0, hK0 _⟩
 case round =>
  obtain ⟨k, hk, rfl, hJs, hnx⟩ := hrel
  obtain ⟨c1, c2⟩ := hKc _ hnx
  rw [h1] at c1
  rw [h2] at c2
  by_cases hlt : k < cnt
  ·obtain rfl := had (by omega)
   have hkm : k * m + m ≤ len := by
    rw [hlen]
    calc k * m + m = (k + 1) * m := by rw [Nat.add_mul]; omega
     _ ≤ cnt * m := Nat.mul_le_mul_right _ hlt
   have hE1 := hE k (by omega)
   obtain ⟨fn, tmps, assign, body, hy, hR⟩ := hY _ (A[k]'(by omega)) wr.drew (hJd _ _ hJs) (by rw [List.length_take]; omega)
   rw [hE1] at hy
   have hnd := hKt hnx (hKd wr)
   obtain ⟨d1, d2⟩ := hKc _ hnd
   rw [h1] at d1
   rw [h2] at d2
   gi_wp2
   gi_region
   all_goals (try go_bits)
   gi_wp2
   refine hR.mono ?_
   have htk : A.take k ++ [A[k]'(by omega)] = A.take (k + 1) := (List.take_succ_eq_append_getElem (by omega)).symm
   rintro e W3 (⟨rfl, hJ3, hk3⟩ | ⟨rfl, hJx3⟩)
   · -- the round goes on
    rw [htk] at hJ3
    have hn3 := hKt hnd hk3
    obtain ⟨e1, e2⟩ := hKc _ hn3
    rw [h1] at e1
    rw [h2] at e2
    gi_wp2
    go_roundw
    case rel => exact ⟨k + 1, by omega, by rw [Nat.add_mul]; simp, hJ3, hn3⟩
    case measure => simp [intOf]; omega
   ·gi_wp2
    refine bodyPost_ret (results_none rfl _ _ _) rfl ?_
    exact ⟨⟨_, rfl⟩, .inr ⟨_, trivial, hJx3⟩⟩
  ·obtain rfl : k = cnt := by omega
   gi_wp2
   go_end0
   refine ⟨⟨_, rfl⟩, .inl ⟨_, rfl, ?_⟩⟩
   rwa [List.take_of_length_le (by omega)] at hJs
theorem partC_len {α : Type} (xs : List α) (m cnt k : Nat) (h : xs.length = cnt * m) (hk : k < cnt) : (partC xs m k).length = m := by
 unfold partC
 have : k * m + m ≤ cnt * m := by
  calc k * m + m = (k + 1) * m := by rw [Nat.add_mul]; omega
   _ ≤ cnt * m := Nat.mul_le_mul_right _ hk
 simp; omega
theorem chunk_iter (xs : List Int) (m cnt : Nat) (hm : 1 ≤ m) (hml : m ≤ 4611686018427387903) (hlen : xs.length = cnt * m) (hl : xs.length ≤ 4611686018427387903) : IterOk Try.prog 83 [.fel 1 [[.sl 1 (xs.map i64P)]] 0 0, .fel 1 [[.v (.int .i64 m)]] 0 0] (fun c : List Int => .sl 1 (c.map i64P)) (fun c => c.length = m) ((List.range cnt).map (partC xs m)) := by
 refine ⟨enters Try.func83 (by kernel_rfl) rfl, ?_⟩
 intro w U F β lb hF hb l J Jx W hW hJ hJx hY h0
 simp only [RelL, RelA] at hb
 obtain ⟨u1, us1, rfl, ⟨b1, p1, rfl, hf1, he1⟩, u2, us2, rfl, ⟨b2, p2, rfl, hf2, he2⟩, rfl⟩ := hb
 simp only [RelE, RelC, RelP, and_true, true_and] at he1 he2
 obtain ⟨-, v1, hv1, ad, cap, rfl, hcap, hcm, hx⟩ := he1
 obtain ⟨-, v2, hv2, rfl, -⟩ := he2
 simp only [Nat.zero_mul, Nat.add_zero, Nat.zero_add] at *
 rw [List.length_map] at hv1 hcap
 have hwb : ∀ {b}, F b → b < W.heap.size := fun hb => Nat.lt_of_lt_of_le (hF _ hb) hW.size
 have c1 := (hW.cell (p := ⟨b1, p1, none⟩) (hF _ hf1)).trans hv1
 have c2 := (hW.cell (p := ⟨b2, p2, none⟩) (hF _ hf2)).trans hv2
 obtain ⟨b, o, hbo⟩ : ∃ b o, 0 < cnt → ad = some ⟨b, o, none⟩ ∧ F b ∧ RelE w F b 1 o (xs.map i64P) := by
  rcases hx with hx | ⟨b, o, h1, h2, h3⟩
  ·refine ⟨0, 0, fun hc => ?_⟩
   have hx0 : xs.length = 0 := by simpa using congrArg List.length hx
   have := Nat.mul_pos hc (show 0 < m by omega); omega
  ·exact ⟨b, o, fun _ => ⟨h1, h2, h3⟩⟩
 let α := {x : List Int × Value // x.1.length = m ∧ RelP w F (.sl 1 (x.1.map i64P)) x.2}
 have item : ∀ k, k < cnt → (partC xs m k).length = m ∧ RelP w F (.sl 1 ((partC xs m k).map i64P)) (.slice (some ⟨b, o + k * m, none⟩) m m) := by
  intro k hk
  have hpl := partC_len xs m cnt k hlen hk
  obtain ⟨_, hFb, hE⟩ := hbo (by omega)
  refine ⟨hpl, ?_⟩
  simp only [RelP, List.length_map, hpl]
  refine ⟨_, m, rfl, Nat.le_refl _, by unfold maxLen; omega, .inr ⟨b, o + k * m, rfl, hFb, RelE.of fun i cs hi => ?_⟩⟩
  unfold partC at hi
  rw [List.getElem?_map, List.getElem?_take] at hi
  split at hi
  ·rw [List.getElem?_drop, ← List.getElem?_map] at hi
   have := hE.at _ _ hi
   rw [Nat.mul_one] at this ⊢
   rw [Nat.add_assoc]; exact this
  ·simp at hi
 let A : List α := List.ofFn (n := cnt) fun k => ⟨(partC xs m k, .slice (some ⟨b, o + k * m, none⟩) m m), item k k.2⟩
 refine (chunk1_in l b1 p1 b2 p2 b o xs.length cap m cnt (fun W W' => ∀ b, F b → W'.heap[b]? = W.heap[b]?) (fun _ _ _ => rfl) (fun _ _ _ => rfl) (fun h1 h2 b hb => (h2 b hb).trans (h1 b hb)) W ad (fun h => (hbo h).1)
  (fun W' hk => ⟨World.cell?_of_block (hk _ hf1), World.cell?_of_block (hk _ hf2)⟩) hm hml hlen hl hcap A (by simp [A]) (fun x : α => x.1.2) (fun k hk => by simp [A]) J Jx (fun pre W h => hJ _ _ _ none h ⟨rfl, rfl, rfl, Nat.le_refl _, fun _ _ _ => rfl⟩ (fun r e => by cases e)) ?_ c1 c2 h0).mono ?_
 ·intro pre x W1 hj hlt
  exact hY pre x W1 hj (by simpa using hlt)
 ·rintro e W' ⟨he, ⟨ys, rfl, hj⟩ | ⟨pre, _, hj⟩⟩
  ·refine ⟨he, .inl ⟨_, ?_, hj⟩⟩
   refine List.ext_getElem (by simp [A]) fun i i1 i2 => by simp [A]
  ·exact ⟨he, .inr ⟨_, trivial, hj⟩⟩
end Go.Proofs.Ytdkmndimmpilaaa
