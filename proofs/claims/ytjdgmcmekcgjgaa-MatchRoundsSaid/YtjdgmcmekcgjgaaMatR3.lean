/- Lemmas for the proof of matchRounds.proved. -/
import Derived.Test.YtjdgmcmekcgjgaaMatR2
import Derived.Shelf.SlSortCmp.WholeK
import Derived.Test.YtjdgmcmekcgjgaaProg
import Derived.WalkKit
import Derived.Handy
import Derived.WalkSpells
import Derived.WalkLawsBesides
import Derived.Lib.Hide
import Derived.Lib.BitFns
import Derived.Laws.BitsAllLaws
import Derived.Laws.AppendOwnNone
import Derived.Lib.SliceRun
import Derived.Deep.Draws
import Derived.Deep.QuietTactic
import Derived.ProofKit
import Derived.OpenShut
import Derived.ShutString
import Derived.ChangeOld
import Derived.Below
import Derived.Deep.Slices
import Derived.Shelf.Small.Bits
import Derived.Shelf.Small.Wraps
import Derived.Shelf.Strconv.Itoa0
import Derived.Ground.Names2Prog
import Derived.Shelf.Slices.SearchI
import Derived.KernelRfl
namespace Go.Proofs.Ytjdgmcmekcgjgaa
set_option linter.all false
open Go.RowKit
def cvT (ids : List Nat) (h : Nat → Chunk) (f : Nat → AV) : List (Nat × AV) → Prop
 | [] => True
 | (t, x) :: r => Wk (cv ids h (f t)) x ∧ cvT ids h f r
def cvH (all : List Nat) (h : Nat → Chunk) : Nat → List Nat → List (Nat × Chunk) → Prop
 | _, [], [] => True
 | j, id :: r, (k, c) :: r' => k = j ∧ WkC (cvC all h (h id)) c ∧ cvH all h (j + 1) r r'
 | _, _, _ => False
def hsW (all : List Nat) (h : Nat → Chunk) : List Nat → List Chunk → Prop
 | [], [] => True
 | id :: r, c :: r' => WkC (cvC all h (h id)) c ∧ hsW all h r r'
 | _, _ => False
theorem hsW_at {all : List Nat} {h : Nat → Chunk} : ∀ {ids : List Nat} {hs : List Chunk}, hsW all h ids hs → ids.length = hs.length ∧ ∀ (j : Nat) (c : Chunk), hs[j]? = some c → ∃ id : Nat, ids[j]? = some id ∧ WkC (cvC all h (h id)) c
 | [], [], _ => ⟨rfl, fun j c h => by simp at h⟩
 | [], _ :: _, h => h.elim
 | _ :: _, [], h => h.elim
 | id :: r, c :: r', h => by
  obtain ⟨h1, h2⟩ := h
  obtain ⟨k1, k2⟩ := hsW_at h2
  refine ⟨by simp [k1], fun j d hd => ?_⟩
  cases j with
  | zero => simp at hd; subst hd; exact ⟨id, by simp, h1⟩
  | succ j => obtain ⟨x, e1, e2⟩ := k2 j d (by simpa using hd); exact ⟨x, by simpa using e1, e2⟩
theorem cvH_hs {all : List Nat} {h : Nat → Chunk} : ∀ {j : Nat} {ids : List Nat} {l : List (Nat × Chunk)}, cvH all h j ids l → hsW all h ids (l.map (·.2)) ∧ ∀ i, j ≤ i → lookC l i = nth (l.map (·.2)) (i - j)
 | _, [], [], _ => ⟨trivial, fun i _ => by simp [lookC, nth]⟩
 | _, [], _ :: _, h => h.elim
 | _, _ :: _, [], h => h.elim
 | j, id :: r, (k, c) :: r', h => by
  obtain ⟨rfl, h1, h2⟩ := h
  obtain ⟨k1, k2⟩ := cvH_hs h2
  refine ⟨⟨h1, k1⟩, fun i hi => ?_⟩
  simp only [lookC]
  by_cases e : k = i
  ·subst e; simp [nth]
  ·rw [if_neg e, k2 i (by omega)]
   unfold nth
   rw [show i - k = (i - (k + 1)) + 1 from by omega]
   simp
theorem cvT_at {ids : List Nat} {h : Nat → Chunk} {f : Nat → AV} : ∀ {l : List (Nat × AV)}, cvT ids h f l → ∀ t, Wk (cv ids h (f t)) (look l t)
 | [], _, t => by simp only [look]; exact Wk.undef _
 | (k, x) :: r, h, t => by
  simp only [look]
  by_cases e : k = t
  ·subst e; rw [if_pos rfl]; exact h.1
  ·rw [if_neg e]; exact cvT_at h.2 t
section
variable {P : Program} {W : World} {N U F : Nat → Prop} {β : Nat → Option Bind} {h hT : Nat → Chunk} {w : World}
theorem reshape_mem (M : MemOk W N U F β h w) {ids : List Nat} (hnd : ids.Nodup) {hs : List Chunk} (hh : hsW ids h ids hs) : MemOk W N (· < ids.length) (frzF ids h F β) (selB ids β) (nth hs) w := by
 have M1 := cv_mem (hT := h) M (fun _ _ => rfl) ids hnd
 obtain ⟨hl, hat⟩ := hsW_at hh
 refine ⟨M1.size, M1.os, M1.tape, M1.output, M1.frame, M1.fin, M1.used, fun j hj => ?_, M1.dis, M1.off⟩
 unfold nth at hj
 rw [List.getD_eq_getElem?_getD] at hj
 cases hc : hs[j]? with
 | none => rw [hc] at hj; simp at hj
 | some c =>
  rw [hc] at hj
  simp only [Option.getD_some] at hj
  obtain ⟨id, e1, e2⟩ := hat j c hc
  have hn : nth (ids.map fun id => cvC ids h (h id)) j = cvC ids h (h id) := by
   unfold nth; rw [List.getD_eq_getElem?_getD, List.getElem?_map, e1]; rfl
  have hne : nth (ids.map fun id => cvC ids h (h id)) j ≠ .dead := by
   rw [hn]
   intro he
   rw [he] at e2
   cases c with
   | dead => exact hj rfl
   | row _ _ _ => exact e2.elim
   | blk _ _ => exact e2.elim
   | mp _ _ _ => exact e2.elim
   | nst _ _ _ _ _ _ _ _ => exact e2.elim
   | keep _ _ _ => exact e2.elim
  obtain ⟨bd, hb, hk⟩ := M1.ch j hne
  refine ⟨bd, hb, ?_⟩
  rw [hn] at hk
  unfold nth
  rw [List.getD_eq_getElem?_getD, hc]
  exact e2.run hk
theorem frzF_g (M : MemOk W N U F β h w) {ids : List Nat} {b : Nat} (hb : frzF ids h F β b) : F b ∨ W.heap.size ≤ b ∨ N b := by
 rcases hb with hb | ⟨id, bd, _, _, h1, h2⟩
 ·exact .inl hb
 ·exact .inr (M.off id bd b h1 (.inl h2)).2.2
end
theorem range_at {ids : List Nat} {k : Nat} (h : ids.take k = List.range k) {j : Nat} (hj : j < k) : ids[j]? = some j := by
 have : (ids.take k)[j]? = some j := by rw [h]; simp [hj]
 rwa [List.getElem?_take, if_pos hj] at this
theorem To.mk {k : Nat} {s s' : St} (ids : List Nat) (hk : ids.take k = List.range k) (hn : s'.n = ids.length) (hnd : ids.Nodup) (hh : cvH ids (lookC s.h) 0 ids s'.h) (ht : cvT ids (lookC s.h) (look s.t) s'.t) : ToK k s s' := by
 intro H F β a w hHk C
 obtain ⟨h1, h2⟩ := cvH_hs hh
 have M := reshape_mem C.m hnd h1
 refine ⟨frzF ids (lookC s.h) F β, selB ids β, ?_, ?_, C.nt, C.d.more fun _ hb => .inl hb, fun b hb => .inl (C.f b hb), fun b hb => ?_, fun i bd hi hb => ?_, ?_⟩
 ·intro t
  rw [hn]
  exact cvT_at ht t _ _ _ _ _ (cv_run C.m (fun _ _ => rfl) ids _ _ (C.t t))
 ·have e : lookC s'.h = nth (s'.h.map (·.2)) := by funext i; simpa using h2 i (Nat.zero_le _)
  rw [hn, e]; exact M
 ·rcases frzF_g C.m hb with h | h
  ·exact C.g b h
  ·exact .inr h
 ·rw [hHk] at hi
  have := range_at hk hi
  simp only [selB, this] at hb
  exact C.e i bd (by rw [hHk]; exact hi) hb
 ·rw [hn, hHk]
  have : (ids.take k).length = k := by rw [hk]; simp
  rw [List.length_take] at this
  omega
def resAV (P : Program) (f : Nat → AV) (h : Nat → Chunk) : List ResultVar → Option (Prop × List AV)
 | [] => some (True, [])
 | .tmp t :: r => match resAV P f h r with
  | some (φ, xs) => some (φ, f t :: xs)
  | none => none
 | .cell a t :: r => match loadAV P h t (f a), resAV P f h r with
  | some (ψ, x), some (φ, xs) => some (ψ ∧ φ, x :: xs)
  | _, _ => none
def oneV : List AV → AV
 | [x] => x
 | xs => .tup xs
def RetG0 (P : Program) (k : Nat) (rs : List ResultVar) (r : AV) (hs' : List Chunk) (s : St) : Prop :=
 ∃ ids : List Nat, ids.take k = List.range k ∧ ids.Nodup ∧ hsW ids (lookC s.h) ids hs' ∧ match resAV P (look s.t) (lookC s.h) rs with
  | some (φ, xs) => φ ∧ Wk (cv ids (lookC s.h) (oneV xs)) r
  | none => False
def RetG (P : Program) (k : Nat) (rs : List ResultVar) (r : AV) (hs' : List Chunk) (s : St) : Prop := ∃ s', ToK k s s' ∧ RetG0 P k rs r hs' s'
def RetQ (P : Program) (k : Nat) (rs : List ResultVar) (r : AV) (hs' : List Chunk) : Exit → St → Prop
 | .normal, s => RetG P k rs r hs' s
 | .ret, s => RetG P k rs r hs' s
 | _, _ => False
def argsT : Nat → List AV → List (Nat × AV)
 | _, [] => []
 | k, x :: r => (k, x) :: argsT (k + 1) r
def hsT : Nat → List Chunk → List (Nat × Chunk)
 | _, [] => []
 | k, c :: r => (k, c) :: hsT (k + 1) r
theorem look_argsT : ∀ (k : Nat) (xs : List AV) (t : Nat), look (argsT k xs) t = if k ≤ t then (xs[t - k]?).getD .undef else .undef
 | _, [], t => by simp [argsT, look]
 | k, x :: r, t => by
  simp only [argsT, look]
  by_cases h : k = t
  ·subst h; simp
  ·rw [if_neg h, look_argsT (k + 1) r t]
   by_cases h2 : k ≤ t
   ·rw [if_pos (by omega), if_pos h2, show t - k = (t - (k + 1)) + 1 from by omega, List.getElem?_cons_succ]
   ·rw [if_neg (by omega), if_neg h2]
theorem look_hsT : ∀ (k : Nat) (xs : List Chunk) (t : Nat), lookC (hsT k xs) t = if k ≤ t then nth xs (t - k) else .dead
 | _, [], t => by simp [hsT, lookC, nth]
 | k, x :: r, t => by
  simp only [hsT, lookC]
  by_cases h : k = t
  ·subst h; simp [nth]
  ·rw [if_neg h, look_hsT (k + 1) r t]
   by_cases h2 : k ≤ t
   ·rw [if_pos (by omega), if_pos h2]
    unfold nth
    rw [show t - k = (t - (k + 1)) + 1 from by omega]; simp
   ·rw [if_neg (by omega), if_neg h2]
def resOf (tmps : Array Value) : ResultVar → Sem Value
 | .tmp t => pure (tmps.getD t undef)
 | .cell a t => do loadVar t (← asAddr (tmps.getD a undef))
theorem results_eq (fn : Func) (tmps : Array Value) : results fn tmps = (do let vs ← fn.results.mapM (resOf tmps); pure (if h : vs.size = 1 then vs[0] else .tuple vs)) := rfl
theorem res_run {P : Program} {H : Hist} {s : St} {F : Nat → Prop} {β : Nat → Option Bind} {a : Act} {w : World} (C : Conc H s F β a w) : ∀ (rs : List ResultVar) (φ : Prop) (xs : List AV), resAV P (look s.t) (lookC s.h) rs = some (φ, xs) → φ →
 ∃ vs, (rs.mapM (resOf a.tmps)).run P w = .ok vs w ∧ RelL (· < s.n) w F β xs vs
 | [], φ, xs, h, _ => by
  simp only [resAV, Option.some.injEq, Prod.mk.injEq] at h
  obtain ⟨_, rfl⟩ := h
  exact ⟨[], by simp, by simp [RelL]⟩
 | .tmp t :: r, φ, xs, h, hφ => by
  unfold resAV at h
  split at h
  ·rename_i φ' ys hr
   simp only [Option.some.injEq, Prod.mk.injEq] at h
   obtain ⟨rfl, rfl⟩ := h
   obtain ⟨vs, h1, h2⟩ := res_run C r _ _ hr hφ
   refine ⟨a.tmps.getD t undef :: vs, ?_, by simp only [RelL]; exact ⟨_, _, rfl, C.t t, h2⟩⟩
   simp only [List.mapM_cons, resOf, Sem.run_bind, Sem.run_pure, Result.andThen_ok, h1]
  ·simp at h
 | .cell x t :: r, φ, xs, h, hφ => by
  unfold resAV at h
  split at h
  ·rename_i ψ y φ' ys hl hr
   simp only [Option.some.injEq, Prod.mk.injEq] at h
   obtain ⟨rfl, rfl⟩ := h
   obtain ⟨vs, h1, h2⟩ := res_run C r _ _ hr hφ.2
   obtain ⟨z, h3, h4⟩ := load_run C.m (fun _ _ => rfl) hl hφ.1 (C.t x)
   have hp : ∃ ad, a.tmps.getD x undef = .pointer (some ad) := by
    cases hv : a.tmps.getD x undef with
    | pointer ad =>
     cases ad with
     | some ad => exact ⟨ad, rfl⟩
     | none => rw [hv] at h3; simp [Instr.loadAt, Instr.sureAddr] at h3
    | _ => rw [hv] at h3; simp [Instr.loadAt, Instr.sureAddr] at h3
   obtain ⟨ad, hp⟩ := hp
   rw [hp] at h3
   simp only [Instr.loadAt, Instr.sureAddr, Sem.run_bind, Sem.run_pure, Result.andThen_ok] at h3
   refine ⟨z :: vs, ?_, by simp only [RelL]; exact ⟨_, _, rfl, h4, h2⟩⟩
   simp only [List.mapM_cons, resOf, Sem.run_bind, hp, asAddr, Sem.run_pure, Result.andThen_ok, h3, h1]
  ·simp at h
theorem spec_of {P : Program} {f : FuncId} {fn : Func} {c : Code} {args : List AV} {hs hs' : List Chunk} {r : AV} (hf : P.funcs[f]? = some fn) (hb : fn.body = some c) (hn : (fn.name == "runtime.NumGoroutine") = false)
 (hd : ∀ (H : Hist) (ops : Array Oper) (Q : Exit → St → Prop) (s : St) (F : Nat → Prop) (β : Nat → Option Bind) (a : Act) (w : World) (id : Nat), DrawG P H.nt ops (Q .normal) s → Conc H s F β a w → (Code.region id ops true).wp P (Post H Q) a w)
 (nt : Nat) (hnt : nt = args.length + (fn.ntmps - args.length)) (rs : List ResultVar) (hrs : fn.results = rs.toArray) (hle : hs.length ≤ hs'.length)
 (h : awp P nt hs.length c (RetQ P hs.length rs r hs') ⟨argsT 0 args, hsT 0 hs, hs.length⟩) : Spec P f args hs r hs' := by
 refine ⟨⟨fn, hf, by rw [hb]; rfl, hn⟩, hle, ?_⟩
 intro w F β vs M hv
 have hvl := hv.len
 refine callsIn_wide.1 (callsIn_of_wp_marks (n := 0) hf hb trivial (wpIn_wide.2 ?_))
 have C : Conc ⟨w, inB β, F, β, hs.length, nt⟩ ⟨argsT 0 args, hsT 0 hs, hs.length⟩ F β { tmps := vs.toArray ++ Array.replicate (fn.ntmps - vs.toArray.size) undef, defers := [] } w := by
  refine ⟨fun t => ?_, ?_, ?_, Dfr.nil _ _ _, fun b hb => hb, fun b hb => .inl hb, fun i bd _ hb => ⟨_, hb⟩, Nat.le_refl _⟩
  ·rw [look_argsT]
   simp only [Nat.zero_le, if_true, Nat.sub_zero]
   cases hx : args[t]? with
   | none => simp only [Option.getD_none, RelA]
   | some x =>
    obtain ⟨u, hu, hr⟩ := hv.at t x hx
    have ht : t < vs.length := (List.getElem?_eq_some_iff.1 hu).1
    have e1 : (vs.toArray ++ Array.replicate (fn.ntmps - vs.toArray.size) undef).getD t undef = u := by
     rw [Array.getD_eq_getD_getElem?, Array.getElem?_append_left (by simpa using ht)]
     simp [hu]
    simp only [Option.getD_some]
    rw [e1]; exact hr
  ·have e : lookC (hsT 0 hs) = nth hs := by funext i; rw [look_hsT]; simp
   simp only [e]; exact M
  ·simp [hvl, hnt]
 refine wp_mono (awp_run (hd _) c _ _ F β _ w h C) ?_
 rintro e a' w' ⟨s', F', β', C', hq⟩
 have fin : RetG P hs.length rs r hs' s' → LeavesInM Fence.wide 0 P fn a'.tmps (fun e w_1 => ∃ v_1 F'_1 β'_1, e = .returned v_1 ∧ MemOk w (inB β) (· < hs'.length) F'_1 β'_1 (nth hs') w_1 ∧ RelA (· < hs'.length) w_1 F'_1 β'_1 r v_1 ∧ (∀ b, F b → F'_1 b) ∧ (∀ b, F'_1 b → F b ∨ w.heap.size ≤ b ∨ inB β b) ∧ ∀ i bd, i < hs.length → β'_1 i = some bd → ∃ bs, β i = some ⟨bd.v, bd.b, bd.n, bd.sz, bs⟩) a'.defers .returning w' := by
  rintro ⟨s', hto, ids, h1, h2, h3, h4⟩
  obtain ⟨F', β', C'⟩ := hto _ F' β' a' w' rfl C'
  refine leaves_of C' ?_
  clear C' C
  intro a1 w1 ht1 C'
  rw [← ht1]
  generalize a1 = a' at *
  generalize w1 = w' at *
  split at h4
  ·rename_i φ xs hr
   obtain ⟨vs', h5, h6⟩ := res_run C' rs φ xs hr h4.1
   have M' := reshape_mem C'.m h2 h3
   obtain ⟨hl, _⟩ := hsW_at h3
   rw [hl] at M'
   have hone : ∃ v, (if h : vs'.toArray.size = 1 then vs'.toArray[0] else .tuple vs'.toArray) = v ∧ RelA (· < s'.n) w' F' β' (oneV xs) v := by
    have hxl := h6.len
    match xs, vs', h6, hxl with
    | [x], [u], h6, _ =>
     simp only [RelL] at h6
     obtain ⟨u', us, he, h7, _⟩ := h6
     simp only [List.cons.injEq] at he
     obtain ⟨rfl, _⟩ := he
     exact ⟨u, by simp, h7⟩
    | [], [], _, _ => exact ⟨.tuple #[], by simp, by simp only [oneV, RelA]; exact ⟨#[], rfl, by simp [RelL]⟩⟩
    | x :: y :: r, u :: v :: us, h6, _ =>
     refine ⟨.tuple (u :: v :: us).toArray, by simp, ?_⟩
     simp only [oneV, RelA]
     exact ⟨_, rfl, h6⟩
   obtain ⟨v, hv1, hv2⟩ := hone
   refine ⟨v, ?_, v, _, _, rfl, M', ?_, fun b hb => .inl (C'.f b hb), fun b hb => ?_, fun i bd hi hb => ?_⟩
   ·rw [results_eq, hrs, List.mapM_toArray]
    simp only [Sem.run_bind, Sem.run_map, h5, Result.andThen_ok, Sem.run_pure]
    rw [hv1]
   ·have := h4.2 _ _ _ _ _ (cv_run C'.m (fun _ _ => rfl) ids _ _ hv2)
    rw [hl] at this; exact this
   ·rcases frzF_g C'.m hb with h | h
    ·exact C'.g b h
    ·exact .inr h
   ·have := range_at h1 hi
    simp only [selB, this] at hb
    exact C'.e i bd hi hb
  ·exact h4.elim
 cases e with
 | normal => exact fin hq
 | ret => exact fin hq
 | _ => exact hq.elim
theorem mfind_shift (k : List Int) : ∀ (es : List (List Int × Int)) (i : Nat), mfind k (i + 1) es = (mfind k i es).map fun p => (p.1 + 1, p.2)
 | [], i => rfl
 | (k', v) :: r, i => by
  unfold mfind
  split
  ·rfl
  ·exact mfind_shift k r (i + 1)
theorem mget_nil (k : List Int) : mget k [] = 0 := rfl
theorem mget_cons (k k' : List Int) (v : Int) (r : List (List Int × Int)) : mget k ((k', v) :: r) = if k = k' then v else mget k r := by
 unfold mget
 rw [mfind]
 by_cases h : k = k'
 ·rw [if_pos h, if_pos h]
 ·rw [if_neg h, if_neg h, mfind_shift]; cases mfind k 0 r <;> rfl
section
variable {P : Program} {W : World} {N U F : Nat → Prop} {β : Nat → Option Bind} {h hT : Nat → Chunk} {w : World} {a : Act} {m : Nat}
theorem opX_cut {g : Operand → AV} {K : Eff → Prop} {op : Op} (hx : opX P g hT m K op) : ∃ e, opX P g hT m (· = e) op ∧ K e := by
 unfold opX at hx ⊢
 split at hx
 ·split at hx
  ·obtain ⟨e, h1, h2⟩ := hx
   exact ⟨e, ⟨e, h1, rfl⟩, h2⟩
  ·exact hx.elim
 ·split at hx
  ·obtain ⟨h0, e, h1, h2⟩ := hx
   exact ⟨e, ⟨h0, e, h1, rfl⟩, h2⟩
  ·exact hx.elim
 ·split at hx
  ·exact ⟨_, ⟨hx.1, rfl⟩, hx.2⟩
  ·exact hx.elim
theorem opG_cut {c : Bool} {g : Operand → AV} {K : Eff → Prop} {op : Op} (hx : opG P c g hT m K op) : ∃ e, opG P c g hT m (· = e) op ∧ K e := by
 unfold opG at hx ⊢
 split at hx
 ·split at hx
  ·rcases hx with ⟨r, h1, h2⟩ | ⟨h1, h2⟩
   ·exact ⟨_, .inl ⟨r, h1, rfl⟩, h2⟩
   ·cases c with
    | true =>
     obtain ⟨h3, e, h4, h5⟩ := h1 rfl
     exact ⟨e, .inr ⟨fun _ => ⟨h3, e, h4, rfl⟩, fun h => by simp at h⟩, h5⟩
    | false => exact ⟨_, .inr ⟨fun h => by simp at h, fun _ => rfl⟩, h2 rfl⟩
  ·exact ⟨_, ⟨hx.1, rfl⟩, hx.2⟩
 ·split at hx
  ·rcases hx with ⟨r, h1, h2⟩ | ⟨h1, h2⟩
   ·exact ⟨_, .inl ⟨r, h1, rfl⟩, h2⟩
   ·cases c with
    | true =>
     obtain ⟨h3, e, h4, h5⟩ := h1 rfl
     exact ⟨e, .inr ⟨fun _ => ⟨h3, e, h4, rfl⟩, fun h => by simp at h⟩, h5⟩
    | false => exact ⟨_, .inr ⟨fun h => by simp at h, fun _ => rfl⟩, h2 rfl⟩
  ·exact ⟨_, ⟨hx.1, rfl⟩, hx.2⟩
 ·split at hx
  ·split at hx
   ·exact ⟨_, ⟨hx.1, rfl⟩, hx.2⟩
   ·exact ⟨_, ⟨hx.1, rfl⟩, hx.2⟩
  ·exact ⟨_, ⟨hx.1, rfl⟩, hx.2⟩
 ·split at hx
  ·exact ⟨_, ⟨hx.1, rfl⟩, hx.2⟩
  ·cases c with
   | true => exact ⟨_, ⟨fun hc => ⟨(hx.1 hc).1, (hx.1 hc).2.1, rfl⟩, fun h => by simp at h⟩, (hx.1 rfl).2.2⟩
   | false => exact ⟨_, ⟨fun h => by simp at h, fun _ => rfl⟩, hx.2 rfl⟩
  ·exact ⟨_, ⟨hx.1, rfl⟩, hx.2⟩
theorem opWF_cut {ops : Array Oper} {o : Oper} {f : Nat → AV} {K : Eff → Prop} (hx : opWF P ops o f hT m K) : ∃ e, opWF P ops o f hT m (· = e) ∧ K e := by
 unfold opWF at hx ⊢
 split at hx
 ·exact opX_cut hx
 ·split at hx
  ·exact hx.elim
  ·exact opG_cut hx
end
def updT (f : Nat → AV) (d : Option Tmp) (v : AV) (t : Nat) : AV := if d = some t then v else f t
def tS (f : Nat → AV) (ds : List (Option Tmp)) (es : List Eff) (L : Nat → Bool) : Nat → Nat → AV
 | 0 => f
 | k + 1 => match L k, es[k]? with
  | true, some e => updT (tS f ds es L k) (ds.getD k none) e.val
  | _, _ => tS f ds es L k
def hS (h : Nat → Chunk) (es : List Eff) (L : Nat → Bool) : Nat → Nat → Chunk
 | 0 => h
 | k + 1 => match L k, es[k]? with
  | true, some e => upd (hS h es L k) e.ups
  | _, _ => hS h es L k
theorem upd_in {h : Nat → Chunk} : ∀ {ups : List (Nat × Chunk)} {i : Nat}, i ∉ ups.map (·.1) → upd h ups i = h i
 | [], _, _ => rfl
 | (k, c) :: r, i, hn => by
  simp only [List.map_cons, List.mem_cons, not_or] at hn
  simp only [upd]
  rw [if_neg (Ne.symm hn.1)]
  exact upd_in hn.2
theorem upd_same {h h' : Nat → Chunk} : ∀ {ups : List (Nat × Chunk)} {i : Nat}, i ∈ ups.map (·.1) → upd h ups i = upd h' ups i
 | [], _, hn => by simp at hn
 | (k, c) :: r, i, hn => by
  simp only [upd]
  by_cases e : k = i
  ·rw [if_pos e, if_pos e]
  ·rw [if_neg e, if_neg e]
   simp only [List.map_cons, List.mem_cons] at hn
   exact upd_same (hn.resolve_left (Ne.symm e))
section
variable {f : Nat → AV} {h : Nat → Chunk} {ds : List (Option Tmp)} {es : List Eff}
theorem tS_agree {L : Nat → Bool} {t i : Nat} (hlt : ∀ k, k < i → ds.getD k none = some t → L k = true) : ∀ n, i ≤ n → (∀ k, i ≤ k → k < n → ds.getD k none = some t → L k = false) → tS f ds es L n t = tS f ds es (fun _ => true) i t := by
 have lo : ∀ k, k ≤ i → tS f ds es L k t = tS f ds es (fun _ => true) k t := by
  intro k
  induction k with
  | zero => intro _; rfl
  | succ k ih =>
   intro hk
   have ih := ih (by omega)
   simp only [tS]
   cases hL : L k with
   | true =>
    cases he : es[k]? with
    | none => exact ih
    | some e => simp only [updT]; rw [ih]
   | false =>
    have hd : ds.getD k none ≠ some t := fun h => by have := hlt k (by omega) h; rw [hL] at this; simp at this
    cases he : es[k]? with
    | none => exact ih
    | some e => simp only [updT]; rw [if_neg hd]; exact ih
 intro n
 induction n with
 | zero => intro hi _; have : i = 0 := by omega
           subst this; rfl
 | succ n ih =>
  intro hi hgt
  by_cases e : i = n + 1
  ·subst e; exact lo _ (Nat.le_refl _)
  ·have ih := ih (by omega) (fun k h1 h2 => hgt k h1 (by omega))
   simp only [tS]
   cases hL : L n with
   | false => exact ih
   | true =>
    have hd : ds.getD n none ≠ some t := fun h => by have := hgt n (by omega) (by omega) h; rw [hL] at this; simp at this
    cases he : es[n]? with
    | none => exact ih
    | some e => simp only [updT]; rw [if_neg hd]; exact ih
theorem hS_agree {L : Nat → Bool} {t i : Nat} (hlt : ∀ k e, k < i → es[k]? = some e → t ∈ e.ups.map (·.1) → L k = true) : ∀ n, i ≤ n → (∀ k e, i ≤ k → k < n → es[k]? = some e → t ∈ e.ups.map (·.1) → L k = false) → hS h es L n t = hS h es (fun _ => true) i t := by
 have lo : ∀ k, k ≤ i → hS h es L k t = hS h es (fun _ => true) k t := by
  intro k
  induction k with
  | zero => intro _; rfl
  | succ k ih =>
   intro hk
   have ih := ih (by omega)
   simp only [hS]
   cases he : es[k]? with
   | none => cases hL : L k <;> exact ih
   | some e =>
    by_cases hd : t ∈ e.ups.map (·.1)
    ·rw [hlt k e (by omega) he hd]
     exact upd_same hd
    ·cases hL : L k with
     | true => simp only [upd_in hd]; exact ih
     | false => simp only [upd_in hd]; exact ih
 intro n
 induction n with
 | zero => intro hi _; have : i = 0 := by omega
           subst this; rfl
 | succ n ih =>
  intro hi hgt
  by_cases e : i = n + 1
  ·subst e; exact lo _ (Nat.le_refl _)
  ·have ih := ih (by omega) (fun k e h1 h2 => hgt k e h1 (by omega))
   simp only [hS]
   cases he : es[n]? with
   | none => cases hL : L n <;> exact ih
   | some e =>
    cases hL : L n with
    | false => exact ih
    | true =>
     have hd : t ∉ e.ups.map (·.1) := fun h => by have := hgt n e (by omega) (by omega) he h; rw [hL] at this; simp at this
     simp only [upd_in hd]; exact ih
def setL (L : Nat → Bool) (i : Nat) (k : Nat) : Bool := if k = i then true else L k
theorem tS_insert {L : Nat → Bool} {i : Nat} (hi : L i = false) {e : Eff} (he : es[i]? = some e) : ∀ n, i < n → (∀ k t, i < k → k < n → L k = true → ds.getD k none = some t → ds.getD i none ≠ some t) → tS f ds es (setL L i) n = updT (tS f ds es L n) (ds.getD i none) e.val := by
 have lo : ∀ k, k ≤ i → tS f ds es (setL L i) k = tS f ds es L k := by
  intro k
  induction k with
  | zero => intro _; rfl
  | succ k ih =>
   intro hk
   have e1 : setL L i k = L k := by unfold setL; rw [if_neg (by omega)]
   simp only [tS, e1, ih (by omega)]
 intro n
 induction n with
 | zero => intro h; omega
 | succ n ih =>
  intro hn hd
  by_cases e' : i = n
  ·subst e'
   have e1 : setL L i i = true := by unfold setL; rw [if_pos rfl]
   simp only [tS, e1, hi, he, lo i (Nat.le_refl _)]
  ·have ih := ih (by omega) (fun k t h1 h2 => hd k t h1 (by omega))
   have e1 : setL L i n = L n := by unfold setL; rw [if_neg (by omega)]
   simp only [tS, e1, ih]
   cases hL : L n with
   | false => rfl
   | true =>
    cases hen : es[n]? with
    | none => rfl
    | some e2 =>
     funext t
     simp only [updT]
     by_cases h1 : ds.getD n none = some t
     ·rw [if_pos h1, if_pos h1, if_neg (hd n t (by omega) (by omega) hL h1)]
     ·rw [if_neg h1, if_neg h1]
theorem hS_insert {L : Nat → Bool} {i : Nat} (hi : L i = false) {e : Eff} (he : es[i]? = some e) : ∀ n, i < n → (∀ k e2 t, i < k → k < n → L k = true → es[k]? = some e2 → t ∈ e2.ups.map (·.1) → t ∉ e.ups.map (·.1)) → hS h es (setL L i) n = upd (hS h es L n) e.ups := by
 have lo : ∀ k, k ≤ i → hS h es (setL L i) k = hS h es L k := by
  intro k
  induction k with
  | zero => intro _; rfl
  | succ k ih =>
   intro hk
   have e1 : setL L i k = L k := by unfold setL; rw [if_neg (by omega)]
   simp only [hS, e1, ih (by omega)]
 intro n
 induction n with
 | zero => intro h; omega
 | succ n ih =>
  intro hn hd
  by_cases e' : i = n
  ·subst e'
   have e1 : setL L i i = true := by unfold setL; rw [if_pos rfl]
   simp only [hS, e1, hi, he, lo i (Nat.le_refl _)]
  ·have ih := ih (by omega) (fun k e2 t h1 h2 => hd k e2 t h1 (by omega))
   have e1 : setL L i n = L n := by unfold setL; rw [if_neg (by omega)]
   simp only [hS, e1, ih]
   cases hL : L n with
   | false => rfl
   | true =>
    cases hen : es[n]? with
    | none => rfl
    | some e2 =>
     funext t
     show upd (upd (hS h es L n) e.ups) e2.ups t = upd (upd (hS h es L n) e2.ups) e.ups t
     by_cases h1 : t ∈ e2.ups.map (·.1)
     ·have h2 := hd n e2 t (by omega) (by omega) hL hen h1
      rw [upd_in (h := upd (hS h es L n) e2.ups) h2]
      exact upd_same h1
     ·rw [upd_in h1]
      by_cases h2 : t ∈ e.ups.map (·.1)
      ·exact upd_same h2
      ·rw [upd_in h2, upd_in h2, upd_in h1]
end
theorem hS_stay {h : Nat → Chunk} {es : List Eff} {L : Nat → Bool} {t i : Nat} : ∀ n, i ≤ n → (∀ k e, i ≤ k → k < n → es[k]? = some e → t ∈ e.ups.map (·.1) → L k = false) → hS h es L n t = hS h es L i t := by
 intro n
 induction n with
 | zero => intro hi _; have : i = 0 := by omega
           subst this; rfl
 | succ n ih =>
  intro hi hgt
  by_cases e : i = n + 1
  ·subst e; rfl
  ·have ih := ih (by omega) (fun k e h1 h2 => hgt k e h1 (by omega))
   simp only [hS]
   cases he : es[n]? with
   | none => cases hL : L n <;> exact ih
   | some e =>
    cases hL : L n with
    | false => exact ih
    | true =>
     have hd : t ∉ e.ups.map (·.1) := fun h => by have := hgt n e (by omega) (by omega) he h; rw [hL] at this; simp at this
     simp only [upd_in hd]; exact ih
theorem mget_zero (k l : List Int) : ∀ es : List (List Int × Int), mget k (es ++ [(l, 0)]) = mget k es
 | [] => by rw [List.nil_append, mget_cons, mget_nil]; split <;> rfl
 | (k', v) :: r => by rw [List.cons_append, mget_cons, mget_cons, mget_zero k l r]
theorem mget_open (k l : List Int) (es : List (List Int × Int)) : mget k (mopen l es) = mget k es := by
 unfold mopen
 split
 ·rfl
 ·exact mget_zero k l es
def OpenC (c c' : Chunk) : Prop := c' = c ∨ ∃ a n es l, c = .mp a n es ∧ c' = .mp a n (mopen l es)
theorem ex4_lk {P : Program} {g : Operand → AV} {h : Nat → Chunk} {m : Nat} {t : TypeId} {x k : Operand} {ok : Bool} : ex4 P g h m (.lookup t x k ok) = ex3 P g h m (.lookup t x k ok) := by
 unfold ex4
 cases ex3 P g h m (.lookup t x k ok) <;> rfl
theorem ex4_me {P : Program} {g : Operand → AV} {h : Nat → Chunk} {m : Nat} {t : TypeId} {x k : Operand} : ex4 P g h m (.mapEntry t x k) = ex3 P g h m (.mapEntry t x k) := by
 unfold ex4
 cases ex3 P g h m (.mapEntry t x k) <;> rfl
theorem ex3_open {P : Program} {g : Operand → AV} {h h' : Nat → Chunk} {m : Nat} {t : TypeId} {x k : Operand} (H : ∀ i, OpenC (h i) (h' i)) : ex3 P g h' m (.lookup t x k false) = ex3 P g h m (.lookup t x k false) := by
 simp only [ex3, mapAV]
 cases ty P t with
 | none => rfl
 | some d =>
  obtain ⟨kd, _, _, _, _⟩ := d
  cases kd <;> try rfl
  cases g x <;> try rfl
  rename_i id
  rcases H id with e | ⟨a, n, es, l, e1, e2⟩
  ·simp only [e]
  ·simp only [e1, e2]
   cases kty P _ <;> cases keyA (g k) <;> try rfl
   rename_i p q
   obtain ⟨_, _⟩ := p
   obtain ⟨_, _⟩ := q
   simp only
   generalize (a == _ && a == _ && Nat.beq n _ && Nat.beq n _ && intTy P _) = b
   cases b <;> simp [mget_open]
theorem opWF_open {P : Program} {ops : Array Oper} {o : Oper} {f : Nat → AV} {h h' : Nat → Chunk} {m : Nat} {K : Eff → Prop} (ho : isLk o = true) (H : ∀ i, OpenC (h i) (h' i)) (hx : opWF P ops o f h m K) : opWF P ops o f h' m K := by
 unfold isLk at ho
 rw [Bool.and_eq_true] at ho
 obtain ⟨h1, h2⟩ := ho
 have hg : o.guard = none := by simpa using h1
 split at h2
 ·rename_i t x k hop
  unfold opWF at hx ⊢
  rw [hg] at hx ⊢
  simp only [opX, hop, ex4_lk] at hx ⊢
  rw [ex3_open H]; exact hx
 ·simp at h2
theorem entry_ups {P : Program} {ops : Array Oper} {o : Oper} {f : Nat → AV} {h : Nat → Chunk} {m : Nat} {e : Eff} (ho : isEn o = true) (hx : opWF P ops o f h m (· = e)) : ∃ id a n es l, h id = .mp a n es ∧ e.ups = [(id, .mp a n (mopen l es))] := by
 unfold isEn at ho
 rw [Bool.and_eq_true] at ho
 obtain ⟨h1, h2⟩ := ho
 have hg : o.guard = none := by simpa using h1
 split at h2
 ·rename_i t x k hop
  unfold opWF at hx
  rw [hg] at hx
  simp only [opX, hop, ex4_me, ex3] at hx
  split at hx
  ·rename_i φ e' he
   obtain ⟨_, rfl⟩ := hx
   split at he
   ·rename_i id a n es l hm
    simp only [Option.some.injEq, Prod.mk.injEq] at he
    obtain ⟨_, rfl⟩ := he
    refine ⟨id, a, n, es, l, ?_, rfl⟩
    unfold mapAV at hm
    split at hm
    ·split at hm
     ·split at hm
      ·rename_i a' n' es' hid
       split at hm
       ·split at hm
        ·simp only [Option.some.injEq, Prod.mk.injEq] at hm
         obtain ⟨rfl, rfl, rfl, rfl, rfl⟩ := hm
         exact hid
        ·simp at hm
       ·simp at hm
      ·simp at hm
     ·simp at hm
    ·simp at hm
   ·simp at he
  ·exact hx.elim
 ·simp at h2
def Closed (ops : Array Oper) (E : Nat → Prop) : Prop := ∀ i o, ops[i]? = some o → E i → ∀ e ∈ o.after, Region.binds .any e = true → E e.on
theorem testBit_edge {ms : List Nat} : ∀ {es : List Edge} {j : Nat}, (edgeMask ms es).testBit j = true → ∃ e ∈ es, Region.binds .any e = true ∧ (j = e.on ∨ (ms.getD e.on 0).testBit j = true)
 | [], j, h => by simp [edgeMask] at h
 | e :: r, j, h => by
  simp only [edgeMask] at h
  split at h
  ·rename_i hb
   rw [Nat.testBit_or, Nat.testBit_or, Bool.or_eq_true, Bool.or_eq_true] at h
   rcases h with (h | h) | h
   ·refine ⟨e, by simp, hb, .inl ?_⟩
    rw [Nat.one_shiftLeft, Nat.testBit_two_pow] at h
    exact (of_decide_eq_true h).symm
   ·exact ⟨e, by simp, hb, .inr h⟩
   ·obtain ⟨e', h1, h2⟩ := testBit_edge h
    exact ⟨e', by simp [h1], h2⟩
  ·obtain ⟨e', h1, h2⟩ := testBit_edge h
   exact ⟨e', by simp [h1], h2⟩
theorem masks_spec {ops : Array Oper} {E : Nat → Prop} (hE : Closed ops E) : ∀ (l : List Oper) (ms : List Nat), ops.toList.drop ms.length = l → (∀ i j, (ms.getD i 0).testBit j = true → E i → E j) → ∀ i j, ((masks l ms).getD i 0).testBit j = true → E i → E j
 | [], ms, _, hm => by simpa only [masks] using hm
 | o :: r, ms, hd, hm => by
  simp only [masks]
  refine masks_spec hE r _ ?_ ?_
  ·simp only [List.length_append, List.length_singleton]
   rw [← List.drop_drop, hd]; rfl
  ·intro i j hb hi
   have ho : ops[ms.length]? = some o := by
    have : (ops.toList.drop ms.length)[0]? = some o := by rw [hd]; rfl
    rw [List.getElem?_drop] at this
    simpa using this
   rw [List.getD_eq_getElem?_getD] at hb
   by_cases h1 : i < ms.length
   ·rw [List.getElem?_append_left h1, ← List.getD_eq_getElem?_getD] at hb
    exact hm i j hb hi
   ·by_cases h2 : i = ms.length
    ·subst h2
     rw [List.getElem?_append_right (Nat.le_refl _)] at hb
     simp only [Nat.sub_self, List.getElem?_cons_zero, Option.getD_some] at hb
     obtain ⟨e, k1, k2, k3⟩ := testBit_edge hb
     have he := hE _ o ho hi e (by simpa using k1) k2
     rcases k3 with rfl | k3
     ·exact he
     ·exact hm _ _ k3 he
    ·rw [List.getElem?_eq_none (by simp; omega)] at hb
     simp at hb
theorem memN_iff : ∀ {l : List Nat} {i : Nat}, memN l i = true ↔ i ∈ l
 | [], i => by simp [memN]
 | a :: r, i => by
  simp only [memN]
  by_cases h : a = i
  ·simp [h]
  ·rw [if_neg h, memN_iff]; simp [Ne.symm h]
theorem disj_iff {a b : List Nat} (h : disj a b = true) : ∀ x ∈ a, x ∉ b := by
 intro x hx hb
 have := List.all_eq_true.1 h x hx
 rw [memN_iff.2 hb] at this
 simp at this
structure OpAt (P : Program) (nt : Nat) (ops : Array Oper) (n0 : Nat) (f : Nat → AV) (h : Nat → Chunk) (ds : List (Option Tmp)) (es : List Eff) (acc : List (List Nat × List Nat)) (i : Nat) : Prop where
 ok : ∃ o e, ops[i]? = some o ∧ es[i]? = some e ∧ dstOk nt o.dst ∧ ds.getD i none = o.dst ∧ e.fresh ≤ 4 ∧ (fp acc i).2 = e.ups.map (·.1) ∧
  opWF P ops o (tS f ds es (fun _ => true) i) (onlyC (fp acc i).1 (hS h es (fun _ => true) i)) (n0 + 4 * i) (· = e)
theorem look_put (d : Option Tmp) (x : AV) (t : List (Nat × AV)) : look (putO d x t) = updT (look t) d x := by
 funext i
 cases d with
 | none => simp [putO, updT]
 | some d => simp [putO, look, updT]
theorem tS_app {f : Nat → AV} {ds : List (Option Tmp)} {es : List Eff} {L : Nat → Bool} (e : Eff) : ∀ k, k ≤ es.length → tS f ds (es ++ [e]) L k = tS f ds es L k
 | 0, _ => rfl
 | k + 1, h => by
  have h1 : (es ++ [e])[k]? = es[k]? := List.getElem?_append_left (by omega)
  have ih := tS_app (f := f) (ds := ds) (es := es) (L := L) e k (by omega)
  simp only [tS, h1, ih]
theorem hS_app {f : Nat → Chunk} {es : List Eff} {L : Nat → Bool} (e : Eff) : ∀ k, k ≤ es.length → hS f (es ++ [e]) L k = hS f es L k
 | 0, _ => rfl
 | k + 1, h => by
  have h1 : (es ++ [e])[k]? = es[k]? := List.getElem?_append_left (by omega)
  have ih := hS_app (f := f) (es := es) (L := L) e k (by omega)
  simp only [hS, h1, ih]
theorem fp_app {acc : List (List Nat × List Nat)} (x : List Nat × List Nat) {k : Nat} (h : k < acc.length) : fp (acc ++ [x]) k = fp acc k := by
 unfold fp
 rw [List.getD_eq_getElem?_getD, List.getElem?_append_left h, ← List.getD_eq_getElem?_getD]
theorem drawL_out {P : Program} {nt : Nat} {ops : Array Oper} {n0 : Nat} {K : List (List Nat × List Nat) → St → Prop} {f : Nat → AV} {h : Nat → Chunk} : ∀ (l : List Oper) (i : Nat) (s : St) (acc : List (List Nat × List Nat)) (es : List Eff),
 ops.toList.drop i = l → i ≤ ops.size → es.length = i → acc.length = i → look s.t = tS f (ops.toList.map (·.dst)) es (fun _ => true) i → lookC s.h = hS h es (fun _ => true) i → (∀ k, k < i → OpAt P nt ops n0 f h (ops.toList.map (·.dst)) es acc k) →
 drawL P nt ops n0 i l acc K s → ∃ es' acc' s', es'.length = ops.size ∧ s'.n = s.n ∧ look s'.t = tS f (ops.toList.map (·.dst)) es' (fun _ => true) ops.size ∧ lookC s'.h = hS h es' (fun _ => true) ops.size ∧
  (∀ k, k < ops.size → OpAt P nt ops n0 f h (ops.toList.map (·.dst)) es' acc' k) ∧ K acc' s'
 | [], i, ⟨st, sh, sn⟩, acc, es, hl, hi, h1, h2, h3, h4, h5, hx => by
  have hsz : i = ops.size := by
   have := congrArg List.length hl
   simp at this; omega
  subst hsz
  exact ⟨es, acc, ⟨st, sh, sn⟩, h1, rfl, h3, h4, h5, hx⟩
 | o :: r, i, ⟨st, sh, sn⟩, acc, es, hl, hi, h1, h2, h3, h4, h5, hx => by
  have ho' : ops.toList[i]? = some o := by
   have : (ops.toList.drop i)[0]? = some o := by rw [hl]; rfl
   rw [List.getElem?_drop] at this
   simpa using this
  have ho : ops[i]? = some o := by simpa using ho'
  have hlt : i < ops.size := (Array.getElem?_eq_some_iff.1 ho).1
  simp only [drawL] at hx
  obtain ⟨hd, hx⟩ := hx
  obtain ⟨e, k1, k23⟩ := opWF_cut hx
  have k2 : e.fresh ≤ 4 := by cases e; exact k23.1
  have k3 : drawL P nt ops n0 (i + 1) r (acc ++ [(touch (look st) sh o, e.ups.map (·.1))]) K ⟨putO o.dst e.val st, e.ups ++ sh, sn⟩ := by cases e; exact k23.2
  have hdst : (ops.toList.map (·.dst)).getD i none = o.dst := by
   rw [List.getD_eq_getElem?_getD, List.getElem?_map, ho']; rfl
  have hei : (es ++ [e])[i]? = some e := by rw [List.getElem?_append_right (by omega), h1]; simp
  refine drawL_out r (i + 1) ⟨putO o.dst e.val st, e.ups ++ sh, sn⟩ _ (es ++ [e]) ?_ hlt ?_ ?_ ?_ ?_ ?_ k3
  ·rw [← List.drop_drop, hl]; rfl
  ·rw [List.length_append, h1]; rfl
  ·rw [List.length_append, h2]; rfl
  ·have e1 := tS_app (f := f) (ds := ops.toList.map (·.dst)) (es := es) (L := fun _ => true) e i (by omega)
   simp only [tS, hei, hdst, e1, ← h3]
   exact look_put _ _ _
  ·have e1 := hS_app (f := h) (es := es) (L := fun _ => true) e i (by omega)
   simp only [hS, hei, e1, ← h4]
   exact (upd_look _ _).symm
  ·intro k hk
   by_cases hki : k < i
   ·obtain ⟨o2, e2, q1, q2, q3, q4, q5, q6, q7⟩ := (h5 k hki).ok
    refine ⟨o2, e2, q1, by rw [List.getElem?_append_left (by omega)]; exact q2, q3, q4, q5, by rw [fp_app _ (by omega)]; exact q6, ?_⟩
    rw [fp_app _ (by omega), tS_app e k (by omega), hS_app e k (by omega)]
    exact q7
   ·obtain rfl : k = i := by omega
    have hfp : fp (acc ++ [(touch (look st) sh o, e.ups.map (·.1))]) k = (touch (look st) sh o, e.ups.map (·.1)) := by
     unfold fp
     rw [List.getD_eq_getElem?_getD, List.getElem?_append_right (by omega), h2]; simp
    refine ⟨o, e, ho, hei, hd, hdst, k2, by rw [hfp], ?_⟩
    rw [hfp, tS_app e k (by omega), hS_app e k (by omega), ← h3, ← h4]
    exact k1
theorem MemOk.weakU {W : World} {N U U' F : Nat → Prop} {β : Nat → Option Bind} {h : Nat → Chunk} {w : World} (M : MemOk W N U F β h w) (hU : ∀ i, U i → U' i) : MemOk W N U' F β h w := by
 refine ⟨M.size, M.os, M.tape, M.output, M.frame, M.fin, fun id bd hb => hU _ (M.used id bd hb), fun id hd => ?_, M.dis, M.off⟩
 obtain ⟨bd, hb, hc⟩ := M.ch id hd
 exact ⟨bd, hb, hc.mono (E := ⟨hU, fun b hb => ⟨hb, rfl⟩, fun _ _ _ h => ⟨_, h⟩⟩) (fun g _ => rfl)⟩
theorem MemOk.drew {W : World} {N U F : Nat → Prop} {β : Nat → Option Bind} {h : Nat → Chunk} {w w' : World} (M : MemOk W N U F β h w) (hh : w'.heap = w.heap) (ho : w'.os = w.os) (ht : w'.tape = w.tape) (hp : w'.output = w.output) : MemOk W N U F β h w' := by
 have E : Ext U F β w U F β w' := ⟨fun _ h => h, fun b hb => ⟨hb, by rw [hh]⟩, fun _ _ _ h => ⟨_, h⟩⟩
 refine ⟨by rw [hh]; exact M.size, ho.trans M.os, ht.trans M.tape, hp.trans M.output, fun b hb hn => by rw [hh]; exact M.frame b hb hn, fun b hb => by rw [hh]; exact M.fin b hb, M.used, fun id hd => ?_, M.dis, fun i bd b hb hbb => by rw [hh]; exact M.off i bd b hb hbb⟩
 obtain ⟨bd, hb, hc⟩ := M.ch id hd
 exact ⟨bd, hb, hc.mono E (fun g _ => by rw [hh])⟩
structure Mid (H : Hist) (n0 n : Nat) (f : Nat → AV) (h : Nat → Chunk) (ds : List (Option Tmp)) (es : List Eff) (L : Nat → Bool) (a : Act) (w : World) : Prop where
 ok : ∃ F β, MemOk H.W H.N (fun i => i < n0 ∨ ∃ k, k < n ∧ L k = true ∧ n0 + 4 * k ≤ i ∧ i < n0 + 4 * k + 4) F β (hS h es L n) w ∧
  (∀ t, RelA (fun i => i < n0 ∨ ∃ k, k < n ∧ L k = true ∧ n0 + 4 * k ≤ i ∧ i < n0 + 4 * k + 4) w F β (tS f ds es L n t) (a.tmps.getD t undef)) ∧
  (∀ b, H.F b → F b) ∧ (∀ b, F b → H.F b ∨ H.W.heap.size ≤ b ∨ H.N b) ∧ (∀ i bd, i < H.k → β i = some bd → ∃ bs, H.β i = some ⟨bd.v, bd.b, bd.n, bd.sz, bs⟩) ∧ Dfr F H.W.heap.size a.defers w
 nt : a.tmps.size = H.nt
theorem tmps_put {U F : Nat → Prop} {β : Nat → Option Bind} {w : World} {a : Act} {f : Nat → AV} {nt : Nat} (ht : ∀ t, RelA U w F β (f t) (a.tmps.getD t undef)) (hnt : a.tmps.size = nt) {d : Option Tmp} (hd : dstOk nt d) {x : AV} {v : Value} (hx : RelA U w F β x v) (t : Nat) : RelA U w F β (updT f d x t) ((a.put d v).tmps.getD t undef) := by
 cases d with
 | none => simpa [updT, Act.put] using ht t
 | some d =>
  simp only [updT, Act.put, Option.some.injEq]
  by_cases h1 : d = t
  ·subst h1
   rw [if_pos rfl]
   have : d < a.tmps.size := by rw [hnt]; exact hd
   rw [Array.getD_eq_getD_getElem?, Array.getElem?_setIfInBounds_self, if_pos this]
   exact hx
  ·rw [if_neg h1, Array.getD_eq_getD_getElem?, Array.getElem?_setIfInBounds_ne h1, ← Array.getD_eq_getD_getElem?]
   exact ht t
theorem put_size (a : Act) (d : Option Tmp) (v : Value) : (a.put d v).tmps.size = a.tmps.size ∧ (a.put d v).defers = a.defers := by
 cases d <;> simp [Act.put]
theorem draw_any {P : Program} {H : Hist} {s : St} {F : Nat → Prop} {β : Nat → Option Bind} {a : Act} {w : World} {ops : Array Oper} {Q : Exit → St → Prop} (hx : DrawG P H.nt ops (Q .normal) s) (C : Conc H s F β a w) :
 wpAny P .any ops (Post H Q) ops.size (Array.replicate ops.size false) a { w with drawn := w.drawn + 1 } := by
 obtain ⟨es, acc, s', hel, hn, ht, hh, hat, hok, hK⟩ := drawL_out (f := look s.t) (h := lookC s.h) ops.toList 0 s [] [] (by simp) (Nat.zero_le _) rfl rfl rfl rfl (fun k hk => by omega) hx
 -- what the check has shown
 unfold drawOk at hok
 simp only [Bool.and_eq_true] at hok
 obtain ⟨hedge, hpair⟩ := hok
 have edge : ∀ k o, ops[k]? = some o → ∀ e ∈ o.after, Region.binds .any e = true → e.on < k := by
  intro k o ho e he hb
  have hk : k < ops.size := (Array.getElem?_eq_some_iff.1 ho).1
  have := List.all_eq_true.1 hedge k (by simpa using hk)
  rw [ho] at this
  have := List.all_eq_true.1 this e (by simpa using he)
  rw [hb] at this
  simpa using this
 have pair : ∀ i j, i < j → j < ops.size → pairOk ops (masks ops.toList []) acc i j = true := by
  intro i j hij hj
  have := List.all_eq_true.1 hpair j (by simpa using hj)
  exact List.all_eq_true.1 this i (by simpa using hij)
 let n := ops.size
 let ds := ops.toList.map (·.dst)
 -- the induction
 have key : ∀ (fuel : Nat) (listed : Array Bool) (a : Act) (w : World), listed.size = n → Closed ops (fun i => listed.getD i false = true) → ((List.range n).filter fun i => !listed.getD i false).length = fuel →
  Mid H s.n n (look s.t) (lookC s.h) ds es (fun i => listed.getD i false) a w → wpAny P .any ops (Post H Q) fuel listed a w := by
  intro fuel
  have allDone : ∀ (listed : Array Bool) (a : Act) (w : World), (∀ i, i < n → listed.getD i false = true) → Mid H s.n n (look s.t) (lookC s.h) ds es (fun i => listed.getD i false) a w → Post H Q .normal a w := by
   intro listed a w hall M
   obtain ⟨F, β, M1, M2, M3, M4, M5, M6⟩ := M.ok
   have e1 : ∀ t, tS (look s.t) ds es (fun i => listed.getD i false) n t = look s'.t t := by
    intro t
    rw [ht]
    exact tS_agree (fun k hk _ => hall k hk) n (Nat.le_refl _) (fun k h1 h2 => by omega)
   have e2 : hS (lookC s.h) es (fun i => listed.getD i false) n = lookC s'.h := by
    funext t
    rw [hh]
    exact hS_agree (fun k e hk _ _ => hall k hk) n (Nat.le_refl _) (fun k e h1 h2 => by omega)
   rw [e2] at M1
   have hU : ∀ i, (i < s.n ∨ ∃ k, k < n ∧ listed.getD k false = true ∧ s.n + 4 * k ≤ i ∧ i < s.n + 4 * k + 4) → i < s.n + 4 * ops.size := by
    rintro i (h | ⟨k, h1, _, h2, h3⟩)
    ·omega
    ·have : n = ops.size := rfl
     omega
   refine ⟨⟨s'.t, s'.h, s.n + 4 * ops.size⟩, F, β, ⟨fun t => ?_, M1.weakU hU, M.nt, M6, M3, M4, M5, Nat.le_trans C.k (Nat.le_add_right _ _)⟩, hK⟩
   have := M2 t
   rw [e1 t] at this
   exact RelA.mono ⟨hU, fun b hb => ⟨hb, rfl⟩, fun _ _ _ h => ⟨_, h⟩⟩ _ _ this
  induction fuel with
  | zero =>
   intro listed a w hsz hcl hf M
   have hall : ∀ i, i < n → listed.getD i false = true := by
    intro i hi
    have := List.eq_nil_of_length_eq_zero hf
    rw [List.filter_eq_nil_iff] at this
    have := this i (by simpa using hi)
    simpa using this
   refine ⟨?_, allDone listed a w hall M⟩
   apply List.eq_nil_iff_forall_not_mem.2
   intro j hj
   obtain ⟨h1, o, ho, _⟩ := mem_ready.1 hj
   have hjn : j < n := (Array.getElem?_eq_some_iff.1 ho).1
   have := hall j hjn
   rw [Array.getD_eq_getD_getElem?] at this h1
   have hjs : j < listed.size := by omega
   rw [Array.getElem?_eq_getElem hjs] at this h1
   simp only [Option.getD_some] at this h1
   rw [this] at h1; simp at h1
  | succ fuel ih =>
   intro listed a w hsz hcl hf M
   have gd : ∀ i, i < n → listed.getD i true = listed.getD i false := by
    intro i hi
    have hjs : i < listed.size := by omega
    rw [Array.getD_eq_getD_getElem?, Array.getD_eq_getD_getElem?, Array.getElem?_eq_getElem hjs]; rfl
   refine ⟨fun hr => ?_, fun i hi => ?_⟩
   · -- nobody may come up: all are done
    refine allDone listed a w ?_ M
    intro i
    induction i using Nat.strongRecOn with
    | _ i ihi =>
     intro hi
     cases hLi : listed.getD i false with
     | true => rfl
     | false =>
      exfalso
      have ho : ops[i]? = some ops[i] := Array.getElem?_eq_getElem hi
      have hm : i ∈ Region.ready .any ops listed := mem_ready.2 ⟨by rw [gd i hi]; exact hLi, _, ho, fun e he hb => ihi e.on (edge i _ ho e he hb) (by have := edge i _ ho e he hb; omega)⟩
      rw [hr] at hm
      simp at hm
   · -- number i comes up
    obtain ⟨hun, oi, hoi, hpre⟩ := mem_ready.1 hi
    have hin : i < n := (Array.getElem?_eq_some_iff.1 hoi).1
    rw [gd i hin] at hun
    obtain ⟨F, β, M1, M2, M3, M4, M5, M6⟩ := M.ok
    obtain ⟨o, e, q1, q2, q3, q4, q5, q6, q7⟩ := (hat i hin).ok
    rw [hoi] at q1
    cases q1
    -- those that are ordered
    have hcl' : Closed ops (fun k => listed.getD k false = true ∨ k = i) := by
     intro k ok hk hE e' he' hb'
     rcases hE with hE | rfl
     ·exact .inl (hcl k ok hk hE e' he' hb')
     ·rw [hoi] at hk; cases hk
      exact .inl (hpre e' he' hb')
    have before : ∀ k, k < i → ((masks ops.toList []).getD i 0).testBit k = true → listed.getD k false = true := by
     intro k hk hb
     have := masks_spec hcl' ops.toList [] (by simp) (by intro i j h; simp at h) i k hb (.inr rfl)
     rcases this with h | h
     ·exact h
     ·omega
    have after : ∀ k, i < k → listed.getD k false = true → ((masks ops.toList []).getD k 0).testBit i = true → False := by
     intro k hk hL hb
     have := masks_spec hcl ops.toList [] (by simp) (by intro i j h; simp at h) k i hb hL
     rw [hun] at this; simp at this
    have apart_lt : ∀ k ok, k < i → ops[k]? = some ok → listed.getD k false = false → Oper.apart ops ok oi = true ∧ disj (fp acc k).2 ((fp acc i).1 ++ (fp acc i).2) = true := by
     intro k ok hk hok hL
     have := pair k i hk hin
     unfold pairOk at this
     rw [Bool.or_eq_true] at this
     rcases this with h | h
     ·have := before k hk h; rw [hL] at this; simp at this
     ·simp only [hok, hoi, Bool.and_eq_true] at h
      exact ⟨h.1.1, h.1.2⟩
    have apart_gt : ∀ k ok, i < k → k < n → ops[k]? = some ok → listed.getD k false = true → Oper.apart ops oi ok = true ∧ disj (fp acc i).2 ((fp acc k).1 ++ (fp acc k).2) = true ∧ (disj (fp acc i).1 (fp acc k).2 = true ∨ lkOk ops acc i k = true) := by
     intro k ok hk hkn hok hL
     have := pair i k hk hkn
     unfold pairOk at this
     rw [Bool.or_eq_true] at this
     rcases this with h | h
     ·exact (after k hk hL h).elim
     ·simp only [hok, hoi, Bool.and_eq_true, Bool.or_eq_true] at h
      exact ⟨h.1.1, h.1.2, h.2⟩
    have dsk : ∀ k t, ds.getD k none = some t → ∃ ok, ops[k]? = some ok ∧ ok.dst = some t ∧ k < n := by
     intro k t hk
     rw [List.getD_eq_getElem?_getD, List.getElem?_map] at hk
     cases ho : ops.toList[k]? with
     | none => rw [ho] at hk; simp at hk
     | some ok =>
      rw [ho] at hk
      have ho' : ops[k]? = some ok := by simpa using ho
      exact ⟨ok, ho', by simpa using hk, (Array.getElem?_eq_some_iff.1 ho').1⟩
    have fpk : ∀ k e2, k < n → es[k]? = some e2 → (fp acc k).2 = e2.ups.map (·.1) := by
     intro k e2 hk he2
     obtain ⟨_, e3, _, p2, _, _, _, p6, _⟩ := (hat k hk).ok
     rw [he2] at p2; cases p2; exact p6
    have opk : ∀ k, k < n → ∃ ok, ops[k]? = some ok := fun k hk => ⟨_, Array.getElem?_eq_getElem hk⟩
    -- the temporaries that it looks at
    have agT : ∀ t ∈ oi.looksAt ops, tS (look s.t) ds es (fun i => listed.getD i false) n t = tS (look s.t) ds es (fun _ => true) i t := by
     intro t htl
     refine tS_agree (fun k hk hd => ?_) n (Nat.le_of_lt hin) (fun k h1 h2 hd => ?_)
     ·obtain ⟨ok, hok, hdk, _⟩ := dsk k t hd
      cases hL : listed.getD k false with
      | true => rfl
      | false => exact ((Oper.apart_spec (apart_lt k ok hk hok hL).1).1 t hdk htl).elim
     ·obtain ⟨ok, hok, hdk, _⟩ := dsk k t hd
      by_cases hki : k = i
      ·subst hki; exact hun
      ·cases hL : listed.getD k false with
       | false => rfl
       | true => exact ((Oper.apart_spec (apart_gt k ok (by omega) h2 hok hL).1).2.2 t hdk htl).elim
    -- the memory that it looks at
    have agH : ∀ t ∈ (fp acc i).1, hS (lookC s.h) es (fun i => listed.getD i false) n t = hS (lookC s.h) es (fun _ => true) i t ∨ (isLk oi = true ∧ OpenC (hS (lookC s.h) es (fun _ => true) i t) (hS (lookC s.h) es (fun i => listed.getD i false) n t)) := by
     intro t htl
     by_cases hex : ∃ k e2, i < k ∧ k < n ∧ es[k]? = some e2 ∧ t ∈ e2.ups.map (·.1) ∧ listed.getD k false = true
     ·obtain ⟨k, e2, hik, hkn, he2, htk, hLk⟩ := hex
      have lk : ∀ k e2, i < k → k < n → es[k]? = some e2 → t ∈ e2.ups.map (·.1) → listed.getD k false = true → lkOk ops acc i k = true := by
       intro k e2 hik hkn he2 htk hLk
       obtain ⟨ok, hok⟩ := opk k hkn
       rcases (apart_gt k ok hik hkn hok hLk).2.2 with h | h
       ·exact (disj_iff h t htl (by rw [fpk k e2 hkn he2]; exact htk)).elim
       ·exact h
      have lkk := lk k e2 hik hkn he2 htk hLk
      obtain ⟨ok, hok⟩ := opk k hkn
      have mid : ∀ k m e3, lkOk ops acc i k = true → i < m → m < k → m < n → es[m]? = some e3 → t ∉ e3.ups.map (·.1) := by
       intro k m e3 hl h1 h2 h3 h4 h5
       unfold lkOk at hl
       rw [Bool.and_eq_true] at hl
       have := List.all_eq_true.1 hl.2 m (by simpa using h2)
       rw [Bool.or_eq_true] at this
       rcases this with h | h
       ·have := Nat.le_of_ble_eq_true h; omega
       ·exact disj_iff h t htl (by rw [fpk m e3 h3 h4]; exact h5)
      have uniq : ∀ k' e3, i < k' → k' < n → es[k']? = some e3 → t ∈ e3.ups.map (·.1) → listed.getD k' false = true → k' = k := by
       intro k' e3 h1 h2 h3 h4 h5
       rcases Nat.lt_trichotomy k' k with h | h | h
       ·exact (mid k k' e3 lkk h1 h h2 h3 h4).elim
       ·exact h
       ·exact (mid k' k e2 (lk k' e3 h1 h2 h3 h4 h5) hik h hkn he2 htk).elim
      unfold lkOk at lkk
      rw [Bool.and_eq_true, hoi, hok] at lkk
      simp only [Bool.and_eq_true] at lkk
      obtain ⟨⟨isl, isn⟩, _⟩ := lkk
      refine .inr ⟨isl, ?_⟩
      obtain ⟨ok', e3, p1, p2, _, _, _, p6, p7⟩ := (hat k hkn).ok
      rw [hok] at p1; cases p1
      rw [he2] at p2; cases p2
      obtain ⟨id, a', n', es', l, r1, r2⟩ := entry_ups isn p7
      have hti : t = id := by rw [r2] at htk; simpa using htk
      subst hti
      have r3 : hS (lookC s.h) es (fun _ => true) k t = .mp a' n' es' := by
       unfold onlyC at r1
       split at r1
       ·exact r1
       ·simp at r1
      have r4 : hS (lookC s.h) es (fun _ => true) k t = hS (lookC s.h) es (fun _ => true) i t := by
       refine hS_stay k (Nat.le_of_lt hik) (fun m e4 h1 h2 h3 h4 => ?_)
       exfalso
       by_cases hmi : m = i
       ·subst hmi
        have := disj_iff (apart_gt k ok hik hkn hok hLk).2.1 t (by rw [fpk m e4 hin h3]; exact h4)
        exact this (List.mem_append_right _ (by rw [p6]; exact htk))
       ·exact mid k m e4 (lk k e2 hik hkn he2 htk hLk) (by omega) h2 (by omega) h3 h4
      have r5 : hS (lookC s.h) es (fun i => listed.getD i false) n t = hS (lookC s.h) es (fun i => listed.getD i false) (k + 1) t := by
       refine hS_stay n hkn (fun m e4 h1 h2 h3 h4 => ?_)
       cases hLm : listed.getD m false with
       | false => rfl
       | true => have := uniq m e4 (by omega) h2 h3 h4 hLm; omega
      have r6 : hS (lookC s.h) es (fun i => listed.getD i false) (k + 1) t = .mp a' n' (mopen l es') := by
       simp only [hS, hLk, he2, r2, upd, if_true]
      exact .inr ⟨a', n', es', l, r4.symm.trans r3, r5.trans r6⟩
     ·refine .inl (hS_agree (fun k e2 hk he2 hd => ?_) n (Nat.le_of_lt hin) (fun k e2 h1 h2 he2 hd => ?_))
      ·obtain ⟨ok, hok⟩ := opk k (by omega)
       cases hL : listed.getD k false with
       | true => rfl
       | false =>
        have := disj_iff (apart_lt k ok hk hok hL).2 t (by rw [fpk k e2 (by omega) he2]; exact hd)
        exact (this (List.mem_append_left _ htl)).elim
      ·by_cases hki : k = i
       ·subst hki; exact hun
       ·cases hL : listed.getD k false with
        | false => rfl
        | true => exact (hex ⟨k, e2, by omega, h2, he2, hd, hL⟩).elim
    have q7' : opWF P ops oi (tS (look s.t) ds es (fun _ => true) i) (onlyC (fp acc i).1 (hS (lookC s.h) es (fun i => listed.getD i false) n)) (s.n + 4 * i) (· = e) := by
     cases isl : isLk oi with
     | true =>
      refine opWF_open isl (fun t => ?_) q7
      unfold onlyC
      cases hm : memN (fp acc i).1 t with
      | false => exact .inl rfl
      | true =>
       rcases agH t (memN_iff.1 hm) with h | h
       ·exact .inl h
       ·exact h.2
     | false =>
      have : onlyC (fp acc i).1 (hS (lookC s.h) es (fun i => listed.getD i false) n) = onlyC (fp acc i).1 (hS (lookC s.h) es (fun _ => true) i) := by
       funext t
       unfold onlyC
       cases hm : memN (fp acc i).1 t with
       | false => rfl
       | true =>
        rcases agH t (memN_iff.1 hm) with h | h
        ·exact h
        ·rw [isl] at h; simp at h
      rw [this]; exact q7
    have hsub : ∀ id, onlyC (fp acc i).1 (hS (lookC s.h) es (fun i => listed.getD i false) n) id ≠ .dead → onlyC (fp acc i).1 (hS (lookC s.h) es (fun i => listed.getD i false) n) id = hS (lookC s.h) es (fun i => listed.getD i false) n id := by
     intro id hne
     unfold onlyC at hne ⊢
     cases hm : memN (fp acc i).1 id with
     | false => rw [hm] at hne; exact (hne rfl).elim
     | true => rfl
    have hLset : (fun k => (listed.setIfInBounds i true).getD k false) = setL (fun k => listed.getD k false) i := by
     funext k
     unfold setL
     by_cases hki : k = i
     ·subst hki
      have : k < listed.size := by omega
      simp [this]
     ·rw [if_neg hki, getD_set_ne false (Ne.symm hki)]
    have hUnot : ∀ x, s.n + 4 * i ≤ x → x < s.n + 4 * i + 4 → ¬ (x < s.n ∨ ∃ k, k < n ∧ listed.getD k false = true ∧ s.n + 4 * k ≤ x ∧ x < s.n + 4 * k + 4) := by
     rintro x h1 h2 (h | ⟨k, h3, h4, h5, h6⟩)
     ·omega
     ·have : k = i := by omega
      subst this
      rw [hun] at h4; simp at h4
    have fin := opWF_run (a := a) (Q := Post H Q) (next := wpAny P .any ops (Post H Q) fuel (listed.setIfInBounds i true)) (hT := onlyC (fp acc i).1 (hS (lookC s.h) es (fun i => listed.getD i false) n)) M1 hsub (hUnot _ (Nat.le_refl _) (by omega)) (o := oi)
     (f := tS (look s.t) ds es (fun _ => true) i) (fun t htl => by rw [← agT t htl]; exact M2 t) (fun e' he' x h1 h2 => by subst he'; exact hUnot x h1 (by omega)) q7' (by
     rintro e' v w' rfl S
     refine ih _ _ _ (by simpa using hsz) ?_ ?_ ?_
     ·intro k ok hk hE e2 he2 hb2
      rw [congrFun hLset k] at hE
      show (fun k => (listed.setIfInBounds i true).getD k false) e2.on = true
      rw [hLset]
      unfold setL at hE ⊢
      by_cases h1 : e2.on = i
      ·rw [if_pos h1]
      ·rw [if_neg h1]
       by_cases hki : k = i
       ·subst hki
        rw [hoi] at hk; cases hk
        exact hpre e2 he2 hb2
       ·rw [if_neg hki] at hE
        exact hcl k ok hk hE e2 he2 hb2
     ·have cnt : ∀ (l : List Nat), l.Nodup → i ∈ l → (l.filter fun k => !listed.getD k false).length = (l.filter fun k => !(listed.setIfInBounds i true).getD k false).length + 1 := by
       intro l
       induction l with
       | nil => intro _ h; simp at h
       | cons x r ihr =>
        intro hnd hmem
        have hx := congrFun hLset x
        simp only [setL] at hx
        rw [List.nodup_cons] at hnd
        by_cases hxi : x = i
        ·subst hxi
         rw [if_pos rfl] at hx
         rw [List.filter_cons, List.filter_cons, hun, hx]
         simp only [Bool.not_false, Bool.not_true, if_true, Bool.false_eq_true, if_false, List.length_cons]
         congr 2
         apply List.filter_congr
         intro y hy
         have hyx : y ≠ x := fun h => hnd.1 (h ▸ hy)
         have := congrFun hLset y
         simp only [setL, if_neg hyx] at this
         rw [this]
        ·rw [if_neg hxi] at hx
         have := ihr hnd.2 ((List.mem_cons.1 hmem).resolve_left (Ne.symm hxi))
         rw [List.filter_cons, List.filter_cons, hx]
         split
         ·simp only [List.length_cons, this]
         ·exact this
      have := cnt (List.range n) List.nodup_range (by simpa using hin)
      omega
     ·obtain ⟨F', β', S1, S2, S3, S4⟩ := S
      have eT := tS_insert (f := look s.t) (ds := ds) (L := fun k => listed.getD k false) hun q2 n hin (fun k t h1 h2 h3 h4 => by
       obtain ⟨ok, hok, hdk, _⟩ := dsk k t h4
       rw [q4]
       intro h5
       exact (Oper.apart_spec (apart_gt k ok h1 h2 hok h3).1).2.1 t h5 hdk)
      have eH := hS_insert (h := lookC s.h) (L := fun k => listed.getD k false) hun q2 n hin (fun k e2 t h1 h2 h3 h4 h5 h6 => by
       obtain ⟨ok, hok⟩ := opk k h2
       have := disj_iff (apart_gt k ok h1 h2 hok h3).2.1 t (by rw [q6]; exact h6)
       exact this (List.mem_append_right _ (by rw [fpk k e2 h2 h4]; exact h5)))
      have hU' : ∀ x, ((x < s.n ∨ ∃ k, k < n ∧ listed.getD k false = true ∧ s.n + 4 * k ≤ x ∧ x < s.n + 4 * k + 4) ∨ (s.n + 4 * i ≤ x ∧ x < s.n + 4 * i + e'.fresh)) → (x < s.n ∨ ∃ k, k < n ∧ setL (fun k => listed.getD k false) i k = true ∧ s.n + 4 * k ≤ x ∧ x < s.n + 4 * k + 4) := by
       rintro x ((h | ⟨k, h1, h2, h3⟩) | ⟨h1, h2⟩)
       ·exact .inl h
       ·refine .inr ⟨k, h1, ?_, h3⟩
        unfold setL
        by_cases hki : k = i
        ·rw [if_pos hki]
        ·rw [if_neg hki]; exact h2
       ·exact .inr ⟨i, hin, by unfold setL; rw [if_pos rfl], h1, by omega⟩
      have hU'' : ∀ x, ((x < s.n ∨ ∃ k, k < n ∧ listed.getD k false = true ∧ s.n + 4 * k ≤ x ∧ x < s.n + 4 * k + 4) ∨ (s.n + 4 * i ≤ x ∧ x < s.n + 4 * i + e'.fresh)) → (x < s.n ∨ ∃ k, k < n ∧ (listed.setIfInBounds i true).getD k false = true ∧ s.n + 4 * k ≤ x ∧ x < s.n + 4 * k + 4) := by
       intro x hx
       rcases hU' x hx with h | ⟨k, h1, h2, h3⟩
       ·exact .inl h
       ·exact .inr ⟨k, h1, (congrFun hLset k).trans h2, h3⟩
      refine ⟨⟨F', β', ?_, fun t => ?_, fun b hb => (S2.f b (M3 b hb)).1, fun b hb => ?_, fun j bd hj hb => ?_, by rw [(put_size a oi.dst v).2]; exact M6.mono S2.f⟩, by rw [(put_size a oi.dst v).1]; exact M.nt⟩
      ·rw [hLset, eH]
       exact S1.weakU hU''
      ·rw [hLset, eT, q4]
       have := tmps_put (x := e'.val) (v := v) (fun t => RelA.mono S2 _ _ (M2 t)) M.nt q3 S3 t
       exact RelA.mono ⟨hU'', fun b hb => ⟨hb, rfl⟩, fun _ _ _ h => ⟨_, h⟩⟩ _ _ this
      ·rcases S4 b hb with h | h
       ·exact M4 b h
       ·exact .inr h
      ·obtain ⟨bs, h1⟩ := S2.e j bd (.inl (Nat.lt_of_lt_of_le hj C.k)) hb
       exact M5 j ⟨_, _, _, _, bs⟩ hj h1)
    unfold wpOp
    rw [hoi]
    exact fin
 refine key ops.size _ a _ (by simp [n]) ?_ ?_ ?_
 ·intro i o _ hE
  exfalso
  rw [Array.getD_eq_getD_getElem?] at hE
  by_cases hi : i < ops.size
  ·simp [hi] at hE
  ·simp [hi] at hE
 ·have : (List.range n).filter (fun i => !(Array.replicate ops.size false).getD i false) = List.range n := by
   apply List.filter_eq_self.2
   intro i hi
   have hi' : i < ops.size := by simpa using hi
   simp [hi']
  rw [this]; simp [n]
 ·have hL : (fun i => (Array.replicate ops.size false).getD i false) = fun _ => false := by
   funext i
   rw [Array.getD_eq_getD_getElem?]
   by_cases hi : i < ops.size
   ·simp [hi]
   ·simp [hi]
  have t0 : ∀ k, tS (look s.t) ds es (fun _ => false) k = look s.t := by
   intro k
   induction k with
   | zero => rfl
   | succ k ih => simp only [tS]; exact ih
  have h0 : ∀ k, hS (lookC s.h) es (fun _ => false) k = lookC s.h := by
   intro k
   induction k with
   | zero => rfl
   | succ k ih => simp only [hS]; exact ih
  have hU0 : ∀ x, x < s.n → (x < s.n ∨ ∃ k, k < n ∧ (Array.replicate ops.size false).getD k false = true ∧ s.n + 4 * k ≤ x ∧ x < s.n + 4 * k + 4) := fun x hx => .inl hx
  refine ⟨⟨F, β, ?_, fun t => ?_, C.f, C.g, C.e, C.d.mono fun b hb => ⟨hb, rfl⟩⟩, C.nt⟩
  ·rw [hL, h0]
   exact (C.m.drew (w' := { w with drawn := w.drawn + 1 }) rfl rfl rfl rfl).weakU (fun x hx => .inl hx)
  ·rw [hL, t0]
   have E : Ext (· < s.n) F β w (fun i => i < s.n ∨ ∃ k, k < n ∧ (Array.replicate ops.size false).getD k false = true ∧ s.n + 4 * k ≤ i ∧ i < s.n + 4 * k + 4) F β { w with drawn := w.drawn + 1 } := ⟨fun x hx => .inl hx, fun b hb => ⟨hb, rfl⟩, fun _ _ _ h => ⟨_, h⟩⟩
   exact RelA.mono E _ _ (C.t t)
theorem draw_run {P : Program} (hmix : P.follows .mixedOrders = true) {H : Hist} {s : St} {F : Nat → Prop} {β : Nat → Option Bind} {a : Act} {w : World} {ops : Array Oper} {Q : Exit → St → Prop} (id : Nat) (hx : DrawG P H.nt ops (Q .normal) s) (C : Conc H s F β a w) :
 (Code.region id ops true).wp P (Post H Q) a w := wp_region_any hmix (draw_any hx C)
theorem spec_am {P : Program} {f : FuncId} {fn : Func} {c : Code} {args : List AV} {hs hs' : List Chunk} {r : AV} (hf : P.funcs[f]? = some fn) (hb : fn.body = some c) (hn : (fn.name == "runtime.NumGoroutine") = false) (hmix : P.follows .mixedOrders = true)
 (nt : Nat) (hnt : nt = args.length + (fn.ntmps - args.length)) (rs : List ResultVar) (hrs : fn.results = rs.toArray) (hle : hs.length ≤ hs'.length)
 (h : awp P nt hs.length c (RetQ P hs.length rs r hs') ⟨argsT 0 args, hsT 0 hs, hs.length⟩) : Spec P f args hs r hs' :=
 spec_of hf hb hn (fun _ _ _ _ _ _ _ _ id hx C => draw_run hmix id hx C) nt hnt rs hrs hle h
section
variable {k : Nat} {b : Bool} {X Y : (Exit → St → Prop) → St → Prop} {Q : Exit → St → Prop} {s : St}
theorem cond_i (h1 : b = true → X Q s) (h2 : b = false → Y Q s) : CondJ k (.c (.v (.bool b))) X Y Q s := .inl ⟨h1, h2⟩
theorem cond_to {s' : St} (ht : ToK k s s') (h1 : b = true → X Q s') (h2 : b = false → Y Q s') : CondJ k (.c (.v (.bool b))) X Y Q s := .inr (.inr ⟨s', ht, h1, h2⟩)
end
theorem joinK_n {α : Type} {k : Nat} {S : α → St} {Pr : α → Prop} {Q : Exit → St → Prop} {s : St} : joinK k S Pr Q .normal s = ∃ y, Pr y ∧ ToK k s (S y) := rfl
theorem joinK_e {α : Type} {k : Nat} {S : α → St} {Pr : α → Prop} {Q : Exit → St → Prop} {s : St} {i : Nat} : joinK k S Pr Q (.exit i) s = Q (.exit i) s := rfl
theorem joinK_r {α : Type} {k : Nat} {S : α → St} {Pr : α → Prop} {Q : Exit → St → Prop} {s : St} : joinK k S Pr Q .ret s = Q .ret s := rfl
section
variable {P : Program} {f : FuncId} {args args' : List AV} {h : Nat → Chunk} {m : Nat} {K : Eff → Prop} {r : AV}
theorem callP (S : Spec P f args' [] r []) (hw : WkL (cvL [] noC args) args') (k : K ⟨up [] m r, [], 0⟩) : CallG P f args h m K :=
 ⟨_, .inl ⟨[], args', [], r, [], List.nodup_nil, hw, rfl, by simp, S, rfl⟩, k⟩
theorem callM {hs hs' : List Chunk} (ids : List Nat) (S : Spec P f args' hs r hs') (hw : WkL (cvL ids noC args) args') (hh : hs = ids.map (fun id => cvC ids noC (h id))) (hnd : ids.Nodup) (hal : ∀ id ∈ ids, h id ≠ .dead) (k : K ⟨up ids m r, upsL ids m 0 hs', hs'.length - ids.length⟩) : CallG P f args h m K :=
 ⟨_, .inl ⟨ids, args', hs, r, hs', hnd, hw, hh, hal, S, rfl⟩, k⟩
variable {c : Bool} {φ : Prop}
theorem gcallP (S : c = true → Spec P f args' [] r []) (hw : WkL (cvL [] noC args) args') (hφ : c = true → φ) (k : K ⟨.opt c (up [] m r), [], 0⟩) : GCall P c f args φ h m K :=
 .inl ⟨_, fun hc => ⟨hφ hc, .inl ⟨[], args', [], r, [], List.nodup_nil, hw, rfl, by simp, S hc, rfl⟩⟩, k⟩
end
def lpK {α : Type} (k : Nat) (S : α → St) (Pr : α → Prop) (μ : α → Nat) (x : α) (Q : Exit → St → Prop) : Exit → St → Prop := fun e s' => match e with
 | .normal => ∃ y, Pr y ∧ μ y < μ x ∧ ToK k s' (S y)
 | e => Q e s'
theorem loopI {k : Nat} {A : (Exit → St → Prop) → St → Prop} {Q : Exit → St → Prop} {s : St} {α : Type} (S : α → St) (Pr : α → Prop) (μ : α → Nat) (x : α) (hx : Pr x) (h0 : ToK k s (S x))
 (hr : ∀ x, Pr x → A (lpK k S Pr μ x Q) (S x)) : LoopG k A Q s := ⟨α, S, Pr, μ, ⟨x, hx, h0⟩, hr⟩
theorem lpK_n {α : Type} {k : Nat} {S : α → St} {Pr : α → Prop} {μ : α → Nat} {x : α} {Q : Exit → St → Prop} {s : St} : lpK k S Pr μ x Q .normal s = ∃ y, Pr y ∧ μ y < μ x ∧ ToK k s (S y) := rfl
theorem lpK_e {α : Type} {k : Nat} {S : α → St} {Pr : α → Prop} {μ : α → Nat} {x : α} {Q : Exit → St → Prop} {s : St} {i : Nat} : lpK k S Pr μ x Q (.exit i) s = Q (.exit i) s := rfl
theorem lpK_r {α : Type} {k : Nat} {S : α → St} {Pr : α → Prop} {μ : α → Nat} {x : α} {Q : Exit → St → Prop} {s : St} : lpK k S Pr μ x Q .ret s = Q .ret s := rfl
theorem ToK.trans {k : Nat} {s s' s'' : St} (h : ToK k s s') (h' : ToK k s' s'') : ToK k s s'' := by
 intro H F β a w hk C
 obtain ⟨F', β', C'⟩ := h H F β a w hk C
 exact h' H F' β' a w hk C'
theorem To.nil {k : Nat} {s : St} (t e sz : Nat) (ht : look s.t t = .c (.v (.slice none 0 0))) : ToK k s ⟨(t, .own s.n) :: s.t, (s.n, .row e sz []) :: s.h, s.n + 1⟩ := by
 intro H F β a w hk C
 have hb0 : ∀ bd, β s.n ≠ some bd := fun bd hb => absurd (C.m.used _ bd hb) (Nat.lt_irrefl _)
 obtain ⟨M, E⟩ := C.m.step (w' := w) (h' := lookC ((s.n, .row e sz []) :: s.h)) (β' := updB β s.n (some ⟨.slice none 0 0, none, 0, sz, []⟩)) (F' := F) (U' := (· < s.n + 1)) (fun i => i = s.n)
  (fun i hi => by simp [updB, Ne.symm hi]) (fun i hi => by simp [lookC, Ne.symm hi]) rfl rfl rfl (Nat.le_refl _) (fun _ _ _ => rfl) (fun i hi => Nat.lt_succ_of_lt hi) (fun b hb => hb)
  (fun b hb => ⟨C.m.fin b hb, .inl hb⟩) (fun i bd' hi hu => by subst hi; exact absurd hu (Nat.lt_irrefl _))
  (fun i bd' hi hb => by
   subst hi
   simp only [updB, if_true, Option.some.injEq] at hb
   subst hb
   exact ⟨Nat.lt_succ_self _, fun b hb => by have := Bind.has_nil hb; simp at this⟩)
  (fun i j _ _ _ hi hj _ _ _ _ => by rw [hi, hj])
  (fun E i hi _ => by
   subst hi
   refine ⟨⟨.slice none 0 0, none, 0, sz, []⟩, by simp [updB], ?_⟩
   simp only [lookC, if_true, ChOk]
   simp)
 refine ⟨F, updB β s.n (some ⟨.slice none 0 0, none, 0, sz, []⟩), fun t' => ?_, M, C.nt, C.d, C.f, C.g, fun i bd' hi hb => ?_, Nat.le_succ_of_le C.k⟩
 ·simp only [look]
  by_cases h : t = t'
  ·subst h
   rw [if_pos rfl]
   have h1 := C.t t
   rw [ht, relC] at h1
   simp only [RelA]
   rw [h1.1]
   refine ⟨Nat.lt_succ_self _, rfl, fun bd hb => ?_⟩
   simp only [updB, if_true, Option.some.injEq] at hb
   subst hb; rfl
  ·rw [if_neg h]; exact RelA.mono E _ _ (C.t t')
 ·refine C.e i bd' hi ?_
  have : s.n ≠ i := by have := C.k; omega
  simpa [updB, this] using hb
theorem ToK.refl (k : Nat) (s : St) : ToK k s s := fun _ F β _ _ _ C => ⟨F, β, C⟩
theorem ret0 {P : Program} {rs : List ResultVar} {r : AV} {s : St} {φ : Prop} {xs : List AV} (h : resAV P (look s.t) (lookC s.h) rs = some (φ, xs)) (hφ : φ) (hw : Wk (cv [] (lookC s.h) (oneV xs)) r) : RetG P 0 rs r [] s := by
 refine ⟨s, ToK.refl _ _, [], rfl, List.nodup_nil, trivial, ?_⟩
 rw [h]
 exact ⟨hφ, hw⟩
theorem retM {P : Program} {k : Nat} {rs : List ResultVar} {r : AV} {s : St} {hs' : List Chunk} {φ : Prop} {xs : List AV} (ids : List Nat) (h : resAV P (look s.t) (lookC s.h) rs = some (φ, xs)) (hk : ids.take k = List.range k) (hnd : ids.Nodup) (hh : hsW ids (lookC s.h) ids hs') (hφ : φ) (hw : Wk (cv ids (lookC s.h) (oneV xs)) r) : RetG P k rs r hs' s := by
 refine ⟨s, ToK.refl _ _, ids, hk, hnd, hh, ?_⟩
 rw [h]
 exact ⟨hφ, hw⟩
theorem retTo {P : Program} {k : Nat} {rs : List ResultVar} {r : AV} {s s' : St} {hs' : List Chunk} (hto : ToK k s s') (h : RetG P k rs r hs' s') : RetG P k rs r hs' s := by
 obtain ⟨s2, h2, h3⟩ := h
 exact ⟨s2, hto.trans h2, h3⟩
theorem enters {P : Program} {f : FuncId} {fn : Func} (hf : P.funcs[f]? = some fn) (hb : fn.body.isSome = true) (hn : (fn.name == "runtime.NumGoroutine") = false) : Enters P f := ⟨fn, hf, hb, hn⟩
theorem wk_self (x : AV) : Wk x x = True := eq_true (Wk.refl x)
theorem bsel_false (t p : Bool) : bsel t p false = (t && p) := by cases t <;> simp [bsel]
theorem bsel_true (t q : Bool) : bsel t true q = (t || q) := by cases t <;> simp [bsel]
theorem bool_imp (b : Bool) : (b = true → b = true) = True := by simp
theorem wrap_in (n : Int) (h1 : -9223372036854775808 ≤ n) (h2 : n ≤ 9223372036854775807) : IntKind.i64.wrap n = n := by rw [IntKind.wrap_i64]; omega
theorem look_n (i : Nat) : look [] i = .undef := rfl
theorem look_c (k i : Nat) (x : AV) (r : List (Nat × AV)) : look ((k, x) :: r) i = if k = i then x else look r i := rfl
theorem lookC_n (i : Nat) : lookC [] i = .dead := rfl
theorem lookC_c (k i : Nat) (x : Chunk) (r : List (Nat × Chunk)) : lookC ((k, x) :: r) i = if k = i then x else lookC r i := rfl
end Go.Proofs.Ytjdgmcmekcgjgaa
namespace Go.Proofs.Ytjdgmcmekcgjgaa
set_option linter.all false
open Go.RowKit Go.Shelf Go.Sort
set_option maxRecDepth 100000
set_option maxHeartbeats 1000000
theorem putV_at (w : World) (b : Nat) (t : TypeId) (cur : Array Value) (d : Array Value) (h : w.heap[b]? = some (.cells cur t (0, 0))) (hl : d.size ≤ cur.size) :
 ∃ cur', (Go.Sort.putRow id w b 0 d).heap[b]? = some (.cells cur' t (0, 0)) ∧ cur'.size = cur.size ∧ ∀ j (hj : j < d.size), cur'[j]? = some d[j] := by
 refine ⟨Go.Sort.putCells id 0 d cur, ?_, by simp [Go.Sort.putCells], fun j hj => ?_⟩
 ·simp [Go.Sort.putRow, Go.Sort.mapBlock, Array.getElem?_modify, h, Go.Sort.onCells]
 ·unfold Go.Sort.putCells
  have hc : j < cur.size := by omega
  rw [Array.getElem?_mapIdx, Array.getElem?_eq_getElem hc]
  simp [hj]
theorem putV_rest (w : World) (b : Nat) (d : Array Value) : (Go.Sort.putRow id w b 0 d).os = w.os ∧ (Go.Sort.putRow id w b 0 d).tape = w.tape ∧ (Go.Sort.putRow id w b 0 d).output = w.output ∧ (Go.Sort.putRow id w b 0 d).heap.size = w.heap.size ∧ ∀ k, k ≠ b → (Go.Sort.putRow id w b 0 d).heap[k]? = w.heap[k]? := by
 refine ⟨rfl, rfl, rfl, by simp [Go.Sort.putRow, Go.Sort.mapBlock], fun k hk => ?_⟩
 simp [Go.Sort.putRow, Go.Sort.mapBlock, Array.getElem?_modify, Ne.symm hk]
section
variable {P : Program} {ρ : Ren} {α : Type} [Inhabited α]
def CmpAll (P : Program) (g : Nat) (enc : α → List Value) (cf : α → α → Int) : Prop :=
 ∀ (w : World) (x y : α), Calls P g #[.agg (enc x).toArray, .agg (enc y).toArray] w fun e w' => e = .returned (.int .i64 (cf x y)) ∧ ∃ q os', w' = grow (w.drewN q) os'
theorem sort_s (L : SlLaysF0.n6 P ρ) (hent : Enters P (ρ.f 6)) (k : Nat) (hk1 : 0 < k) (aE : ∀ w, (isAgg (ρ.t 24)).run P w = .ok true w) (zE : ∀ w, (Go.sizeOf (ρ.t 24)).run P w = .ok k w) (enc : α → List Value) (hk : ∀ x, (enc x).length = k) (h1 : ∀ x, ∀ v ∈ enc x, v.oneCell' = true) (cf : α → α → Int) (hO : SWO (ltOf cf)) (g : Nat)
 (eg : ∀ args w, (callFunc g args).run P w = .ok (.enter g args) w) (hcmp : CmpAll P g enc cf) (e : TypeId) (xs ys : List α) (h0 : 0 < xs.length) (hl : xs.length < 4611686018427387904) (hys : ∀ d' : Array α, PermIn 0 xs.length xs.toArray d' → SortedIn (ltOf cf) 0 xs.length d' → d'.toList = ys) :
 Spec P (ρ.f 6) [.own 0, .clo (.func g) [] []] [.row e k (xs.map fun x => (enc x).map PV.v)] (.tup []) [.row e k (ys.map fun x => (enc x).map PV.v)] := by
 refine ⟨hent, by simp, fun w F β vs M hv => ?_⟩
 simp only [RelL] at hv
 obtain ⟨v0, _, rfl, hv0, u1, _, rfl, hu1, rfl⟩ := hv
 simp only [RelA, RelL] at hu1
 obtain ⟨fs, cs, rfl, hfs, hcs⟩ := hu1
 obtain rfl : fs = #[] := by simpa using hfs
 obtain rfl : cs = #[] := by simpa using hcs
 obtain ⟨b0, hb0, H0⟩ := M.ch 0 (by simp [nth])
 simp only [RelA] at hv0
 obtain rfl := hv0.2.2 b0 hb0
 change ChOk _ w F β b0 (.row e k (xs.map fun x => (enc x).map PV.v)) at H0
 obtain ⟨⟨z1, z2⟩, hn, hcl, hrow⟩ := H0
 rcases hrow with ⟨_, h, _⟩ | ⟨gb, cap, cur, hb, hvv, hg, hnc, hcm, hcs, hE⟩
 ·have hx : xs = [] := by simpa using h
  subst hx; simp at h0
 rw [List.length_map] at hvv hnc
 have hcell : ∀ i (hi : i < xs.length) j (hj : j < k), w.cell? ⟨gb, i * k + j, none⟩ = some (((enc xs[i])[j]'(by rw [hk]; exact hj))) := by
  intro i hi j hj
  obtain ⟨_, hC⟩ := hE.at i ((enc xs[i]).map PV.v) (by simp [hi])
  obtain ⟨u, hu, hr⟩ := hC.at j (.v ((enc xs[i])[j]'(by rw [hk]; exact hj))) (by simp [hk, hj])
  simp only [RelP] at hr
  rw [Nat.zero_add] at hu
  rw [hu, hr.1]
 have hflat : ∀ (d : Array α) i (hi : i < d.size) j (hj : j < k), (flatK enc k d)[i * k + j]! = (enc d[i])[j]'(by rw [hk]; exact hj) := by
  intro d i hi j hj
  have hlt : i * k + j < d.size * k := by
   calc i * k + j < i * k + k := by omega
    _ = (i + 1) * k := by rw [Nat.add_mul]; omega
    _ ≤ d.size * k := Nat.mul_le_mul_right _ hi
  rw [get_flatK _ _ _ _ hlt]
  have e1 : (i * k + j) / k = i := by rw [Nat.mul_comm, Nat.mul_add_div hk1, Nat.div_eq_of_lt hj]; rfl
  have e2 : (i * k + j) % k = j := by rw [Nat.mul_comm, Nat.mul_add_mod]; exact Nat.mod_eq_of_lt hj
  rw [e1, e2, getElem!_pos d i hi, getElem!_pos _ j (by rw [hk]; exact hj)]
 have hH : HoldsK enc k w gb 0 xs.toArray := by
  intro q hq
  have hq' : q < xs.length * k := by simpa using hq
  have hi : q / k < xs.length := Nat.div_lt_of_lt_mul (by rw [Nat.mul_comm]; exact hq')
  have hj : q % k < k := Nat.mod_lt _ hk1
  have hqe : q / k * k + q % k = q := by rw [Nat.mul_comm]; exact Nat.div_add_mod q k
  refine ⟨?_, by simp [World.frozen?, hg]⟩
  have a := hcell (q / k) hi (q % k) hj
  have b := hflat xs.toArray (q / k) (by simpa using hi) (q % k) hj
  rw [hqe] at a b
  rw [Nat.zero_add, a]
  simp only [id]
  rw [b]; simp
 have hlays : CmpLays P g #[] enc k cf gb 0 xs.toArray.size w := fun m os dk _ x y => by simpa using hcmp (sortWorldK enc k w gb 0 m dk os) x y
 have hgl : gb < w.heap.size := by
  rcases Nat.lt_or_ge gb w.heap.size with h | h
  ·exact h
  ·rw [Array.getElem?_eq_none h] at hg; cases hg
 have hC := AnyQ.slices_SortFunc L k aE zE enc hk h1 cf hO g #[] gb 0 cap xs.toArray w eg hlays hH hgl (by simpa using hl)
 rw [hvv]
 rw [show xs.toArray.size = xs.length from by simp] at hC
 refine hC.mono ?_
 rintro en w' ⟨rfl, d', n, os, hp, hso, rfl⟩
 have hd := hys d' hp hso
 have hds : d'.size = xs.length := by have := hp.1; simpa using this
 unfold sortWorldK putRowK
 obtain ⟨cur', a1, a2, a3⟩ := putV_at (Go.Sort.ahead w n) gb e cur (flatK enc k d') hg (by rw [size_flatK, hds, hcs]; exact Nat.mul_le_mul_right _ hnc)
 obtain ⟨r1, r2, r3, r4, r5⟩ := putV_rest (Go.Sort.ahead w n) gb (flatK enc k d')
 generalize Go.Sort.putRow id (Go.Sort.ahead w n) gb 0 (flatK enc k d') = w1 at *
 have hs1 : w1.heap.size = w.heap.size := r4
 have gh : ∀ b, b < w.heap.size → (grow w1 os).heap[b]? = w1.heap[b]? := fun b hb => by
  show (w1.heap ++ os)[b]? = _
  rw [Array.getElem?_append_left (by omega)]
 obtain ⟨S1, S2⟩ := M.step (w' := grow w1 os) (h' := nth [.row e k (ys.map fun x => (enc x).map PV.v)]) (β' := β) (F' := F) (U' := (· < 1)) (fun t => t = 0)
  (fun t _ => rfl)
  (fun t ht => by
   match t, ht with
   | 0, ht => exact (ht rfl).elim
   | t + 1, _ => simp [nth])
  r1 r2 r3 (by show w.heap.size ≤ (w1.heap ++ os).size; rw [Array.size_append, hs1]; omega)
  (fun b hb' hn => by
   rw [gh b hb', r5 b fun he => hn 0 b0 rfl hb0 (.inl (by rw [he]; exact hb))]; rfl)
  (fun t ht => ht) (fun b hb => hb) (fun b hb' => ⟨by show b < (w1.heap ++ os).size; rw [Array.size_append, hs1]; have := M.fin b hb'; omega, .inl hb'⟩)
  (fun t bd ht hu hb' => ⟨bd.bs, hb'⟩)
  (fun t bd ht hb' => by
   subst ht
   rw [hb0] at hb'; cases hb'
   refine ⟨by omega, fun b hq => ?_⟩
   obtain ⟨m1, m2, m3⟩ := M.off 0 b0 b hb0 hq
   exact ⟨by show b < (w1.heap ++ os).size; rw [Array.size_append, hs1]; omega, m1, .inr ⟨0, b0, rfl, hb0, hq⟩⟩)
  (fun t t' bj bj' b ht ht' _ _ _ _ => by rw [ht, ht'])
  (fun E t ht hdd => by
   subst ht
   refine ⟨b0, hb0, ?_⟩
   change ChOk _ (grow w1 os) F β b0 (.row e k (ys.map fun x => (enc x).map PV.v))
   have hyl : ys.length = xs.length := by rw [← hd]; simpa using hds
   refine ⟨⟨z1, z2⟩, by rw [hn]; simp [hyl], fun cs hcs' => ?_, .inr ⟨gb, cap, cur', hb, by rw [hvv, List.length_map, hyl], by rw [gh gb hgl]; exact a1, by rw [List.length_map, hyl]; exact hnc, hcm, by rw [a2]; exact hcs, RelE.of fun i cs hi => ?_⟩⟩
   ·obtain ⟨x, _, rfl⟩ := List.mem_map.1 hcs'; simp [hk]
   ·rw [List.getElem?_map] at hi
    cases hz : ys[i]? with
    | none => rw [hz] at hi; simp at hi
    | some z =>
     rw [hz] at hi
     obtain rfl : (enc z).map PV.v = cs := by simpa using hi
     refine ⟨by simp [hk], RelC.of fun j x hj => ?_⟩
     rw [List.getElem?_map] at hj
     obtain ⟨hil, hz'⟩ := List.getElem?_eq_some_iff.1 hz
     cases hx : (enc z)[j]? with
     | none => rw [hx] at hj; simp at hj
     | some v =>
      rw [hx] at hj
      obtain rfl : PV.v v = x := by simpa using hj
      obtain ⟨hjl, hv'⟩ := List.getElem?_eq_some_iff.1 hx
      have hjk : j < k := by rw [← hk z]; exact hjl
      have hid : i < d'.size := by omega
      have hlt : i * k + j < d'.size * k := by
       calc i * k + j < i * k + k := by omega
        _ = (i + 1) * k := by rw [Nat.add_mul]; omega
        _ ≤ d'.size * k := Nat.mul_le_mul_right _ hid
      refine ⟨v, ?_, by simp only [RelP]; exact ⟨trivial, h1 z v (List.mem_of_getElem? hx)⟩⟩
      have c1 := a3 (i * k + j) (by rw [size_flatK]; exact hlt)
      have c2 := hflat d' i hid j hjk
      rw [getElem!_pos _ _ (by rw [size_flatK]; exact hlt)] at c2
      have hdi : d'[i] = z := by
       have : d'.toList[i]'(by simpa using hid) = z := by
        have := hz'
        subst hd
        simpa using this
       simpa using this
      rw [c2] at c1
      simp only [hdi, hv'] at c1
      simp only [World.cell?, gh gb hgl, a1, Nat.zero_add]
      simpa using c1)
 refine ⟨_, F, _, rfl, S1, ?_, fun _ h => h, fun _ h => .inl h, fun t bd ht hb' => ⟨bd.bs, hb'⟩⟩
 simp only [RelA, RelL]
 exact ⟨_, rfl, rfl⟩
end
end Go.Proofs.Ytjdgmcmekcgjgaa
namespace Go.Proofs.Ytjdgmcmekcgjgaa
set_option linter.all false
open Go.RowKit
def Els {α : Type} (w : World) (B : Nat) (a : Option Addr) (sz : Nat) (enc : α → List Value) (xs : List α) : Prop :=
 xs = [] ∨ ∃ b o, a = some ⟨b, o, none⟩ ∧ b < B ∧ ∀ i j v, (xs[i]?).bind (fun x => (enc x)[j]?) = some v → w.cell? ⟨b, o + (i * sz + j), none⟩ = some v
theorem Els.nil {α : Type} (w : World) (B : Nat) (a : Option Addr) (sz : Nat) (enc : α → List Value) : Els w B a sz enc [] := .inl rfl
theorem Els.get {α : Type} {w : World} {B : Nat} {a : Option Addr} {sz : Nat} {enc : α → List Value} {xs : List α} (h : Els w B a sz enc xs) (i : Nat) (hi : i < xs.length) :
 ∃ b o, a = some ⟨b, o, none⟩ ∧ b < B ∧ ∀ j v, (enc xs[i])[j]? = some v → w.cell? ⟨b, o + (i * sz + j), none⟩ = some v := by
 rcases h with rfl | ⟨b, o, ha, hb, hc⟩
 ·simp at hi
 ·exact ⟨b, o, ha, hb, fun j v hv => hc i j v (by simp [hi, hv])⟩
theorem Els.mono {α : Type} {w : World} {B B' : Nat} {a : Option Addr} {sz : Nat} {enc : α → List Value} {xs : List α} (h : Els w B a sz enc xs) (hB : B ≤ B') : Els w B' a sz enc xs := by
 rcases h with rfl | ⟨b, o, ha, hlt, hc⟩
 ·exact .inl rfl
 ·exact .inr ⟨b, o, ha, by omega, hc⟩
def e64 (n : Nat) : List Value := [.int .u64 n]
def e32 (n : Nat) : List Value := [.int .u32 n]
def ei64 (n : Int) : List Value := [.int .i64 n]
theorem Els.u64 {w : World} {B : Nat} {a : Option Addr} {xs : List Nat} (h : Els w B a 1 e64 xs) (i : Nat) (hi : i < xs.length) :
 ∃ b o, a = some ⟨b, o, none⟩ ∧ b < B ∧ w.cell? ⟨b, o + i, none⟩ = some (.int .u64 (xs[i] : Nat)) := by
 obtain ⟨b, o, ha, hb, hc⟩ := h.get i hi
 exact ⟨b, o, ha, hb, by simpa using hc 0 _ rfl⟩
theorem Els.i64 {w : World} {B : Nat} {a : Option Addr} {xs : List Int} (h : Els w B a 1 ei64 xs) (i : Nat) (hi : i < xs.length) :
 ∃ b o, a = some ⟨b, o, none⟩ ∧ b < B ∧ w.cell? ⟨b, o + i, none⟩ = some (.int .i64 xs[i]) := by
 obtain ⟨b, o, ha, hb, hc⟩ := h.get i hi
 exact ⟨b, o, ha, hb, by simpa using hc 0 _ rfl⟩
theorem Els.u32 {w : World} {B : Nat} {a : Option Addr} {xs : List Nat} (h : Els w B a 1 e32 xs) (i : Nat) (hi : i < xs.length) :
 ∃ b o, a = some ⟨b, o, none⟩ ∧ b < B ∧ w.cell? ⟨b, o + i, none⟩ = some (.int .u32 (xs[i] : Nat)) := by
 obtain ⟨b, o, ha, hb, hc⟩ := h.get i hi
 exact ⟨b, o, ha, hb, by simpa using hc 0 _ rfl⟩
theorem flatMap_get {α β : Type} (enc : α → List β) (sz : Nat) : ∀ (xs : List α), (∀ x ∈ xs, (enc x).length = sz) → ∀ i j, j < sz → (xs.flatMap enc)[i * sz + j]? = (xs[i]?).bind fun x => (enc x)[j]? := by
 intro xs
 induction xs with
 | nil => intro _ i j _; simp
 | cons x xs ih =>
  intro h i j hj
  have hx := h x (by simp)
  cases i with
  | zero => simp [List.flatMap_cons, List.getElem?_append, hx, hj]
  | succ i =>
   have e : (i + 1) * sz + j = sz + (i * sz + j) := by rw [Nat.add_mul]; omega
   rw [List.flatMap_cons, List.getElem?_append_right (by omega), e, hx, Nat.add_sub_cancel_left, ih (fun y hy => h y (by simp [hy])) i j hj]
   simp
theorem flatMap_len {α β : Type} (enc : α → List β) (sz : Nat) (xs : List α) (h : ∀ x ∈ xs, (enc x).length = sz) : (xs.flatMap enc).length = xs.length * sz := by
 induction xs with
 | nil => simp
 | cons x xs ih => rw [List.flatMap_cons, List.length_append, h x (by simp), ih fun y hy => h y (by simp [hy]), List.length_cons, Nat.add_mul]; omega
theorem mul_div_lt {j sz n : Nat} (h : j < n * sz) : j / sz < n ∧ j / sz * sz + j % sz = j ∧ j % sz < sz := by
 have hs : 0 < sz := by
  rcases Nat.eq_zero_or_pos sz with rfl | h0
  ·simp at h
  ·exact h0
 exact ⟨(Nat.div_lt_iff_lt_mul hs).2 h, by rw [Nat.mul_comm]; exact Nat.div_add_mod j sz, Nat.mod_lt _ hs⟩
theorem Els.news {α : Type} {w : World} {B : Nat} {a : Option Addr} {sz : Nat} {enc : α → List Value} {xs : List α} (h : Els w B a sz enc xs) (he : ∀ x ∈ xs, (enc x).length = sz) :
 ∀ ad, a = some ad → ∀ j u, (xs.flatMap enc)[j]? = some u → w.cell? (ad.add j) = some u := by
 intro ad had j u hu
 rcases h with rfl | ⟨b, o, ha, hb, hc⟩
 ·simp at hu
 ·rw [ha] at had
  obtain rfl := Option.some.inj had
  have hj : j < xs.length * sz := by rw [← flatMap_len enc sz xs he]; exact (List.getElem?_eq_some_iff.1 hu).1
  obtain ⟨h1, h2, h3⟩ := mul_div_lt hj
  have := hc (j / sz) (j % sz) u (by rw [← flatMap_get enc sz xs he _ _ h3, h2]; exact hu)
  rw [h2] at this
  rw [Addr.add_lit]; exact this
theorem Els.take {α : Type} {w : World} {B : Nat} {a : Option Addr} {sz : Nat} {enc : α → List Value} {xs : List α} (h : Els w B a sz enc xs) (m : Nat) : Els w B a sz enc (xs.take m) := by
 rcases h with rfl | ⟨b, o, ha, hb, hc⟩
 ·exact .inl (by simp)
 ·refine .inr ⟨b, o, ha, hb, fun i j v hv => ?_⟩
  rw [List.getElem?_take] at hv
  split at hv
  ·exact hc i j v hv
  ·simp at hv
theorem Els.drop {α : Type} {w : World} {B b o : Nat} {sz : Nat} {enc : α → List Value} {xs : List α} (h : Els w B (some ⟨b, o, none⟩) sz enc xs) (m : Nat) : Els w B (some ⟨b, o + m * sz, none⟩) sz enc (xs.drop m) := by
 rcases h with rfl | ⟨b', o', ha, hb, hc⟩
 ·exact .inl (by simp)
 ·simp only [Option.some.injEq, Addr.mk.injEq, and_true] at ha
  obtain ⟨rfl, rfl⟩ := ha
  refine .inr ⟨b, o + m * sz, rfl, hb, fun i j v hv => ?_⟩
  rw [List.getElem?_drop] at hv
  have := hc (m + i) j v hv
  rwa [Nat.add_mul, show o + (m * sz + i * sz + j) = o + m * sz + (i * sz + j) from by omega] at this
theorem Els.b0 {α : Type} {w : World} {B : Nat} {a : Option Addr} {sz : Nat} {enc : α → List Value} {xs : List α} (h : Els w B a sz enc xs) : xs = [] ∨ ∃ b o, a = some ⟨b, o, none⟩ ∧ b < B := by
 rcases h with h | ⟨b, o, h1, h2, _⟩
 ·exact .inl h
 ·exact .inr ⟨b, o, h1, h2⟩
end Go.Proofs.Ytjdgmcmekcgjgaa
namespace Go.Proofs.Ytjdgmcmekcgjgaa
set_option linter.all false
open Go.Shelf
set_option maxRecDepth 100000
def laySort_ren : Go.Shelf.Ren := ⟨fun | 6 => 11 | 15 => 16 | 14 => 15 | 28 => 26 | 29 => 27 | 20 => 18 | 21 => 19 | 22 => 20 | 23 => 21 | 24 => 22 | 25 => 23 | 26 => 24 | 27 => 25 | 46 => 28 | 47 => 29 | 48 => 30 | 49 => 31 | 50 => 32 | 57 => 33 | n => n, fun | 22 => 28 | 24 => 32 | 25 => 37 | 3 => 3 | 39 => 41 | 0 => 0 | 53 => 51 | 55 => 53 | 4 => 4 | 46 => 44 | 45 => 43 | 50 => 48 | 5 => 5 | 9 => 9 | 66 => 54 | 70 => 58 | 76 => 60 | 77 => 61 | n => n, fun | n => n⟩
theorem laySort : Go.Proofs.SlLaysF0.n6 Try.prog laySort_ren := {
 mixed := by kernel_rfl
 f6 := ⟨Try.f11.name, by decide, Try.func11.trans (congrArg some (by kernel_rfl))⟩
 f14 := ⟨Try.f15.name, by decide, Try.func15.trans (congrArg some (by kernel_rfl))⟩
 f15 := Try.func16.trans (congrArg some (by kernel_rfl))
 f20 := ⟨Try.f18.name, by decide, Try.func18.trans (congrArg some (by kernel_rfl))⟩
 f21 := ⟨Try.f19.name, by decide, Try.func19.trans (congrArg some (by kernel_rfl))⟩
 f22 := ⟨Try.f20.name, by decide, Try.func20.trans (congrArg some (by kernel_rfl))⟩
 f23 := ⟨Try.f21.name, by decide, Try.func21.trans (congrArg some (by kernel_rfl))⟩
 f24 := ⟨Try.f22.name, by decide, Try.func22.trans (congrArg some (by kernel_rfl))⟩
 f25 := ⟨Try.f23.name, by decide, Try.func23.trans (congrArg some (by kernel_rfl))⟩
 f26 := ⟨Try.f24.name, by decide, Try.func24.trans (congrArg some (by kernel_rfl))⟩
 f27 := ⟨Try.f25.name, by decide, Try.func25.trans (congrArg some (by kernel_rfl))⟩
 f28 := Try.func26.trans (congrArg some (by kernel_rfl))
 f29 := Try.func27.trans (congrArg some (by kernel_rfl))
 f46 := ⟨Try.f28.name, by decide, Try.func28.trans (congrArg some (by kernel_rfl))⟩
 f47 := Try.func29.trans (congrArg some (by kernel_rfl))
 f48 := Try.func30.trans (congrArg some (by kernel_rfl))
 f49 := ⟨Try.f31.name, by decide, Try.func31.trans (congrArg some (by kernel_rfl))⟩
 f50 := ⟨Try.f32.name, by decide, Try.func32.trans (congrArg some (by kernel_rfl))⟩
 f57 := ⟨Try.f33.name, by decide, Try.func33.trans (congrArg some (by kernel_rfl))⟩
 t0 := Try.underlying0
 a0 := Try.isAgg0
 z0 := Try.sizeOf0
 v0 := Try.zeroValue0
 t3 := Try.underlying3
 a3 := Try.isAgg3
 z3 := Try.sizeOf3
 v3 := Try.zeroValue3
 t4 := Try.underlying4
 a4 := Try.isAgg4
 z4 := Try.sizeOf4
 v4 := Try.zeroValue4
 t5 := Try.underlying5
 a5 := Try.isAgg5
 z5 := Try.sizeOf5
 v5 := Try.zeroValue5
 t9 := Try.underlying9
 a9 := Try.isAgg9
 z9 := Try.sizeOf9
 v9 := Try.zeroValue9
 t22 := Try.underlying28
 a22 := Try.isAgg28
 z22 := Try.sizeOf28
 v22 := Try.zeroValue28
 t25 := Try.underlying37
 a25 := Try.isAgg37
 z25 := Try.sizeOf37
 v25 := Try.zeroValue37
 t39 := Try.underlying41
 a39 := Try.isAgg41
 z39 := Try.sizeOf41
 v39 := Try.zeroValue41
 t45 := Try.underlying43
 a45 := Try.isAgg43
 z45 := Try.sizeOf43
 v45 := Try.zeroValue43
 t46 := Try.underlying44
 a46 := Try.isAgg44
 z46 := Try.sizeOf44
 v46 := Try.zeroValue44
 t50 := Try.underlying48
 a50 := Try.isAgg48
 z50 := Try.sizeOf48
 v50 := Try.zeroValue48
 t53 := Try.underlying51
 a53 := Try.isAgg51
 z53 := Try.sizeOf51
 v53 := Try.zeroValue51
 t55 := Try.underlying53
 a55 := Try.isAgg53
 z55 := Try.sizeOf53
 v55 := Try.zeroValue53
 t66 := Try.underlying54
 a66 := Try.isAgg54
 z66 := Try.sizeOf54
 v66 := Try.zeroValue54
 t70 := Try.underlying58
 a70 := Try.isAgg58
 z70 := Try.sizeOf58
 v70 := Try.zeroValue58
 t76 := Try.underlying60
 a76 := Try.isAgg60
 z76 := Try.sizeOf60
 v76 := Try.zeroValue60
 t77 := Try.underlying61
 a77 := Try.isAgg61
 z77 := Try.sizeOf61
 v77 := Try.zeroValue61 }
end Go.Proofs.Ytjdgmcmekcgjgaa
namespace Go.Proofs.Ytjdgmcmekcgjgaa
set_option linter.all false
open Go.RowKit Go.Sort
set_option maxRecDepth 100000
structure Pr where
 a : Nat
 b : Nat
deriving Inhabited, DecidableEq
def meetL (M a b : Nat) : Nat := if b = M then a else if (a + b) % 2 = 0 then (a + b) / 2 else if a + b < M then (a + b + M) / 2 else (a + b - M) / 2
theorem mod_two {M x : Nat} (h : x < 2 * M) : x % M = if x < M then x else x - M := by
 split
 ·exact Nat.mod_eq_of_lt ‹_›
 ·rw [Nat.mod_eq_sub_mod (by omega), Nat.mod_eq_of_lt (by omega)]
theorem meet_lt {q a b : Nat} (hab : a < b) (hb : b ≤ 2 * q + 1) : meetL (2 * q + 1) a b < 2 * q + 1 := by
 unfold meetL
 split
 ·omega
 ·split
  ·omega
  ·split <;> omega
theorem meet_iff {q a b r : Nat} (hab : a < b) (hb : b < 2 * q + 1) (hr : r < 2 * q + 1) : (2 * r) % (2 * q + 1) = (a + b) % (2 * q + 1) ↔ r = meetL (2 * q + 1) a b := by
 have h1 : (2 * r) % (2 * q + 1) = 2 * r ∧ 2 * r < 2 * q + 1 ∨ (2 * r) % (2 * q + 1) + (2 * q + 1) = 2 * r ∧ 2 * q + 1 ≤ 2 * r := by rw [mod_two (by omega)]; split <;> omega
 have h2 : (a + b) % (2 * q + 1) = a + b ∧ a + b < 2 * q + 1 ∨ (a + b) % (2 * q + 1) + (2 * q + 1) = a + b ∧ 2 * q + 1 ≤ a + b := by rw [mod_two (by omega)]; split <;> omega
 generalize (2 * r) % (2 * q + 1) = x at *
 generalize (a + b) % (2 * q + 1) = y at *
 unfold meetL
 rw [if_neg (by omega)]
 split
 ·omega
 ·split <;> omega
theorem meet_inj {q a b c : Nat} (hab : a < b) (hbc : b < c) (hc : c ≤ 2 * q + 1) : meetL (2 * q + 1) a b ≠ meetL (2 * q + 1) a c := by
 unfold meetL
 rw [if_neg (by omega)]
 split
 ·split
  ·omega
  ·split
   ·omega
   ·split <;> omega
 ·split
  ·split
   ·omega
   ·split
    ·omega
    ·split <;> omega
  ·split
   ·omega
   ·split
    ·omega
    ·split <;> omega
def mtX (M r k : Nat) : Nat := if r + k < M then r + k else r + k - M
def mtY (M r k : Nat) : Nat := if r < k then r + M - k else r - k
def mtP (M r k : Nat) : Pr := if k = 0 then ⟨r, M⟩ else if mtX M r k < mtY M r k then ⟨mtX M r k, mtY M r k⟩ else ⟨mtY M r k, mtX M r k⟩
theorem mt_lt {q r k : Nat} (hr : r < 2 * q + 1) (hk : k ≤ q) : (mtP (2 * q + 1) r k).a < (mtP (2 * q + 1) r k).b ∧ (mtP (2 * q + 1) r k).b ≤ 2 * q + 1 := by
 unfold mtP
 split
 ·exact ⟨by simp only; omega, by simp only; omega⟩
 ·have hx : mtX (2 * q + 1) r k = r + k ∧ r + k < 2 * q + 1 ∨ mtX (2 * q + 1) r k + (2 * q + 1) = r + k ∧ 2 * q + 1 ≤ r + k := by unfold mtX; split <;> omega
  have hy : mtY (2 * q + 1) r k = r + (2 * q + 1) - k ∧ r < k ∨ mtY (2 * q + 1) r k = r - k ∧ k ≤ r := by unfold mtY; split <;> omega
  generalize mtX (2 * q + 1) r k = x at *
  generalize mtY (2 * q + 1) r k = y at *
  split
  ·exact ⟨by simp only; omega, by simp only; omega⟩
  ·exact ⟨by simp only; omega, by simp only; omega⟩
theorem mt_meet {q r k : Nat} (hr : r < 2 * q + 1) (hk : k ≤ q) : meetL (2 * q + 1) (mtP (2 * q + 1) r k).a (mtP (2 * q + 1) r k).b = r := by
 unfold mtP
 split
 ·simp only [meetL, if_true]
 ·rename_i h0
  have hx : mtX (2 * q + 1) r k = r + k ∧ r + k < 2 * q + 1 ∨ mtX (2 * q + 1) r k + (2 * q + 1) = r + k ∧ 2 * q + 1 ≤ r + k := by unfold mtX; split <;> omega
  have hy : mtY (2 * q + 1) r k = r + (2 * q + 1) - k ∧ r < k ∨ mtY (2 * q + 1) r k = r - k ∧ k ≤ r := by unfold mtY; split <;> omega
  generalize mtX (2 * q + 1) r k = x at *
  generalize mtY (2 * q + 1) r k = y at *
  split
  ·unfold meetL
   simp only
   rw [if_neg (by omega)]
   split
   ·omega
   ·split <;> omega
  ·unfold meetL
   simp only
   rw [if_neg (by omega)]
   split
   ·omega
   ·split <;> omega
theorem mt_ex {q r a b : Nat} (hab : a < b) (hb : b ≤ 2 * q + 1) (hm : meetL (2 * q + 1) a b = r) : ∃ k, k ≤ q ∧ mtP (2 * q + 1) r k = ⟨a, b⟩ := by
 by_cases hbM : b = 2 * q + 1
 ·refine ⟨0, Nat.zero_le _, ?_⟩
  unfold meetL at hm
  rw [if_pos hbM] at hm
  unfold mtP
  rw [if_pos rfl, hbM, hm]
 ·unfold meetL at hm
  rw [if_neg hbM] at hm
  by_cases he : (a + b) % 2 = 0
  ·rw [if_pos he] at hm
   refine ⟨(b - a) / 2, by omega, ?_⟩
   have hx : mtX (2 * q + 1) r ((b - a) / 2) = b := by unfold mtX; rw [if_pos (by omega)]; omega
   have hy : mtY (2 * q + 1) r ((b - a) / 2) = a := by unfold mtY; rw [if_neg (by omega)]; omega
   unfold mtP
   rw [hx, hy, if_neg (by omega), if_neg (by omega)]
  ·rw [if_neg he] at hm
   by_cases hs : a + b < 2 * q + 1
   ·rw [if_pos hs] at hm
    refine ⟨(2 * q + 1 - (b - a)) / 2, by omega, ?_⟩
    have hx : mtX (2 * q + 1) r ((2 * q + 1 - (b - a)) / 2) = a := by unfold mtX; rw [if_neg (by omega)]; omega
    have hy : mtY (2 * q + 1) r ((2 * q + 1 - (b - a)) / 2) = b := by unfold mtY; rw [if_neg (by omega)]; omega
    unfold mtP
    rw [hx, hy, if_neg (by omega), if_pos (by omega)]
   ·rw [if_neg hs] at hm
    refine ⟨(2 * q + 1 - (b - a)) / 2, by omega, ?_⟩
    have hx : mtX (2 * q + 1) r ((2 * q + 1 - (b - a)) / 2) = a := by unfold mtX; rw [if_pos (by omega)]; omega
    have hy : mtY (2 * q + 1) r ((2 * q + 1 - (b - a)) / 2) = b := by unfold mtY; rw [if_pos (by omega)]; omega
    unfold mtP
    rw [hx, hy, if_neg (by omega), if_pos (by omega)]
theorem mt_inj {q r k l : Nat} (hr : r < 2 * q + 1) (hkl : k < l) (hl : l ≤ q) : (mtP (2 * q + 1) r k).a ≠ (mtP (2 * q + 1) r l).a := by
 have hx : ∀ j, j ≤ q → (mtX (2 * q + 1) r j = r + j ∧ r + j < 2 * q + 1 ∨ mtX (2 * q + 1) r j + (2 * q + 1) = r + j ∧ 2 * q + 1 ≤ r + j) := fun j hj => by unfold mtX; split <;> omega
 have hy : ∀ j, j ≤ q → (mtY (2 * q + 1) r j = r + (2 * q + 1) - j ∧ r < j ∨ mtY (2 * q + 1) r j = r - j ∧ j ≤ r) := fun j hj => by unfold mtY; split <;> omega
 have h1 := hx k (by omega); have h2 := hy k (by omega); have h3 := hx l hl; have h4 := hy l hl
 unfold mtP
 rw [if_neg (show ¬ l = 0 by omega)]
 generalize mtX (2 * q + 1) r k = x1 at *
 generalize mtY (2 * q + 1) r k = y1 at *
 generalize mtX (2 * q + 1) r l = x2 at *
 generalize mtY (2 * q + 1) r l = y2 at *
 split
 ·split <;> simp only <;> omega
 ·split <;> split <;> simp only <;> omega
def rndU (n M r k : Nat) : List Pr := ((List.range k).map (mtP M r)).filter fun x => decide (x.b < n)
theorem rndU_s (n M r k : Nat) : rndU n M r (k + 1) = rndU n M r k ++ if (mtP M r k).b < n then [mtP M r k] else [] := by
 unfold rndU
 rw [List.range_succ, List.map_append, List.filter_append]
 congr 1
 simp only [List.map_cons, List.map_nil, List.filter_cons, List.filter_nil, decide_eq_true_iff]
theorem rndU_len (n M r k : Nat) : (rndU n M r k).length ≤ k := by
 unfold rndU; exact Nat.le_trans (List.length_filter_le _ _) (by simp)
def rowP (a b : Nat) : List Pr := ((List.range b).filter fun y => decide (a < y)).map (Pr.mk a)
def upA (n a : Nat) : List Pr := (List.range a).flatMap fun x => rowP x n
theorem rowP_s {a b : Nat} (h : a < b) : rowP a (b + 1) = rowP a b ++ [⟨a, b⟩] := by
 unfold rowP
 rw [List.range_succ, List.filter_append, List.map_append]
 congr 1
 simp [h]
theorem rowP_0 (a : Nat) : rowP a (a + 1) = [] := by
 unfold rowP
 rw [List.filter_eq_nil_iff.2 (fun x hx => by have := List.mem_range.1 hx; simp; omega)]
 rfl
theorem upA_s (n a : Nat) : upA n (a + 1) = upA n a ++ rowP a n := by
 unfold upA; rw [List.range_succ, List.flatMap_append]; simp
theorem rowP_mem {a b : Nat} {x : Pr} : x ∈ rowP a b ↔ x.a = a ∧ a < x.b ∧ x.b < b := by
 unfold rowP
 rw [List.mem_map]
 constructor
 ·rintro ⟨y, hy, rfl⟩
  obtain ⟨h1, h2⟩ := List.mem_filter.1 hy
  have := List.mem_range.1 h1
  have := decide_eq_true_iff.1 h2
  exact ⟨rfl, by simpa using this, by simpa using ‹y < b›⟩
 ·rintro ⟨rfl, h1, h2⟩
  exact ⟨x.b, List.mem_filter.2 ⟨List.mem_range.2 h2, decide_eq_true_iff.2 h1⟩, rfl⟩
theorem upA_mem {n a : Nat} {x : Pr} : x ∈ upA n a ↔ x.a < a ∧ x.a < x.b ∧ x.b < n := by
 unfold upA
 rw [List.mem_flatMap]
 constructor
 ·rintro ⟨y, hy, hx⟩
  obtain ⟨h1, h2, h3⟩ := rowP_mem.1 hx
  have := List.mem_range.1 hy
  exact ⟨by omega, by omega, h3⟩
 ·rintro ⟨h1, h2, h3⟩
  exact ⟨x.a, List.mem_range.2 h1, rowP_mem.2 ⟨rfl, h2, h3⟩⟩
def lexP (x y : Pr) : Prop := x.a < y.a ∨ x.a = y.a ∧ x.b < y.b
theorem rowP_lex (a b : Nat) : (rowP a b).Pairwise lexP := by
 unfold rowP
 rw [List.pairwise_map]
 exact (List.pairwise_lt_range.filter _).imp fun h => .inr ⟨rfl, h⟩
theorem upA_lex (n : Nat) : ∀ a, (upA n a).Pairwise lexP
 | 0 => List.Pairwise.nil
 | a + 1 => by
  rw [upA_s, List.pairwise_append]
  refine ⟨upA_lex n a, rowP_lex a n, fun x hx y hy => ?_⟩
  have h1 := upA_mem.1 hx
  have h2 := rowP_mem.1 hy
  exact .inl (by omega)
def rndR (n M r : Nat) : List Pr := (upA n n).filter fun x => decide (meetL M x.a x.b = r)
theorem rndR_mem {n M r : Nat} {x : Pr} : x ∈ rndR n M r ↔ (x.a < x.b ∧ x.b < n) ∧ meetL M x.a x.b = r := by
 unfold rndR
 rw [List.mem_filter, upA_mem, decide_eq_true_iff]
 constructor
 ·rintro ⟨⟨_, h1, h2⟩, h3⟩; exact ⟨⟨h1, h2⟩, h3⟩
 ·rintro ⟨⟨h1, h2⟩, h3⟩; exact ⟨⟨by omega, h1, h2⟩, h3⟩
theorem rndR_up {n q r : Nat} (hn : n ≤ 2 * q + 2) : (rndR n (2 * q + 1) r).Pairwise fun x y => x.a < y.a := by
 have h := (upA_lex n n).filter fun x => decide (meetL (2 * q + 1) x.a x.b = r)
 refine List.Pairwise.imp_of_mem (fun {x y} hx hy hl => ?_) h
 have h1 := rndR_mem.1 hx
 have h2 := rndR_mem.1 hy
 rcases hl with hl | ⟨hl, hb⟩
 ·exact hl
 ·have := meet_inj (q := q) h1.1.1 hb (by omega)
  rw [h1.2, hl, h2.2] at this
  exact absurd rfl this
theorem rndU_mem {n q r : Nat} (hr : r < 2 * q + 1) (hn : n ≤ 2 * q + 2) (x : Pr) : x ∈ rndU n (2 * q + 1) r (q + 1) ↔ x ∈ rndR n (2 * q + 1) r := by
 rw [rndR_mem]
 unfold rndU
 rw [List.mem_filter, List.mem_map, decide_eq_true_iff]
 constructor
 ·rintro ⟨⟨k, hk, rfl⟩, hb⟩
  have hk := List.mem_range.1 hk
  exact ⟨⟨(mt_lt hr (by omega)).1, hb⟩, mt_meet hr (by omega)⟩
 ·rintro ⟨⟨h1, h2⟩, h3⟩
  obtain ⟨k, hk, e⟩ := mt_ex (q := q) h1 (by omega) h3
  exact ⟨⟨k, List.mem_range.2 (by omega), e⟩, h2⟩
theorem rndU_nd {n q r : Nat} (hr : r < 2 * q + 1) : ((rndU n (2 * q + 1) r (q + 1)).map Pr.a).Nodup := by
 unfold rndU List.Nodup
 rw [List.pairwise_map]
 refine List.Pairwise.filter _ ?_
 rw [List.pairwise_map]
 refine List.Pairwise.imp_of_mem (fun {k l} hk hl h => ?_) List.pairwise_lt_range
 have := List.mem_range.1 hl
 exact mt_inj hr h (by omega)
theorem up_one : ∀ (l m : List Pr), (∀ x, x ∈ l ↔ x ∈ m) → l.Pairwise (fun x y => x.a < y.a) → m.Pairwise (fun x y => x.a < y.a) → l = m
 | [], [], _, _, _ => rfl
 | [], y :: _, h, _, _ => by have := (h y).2 List.mem_cons_self; simp at this
 | x :: _, [], h, _, _ => by have := (h x).1 List.mem_cons_self; simp at this
 | x :: r, y :: s, h, h1, h2 => by
  obtain ⟨a1, a2⟩ := List.pairwise_cons.1 h1
  obtain ⟨b1, b2⟩ := List.pairwise_cons.1 h2
  have hxy : x = y := by
   rcases List.mem_cons.1 ((h x).1 List.mem_cons_self) with e | e
   ·exact e
   ·rcases List.mem_cons.1 ((h y).2 List.mem_cons_self) with e' | e'
    ·exact e'.symm
    ·have := b1 x e; have := a1 y e'; omega
  subst hxy
  rw [up_one r s (fun z => ?_) a2 b2]
  constructor
  ·intro hz
   rcases List.mem_cons.1 ((h z).1 (List.mem_cons_of_mem _ hz)) with e | e
   ·subst e; have := a1 z hz; omega
   ·exact e
  ·intro hz
   rcases List.mem_cons.1 ((h z).2 (List.mem_cons_of_mem _ hz)) with e | e
   ·subst e; have := b1 z hz; omega
   ·exact e
def cmP (a b : Nat) : Int := if (a : Int) < b then -1 else if (b : Int) < a then 1 else 0
def cfP (x y : Pr) : Int := cmP x.a y.a
theorem ltOf_cfP (x y : Pr) : ltOf cfP x y = decide (x.a < y.a) := by
 unfold ltOf cfP cmP
 rw [Bool.eq_iff_iff, decide_eq_true_iff, decide_eq_true_iff]
 split <;> (try split) <;> omega
theorem swo_cfP : SWO (ltOf cfP) := by
 refine ⟨fun x => ?_, fun x y z h1 h2 => ?_, fun x y z h1 h2 => ?_⟩ <;> simp only [ltOf_cfP, decide_eq_true_iff, decide_eq_false_iff_not] at * <;> omega
theorem sort_rnd {n q r : Nat} (hr : r < 2 * q + 1) (hn : n ≤ 2 * q + 2) (d' : Array Pr) (hp : PermIn 0 (rndU n (2 * q + 1) r (q + 1)).length (rndU n (2 * q + 1) r (q + 1)).toArray d') (hs : SortedIn (ltOf cfP) 0 (rndU n (2 * q + 1) r (q + 1)).length d') : d'.toList = rndR n (2 * q + 1) r := by
 have hm := rndU_mem hr hn
 have hd := rndU_nd (n := n) hr
 generalize rndU n (2 * q + 1) r (q + 1) = U at *
 obtain ⟨p1, -, p3⟩ := hp
 have hsz : d'.size = U.length := by simpa using p1
 have hperm : d'.toList.Perm U := by
  have e1 : d'.extract 0 U.length = d' := by rw [← hsz]; exact Array.extract_size
  have e2 : U.toArray.extract 0 U.length = U.toArray := by
   have := Array.extract_size (xs := U.toArray)
   simpa using this
  rw [e1, e2] at p3
  simpa using p3
 refine up_one _ _ (fun x => (hperm.mem_iff).trans (hm x)) ?_ (rndR_up hn)
 have hnd := ((hperm.map Pr.a).nodup_iff).2 hd
 rw [List.pairwise_iff_getElem]
 intro i j hi hj hij
 have hi' : i < d'.size := by simpa using hi
 have hj' : j < d'.size := by simpa using hj
 have h1 := hs i j (Nat.zero_le _) hij (by rw [← hsz]; exact hj')
 rw [ltOf_cfP, getElem!_pos d' i hi', getElem!_pos d' j hj'] at h1
 have h2 : d'.toList[i].a ≠ d'.toList[j].a := by
  unfold List.Nodup at hnd
  rw [List.pairwise_map, List.pairwise_iff_getElem] at hnd
  exact hnd i j hi hj hij
 have h3 := decide_eq_false_iff_not.1 h1
 simp only [Array.getElem_toList] at h2 ⊢
 omega
end Go.Proofs.Ytjdgmcmekcgjgaa
namespace Go.Proofs.Ytjdgmcmekcgjgaa
set_option linter.all false
open Go.RowKit
theorem Conc.ghost {H : Hist} {s : St} {F F' : Nat → Prop} {β β' : Nat → Option Bind} {a : Act} {w : World} (C : Conc H s F β a w) {h' : List (Nat × Chunk)} {n' : Nat} (hn : s.n ≤ n') (M : MemOk H.W H.N (· < n') F' β' (lookC h') w) (E : Ext (· < s.n) F β w (· < n') F' β' w)
 (hg : ∀ b, F' b → F b ∨ ∃ i bd, β i = some bd ∧ bd.has b) : Conc H ⟨s.t, h', n'⟩ F' β' a w := by
 refine ⟨fun t => RelA.mono E _ _ (C.t t), M, C.nt, C.d.mono E.f, fun b hb => (E.f b (C.f b hb)).1, fun b hb => ?_, fun i bd hi hb => ?_, Nat.le_trans C.k hn⟩
 ·rcases hg b hb with h | ⟨i, bd, h1, h2⟩
  ·exact C.g b h
  ·exact .inr (C.m.off i bd b h1 h2).2.2
 ·obtain ⟨bs, h1⟩ := E.e i bd (Nat.lt_of_lt_of_le hi C.k) hb
  exact C.e i ⟨_, _, _, _, bs⟩ hi h1
theorem MemOk.here' {W : World} {N U F : Nat → Prop} {β : Nat → Option Bind} {h : Nat → Chunk} {w : World} (M : MemOk W N U F β h w) {id : Nat} {c : Chunk} (hc : h id = c) (hd : c ≠ .dead) : ∃ bd, β id = some bd ∧ ChOk U w F β bd c := M.get (fun _ _ => rfl) hc hd
theorem To.nst {k : Nat} {s : St} (id e sz c e2 sz2 : Nat) (xs : List (List PV)) (hc : lookC s.h id = .row e sz xs) (hcs : c < sz) (hx : ∀ x ∈ xs, x[c]? = some (.v (.slice none 0 0))) :
 ToK k s ⟨s.t, (id, .nst e sz c e2 sz2 xs (List.replicate xs.length []) none) :: s.h, s.n⟩ := by
 intro H F β a w hk C
 obtain ⟨bd, hb, q1, q2, q3, q4⟩ := C.m.here' hc (by simp)
 have hU := C.m.used _ _ hb
 obtain ⟨S1, S2⟩ := C.m.step (w' := w) (h' := lookC ((id, .nst e sz c e2 sz2 xs (List.replicate xs.length []) none) :: s.h)) (β' := β) (F' := F) (U' := (· < s.n)) (fun i => i = id)
  (fun i hi => rfl) (fun i hi => by simp only [lookC, if_neg (Ne.symm hi)]) rfl rfl rfl (Nat.le_refl _) (fun _ _ _ => rfl) (fun _ h => h) (fun _ h => h) (fun b hb => ⟨C.m.fin b hb, .inl hb⟩)
  (fun i bd' _ _ hb' => ⟨_, hb'⟩)
  (fun i bd' hi hb' => by
   subst hi
   refine ⟨hU, fun b hbb => ?_⟩
   have := C.m.off _ _ b hb' hbb
   exact ⟨this.2.1, this.1, .inr ⟨i, bd', rfl, hb', hbb⟩⟩)
  (fun i j _ _ _ hi hj _ _ _ _ => by rw [hi, hj])
  (fun E i hi _ => by
   subst hi
   refine ⟨bd, hb, ?_⟩
   simp only [lookC, if_true]
   refine ⟨⟨q1.1, by rw [q1.2]; simp⟩, q2, by simp, hcs, q3, ?_⟩
   rcases q4 with ⟨h1, h2, h3⟩ | ⟨g, cap, cur, h5, h6, h7, h8, h9, h10, hE⟩
   ·exact .inl ⟨h1, h2, h3, rfl⟩
   ·refine .inr ⟨g, cap, cur, h5, h6, h7, h8, h9, h10, by rw [q1.2]; simp, ?_⟩
    have cel : ∀ i x, xs[i]? = some x → w.cell? ⟨g, i * sz + c, none⟩ = some (.slice none 0 0) := by
     intro i x hxi
     obtain ⟨_, hC⟩ := hE.at i x hxi
     obtain ⟨u, hu, hr⟩ := hC.at c _ (hx x (List.mem_of_getElem? hxi))
     simp only [RelP] at hr
     rw [Nat.zero_add] at hu
     rw [hu, hr.1]
    refine ⟨fun i x y hxi hyi j p hp => ?_, fun i i' b o o' n n' k1 k2 l1 l2 _ _ c1 _ => ?_, fun i id' ho => by simp at ho⟩
    ·obtain ⟨_, hC⟩ := hE.at i x hxi
     obtain ⟨u, hu, hr⟩ := hC.at j p hp
     refine ⟨u, by simpa using hu, ?_⟩
     unfold NCell
     simp only [opAt]
     split
     ·rename_i hj
      subst hj
      have := cel i x hxi
      rw [Nat.zero_add, this] at hu
      cases hu
      exact .inl ⟨rfl, (List.eq_of_mem_replicate (List.mem_of_getElem? hyi))⟩
     ·exact hr
    ·rw [cel i xs[i] (by simp [l1])] at c1
     simp at c1)
 exact ⟨F, β, C.ghost (Nat.le_refl _) S1 S2 fun b hb => .inl hb⟩
theorem To.open {k : Nat} {s : St} (id i e sz c e2 sz2 : Nat) (xs : List (List PV)) (ys : List (List (List PV))) (hc : lookC s.h id = .nst e sz c e2 sz2 xs ys none) (hi : i < xs.length) :
 ToK k s ⟨s.t, (id, .nst e sz c e2 sz2 xs ys (some (i, s.n))) :: (s.n, .row e2 sz2 (ys.getD i [])) :: s.h, s.n + 1⟩ := by
 intro H F β a w hk C
 obtain ⟨bd, hb, q1, q2, q3, q4, q5, q6⟩ := C.m.here' hc (by simp)
 have hU := C.m.used _ _ hb
 have hne : id ≠ s.n := Nat.ne_of_lt hU
 have hb0 : ∀ bd, β s.n ≠ some bd := fun bd hb => absurd (C.m.used _ bd hb) (Nat.lt_irrefl _)
 rcases q6 with ⟨_, rfl, _⟩ | ⟨g, cap, cur, h5, h6, h7, h8, h9, h10, h11, h12⟩
 ·simp at hi
 have hyi : i < ys.length := by rw [q3]; exact hi
 have hxi : xs[i]? = some xs[i] := by simp [hi]
 have hyd : ys[i]? = some (ys.getD i []) := by simp [hyi]
 have hxl : xs[i].length = sz := q5 _ (List.getElem_mem hi)
 obtain ⟨u, hu, hn⟩ := h12.cells i _ _ hxi hyd c (xs[i][c]'(by rw [hxl]; exact q4)) (by simp)
 have hn : InnOk w F bd.bs e2 sz2 (ys.getD i []) u := by
  unfold NCell at hn
  simpa only [opAt, if_true] using hn
 -- the new piece
 obtain ⟨bn, rest, e1, e2', e3, e4, e5, e6⟩ : ∃ (bn : Bind) (rest : List Nat), bn.v = u ∧ ChOk (· < s.n + 1) w F (updB (updB β id (some ⟨bd.v, bd.b, bd.n, bd.sz, rest⟩)) s.n (some bn)) bn (.row e2 sz2 (ys.getD i [])) ∧ (∀ b, bn.has b → b ∈ bd.bs ∧ b ∉ rest) ∧ (∀ b, b ∈ rest → b ∈ bd.bs) ∧
  (∀ b, b ∈ bd.bs → (∀ o n q, u ≠ .slice (some ⟨b, o, none⟩) n q) → b ∈ rest) ∧ bn.bs = [] := by
  rcases hn with ⟨rfl, hy⟩ | ⟨g2, cap2, cur2, rfl, k2, k3, k4, k5, k6, k7⟩
  ·refine ⟨⟨.slice none 0 0, none, 0, sz2, []⟩, bd.bs, rfl, ?_, fun b hbb => by have := Bind.has_nil hbb; simp at this, fun b h => h, fun b h _ => h, rfl⟩
   rw [hy]
   exact ⟨⟨rfl, rfl⟩, rfl, by simp, .inl ⟨rfl, rfl, rfl⟩⟩
  ·refine ⟨⟨.slice (some ⟨g2, 0, none⟩) (ys.getD i []).length cap2, some g2, (ys.getD i []).length, sz2, []⟩, bd.bs.filter (fun b => !(b == g2)), rfl, ?_, fun b hbb => ?_, fun b h => (List.mem_filter.1 h).1, fun b h hno => ?_, rfl⟩
   ·refine ⟨⟨rfl, rfl⟩, rfl, fun cs hcs => ?_, .inr ⟨g2, cap2, cur2, rfl, rfl, k3, k4, k5, k6, k7⟩⟩
    obtain ⟨q, hq⟩ := List.getElem?_of_mem hcs
    exact (k7.at q cs hq).1
   ·have := Bind.has_nil hbb
    cases this
    exact ⟨k2, by simp⟩
   ·refine List.mem_filter.2 ⟨h, ?_⟩
    simp only [Bool.not_eq_true', beq_eq_false_iff_ne, ne_eq]
    rintro rfl
    exact hno _ _ _ rfl
 obtain ⟨S1, S2⟩ := C.m.step (w' := w) (h' := lookC ((id, .nst e sz c e2 sz2 xs ys (some (i, s.n))) :: (s.n, .row e2 sz2 (ys.getD i [])) :: s.h)) (β' := updB (updB β id (some ⟨bd.v, bd.b, bd.n, bd.sz, rest⟩)) s.n (some bn)) (F' := F) (U' := (· < s.n + 1)) (fun i => i = id ∨ i = s.n)
  (fun j hj => by simp only [not_or] at hj; simp only [updB, if_neg (Ne.symm hj.1), if_neg (Ne.symm hj.2)])
  (fun j hj => by simp only [not_or] at hj; simp only [lookC, if_neg (Ne.symm hj.1), if_neg (Ne.symm hj.2)])
  rfl rfl rfl (Nat.le_refl _) (fun _ _ _ => rfl) (fun _ h => Nat.lt_succ_of_lt h) (fun _ h => h) (fun b hb => ⟨C.m.fin b hb, .inl hb⟩)
  (fun j bd' hj hu hb' => by
   rcases hj with rfl | rfl
   ·simp only [updB, if_neg (Ne.symm hne), if_true, Option.some.injEq] at hb'
    subst hb'
    exact ⟨bd.bs, hb⟩
   ·exact absurd hu (Nat.lt_irrefl _))
  (fun j bd' hj hb' => by
   rcases hj with rfl | rfl
   ·simp only [updB, if_neg (Ne.symm hne), if_true, Option.some.injEq] at hb'
    subst hb'
    refine ⟨Nat.lt_succ_of_lt hU, fun b hbb => ?_⟩
    have hbb' : bd.has b := hbb.imp id (e4 b)
    have := C.m.off _ _ b hb hbb'
    exact ⟨this.2.1, this.1, .inr ⟨j, bd, .inl rfl, hb, hbb'⟩⟩
   ·simp only [updB, if_true, Option.some.injEq] at hb'
    subst hb'
    refine ⟨Nat.lt_succ_self _, fun b hbb => ?_⟩
    have hbb' : bd.has b := .inr (e3 b hbb).1
    have := C.m.off _ _ b hb hbb'
    exact ⟨this.2.1, this.1, .inr ⟨id, bd, .inl rfl, hb, hbb'⟩⟩)
  (fun j j' bj bj' b hj hj' hbj hbj' h1 h2 => by
   have key : ∀ b, (⟨bd.v, bd.b, bd.n, bd.sz, rest⟩ : Bind).has b → bn.has b → False := by
    intro b h1 h2
    obtain ⟨m1, m2⟩ := e3 b h2
    rcases h1 with h1 | h1
    ·rw [h5] at h1; cases h1; exact h11 m1
    ·exact m2 h1
   rcases hj with rfl | rfl <;> rcases hj' with rfl | rfl
   ·rfl
   ·simp only [updB, if_neg (Ne.symm hne), if_true, Option.some.injEq] at hbj hbj'
    subst hbj hbj'
    exact (key b h1 h2).elim
   ·simp only [updB, if_neg (Ne.symm hne), if_true, Option.some.injEq] at hbj hbj'
    subst hbj hbj'
    exact (key b h2 h1).elim
   ·rfl)
  (fun E j hj _ => by
   rcases hj with rfl | rfl
   ·refine ⟨⟨bd.v, bd.b, bd.n, bd.sz, rest⟩, by simp [updB, Ne.symm hne], ?_⟩
    simp only [lookC, if_true]
    refine ⟨⟨q1.1, fun b hbb => q1.2 b (e4 b hbb)⟩, q2, q3, q4, q5, .inr ⟨g, cap, cur, h5, h6, h7, h8, h9, h10, fun h => h11 (e4 g h), ?_⟩⟩
    refine ⟨fun i' x y hx hy j' p hp => ?_, fun i1 i2 b o1 o2 n1 n2 k1 k2 l1 l2 m1 m2 c1 c2 => h12.inj i1 i2 b o1 o2 n1 n2 k1 k2 l1 l2 rfl rfl c1 c2, fun i' id' ho => ?_⟩
    ·obtain ⟨u', hu', hn'⟩ := h12.cells i' x y hx hy j' p hp
     refine ⟨u', hu', ?_⟩
     unfold NCell at hn' ⊢
     split
     ·rename_i hj'
      subst hj'
      simp only [if_true, opAt] at hn' ⊢
      by_cases hii : i = i'
      ·subst hii
       rw [hu'] at hu
       cases hu
       rw [if_pos rfl]
       refine ⟨Nat.lt_succ_self _, hn'.one, fun bd' hbd' => ?_⟩
       simp only [updB, if_true, Option.some.injEq] at hbd'
       subst hbd'
       exact e1.symm
      ·rw [if_neg hii]
       rcases hn' with h | ⟨g3, cap3, cur3, rfl, k2, k3⟩
       ·exact .inl h
       ·refine .inr ⟨g3, cap3, cur3, rfl, e5 g3 k2 fun o n q hq => hii ?_, k3⟩
        subst hq
        exact h12.inj i i' g3 _ _ _ _ _ _ hi (List.getElem?_eq_some_iff.1 hx).1 rfl rfl hu hu'
     ·rename_i hj'
      rw [if_neg hj'] at hn'
      exact hn'
    ·simp only [Option.some.injEq, Prod.mk.injEq] at ho
     obtain ⟨rfl, rfl⟩ := ho
     exact ⟨Nat.lt_succ_self _, hi⟩
   ·refine ⟨bn, by simp [updB], ?_⟩
    simp only [lookC, if_neg hne, if_true]
    exact e2')
 exact ⟨F, _, C.ghost (Nat.le_succ _) S1 S2 fun b hb => .inl hb⟩
theorem To.close {k : Nat} {s : St} (id i j e sz c e2 sz2 : Nat) (xs : List (List PV)) (ys : List (List (List PV))) (zs : List (List PV)) (hc : lookC s.h id = .nst e sz c e2 sz2 xs ys (some (i, j))) (hj : lookC s.h j = .row e2 sz2 zs) :
 ToK k s ⟨s.t, (id, .nst e sz c e2 sz2 xs (ys.set i zs) none) :: (j, .dead) :: s.h, s.n⟩ := by
 intro H F β a w hk C
 obtain ⟨bd, hb, q1, q2, q3, q4, q5, q6⟩ := C.m.here' hc (by simp)
 obtain ⟨bj, hbj, z1, z2, z3, z4⟩ := C.m.here' hj (by simp)
 have hU := C.m.used _ _ hb
 have hUj := C.m.used _ _ hbj
 have hne : id ≠ j := by rintro rfl; rw [hc] at hj; simp at hj
 rcases q6 with ⟨_, _, _, h⟩ | ⟨g, cap, cur, h5, h6, h7, h8, h9, h10, h11, h12⟩
 ·simp at h
 have hi := (h12.opu _ _ rfl).2
 have hoth : ∀ i', opAt (some (i, j)) i' = none → ¬ i = i' := fun i' h hh => by simp [opAt, hh] at h
 have jb : ∀ b, bj.b = some b → b ∉ bd.bs ∧ b ≠ g := fun b hbb => ⟨fun h => hne (C.m.dis id j bd bj b hb hbj (.inr h) (.inl hbb)), fun h => hne (C.m.dis id j bd bj b hb hbj (.inl (h ▸ h5)) (.inl hbb))⟩
 let bd' : Bind := ⟨bd.v, bd.b, bd.n, bd.sz, bj.b.toList ++ bd.bs⟩
 have hin : ∀ b, b ∈ bj.b.toList → bj.b = some b := fun q hq => by
  cases hb : bj.b with
  | none => rw [hb] at hq; simp at hq
  | some q' => rw [hb] at hq; simp at hq; rw [hq]
 have hhas : ∀ b, bd'.has b → bd.has b ∨ bj.has b := by
  intro b hb
  rcases hb with hb | hb
  ·exact .inl (.inl hb)
  ·rcases List.mem_append.1 hb with hb | hb
   ·exact .inr (.inl (hin b hb))
   ·exact .inl (.inr hb)
 obtain ⟨S1, S2⟩ := C.m.step (w' := w) (h' := lookC ((id, .nst e sz c e2 sz2 xs (ys.set i zs) none) :: (j, .dead) :: s.h)) (β' := updB (updB β id (some bd')) j none) (F' := F) (U' := (· < s.n)) (fun i => i = id ∨ i = j)
  (fun j' hj => by simp only [not_or] at hj; simp only [updB, if_neg (Ne.symm hj.1), if_neg (Ne.symm hj.2)])
  (fun j' hj => by simp only [not_or] at hj; simp only [lookC, if_neg (Ne.symm hj.1), if_neg (Ne.symm hj.2)])
  rfl rfl rfl (Nat.le_refl _) (fun _ _ _ => rfl) (fun _ h => h) (fun _ h => h) (fun b hb => ⟨C.m.fin b hb, .inl hb⟩)
  (fun j' bd0 hj hu hb' => by
   rcases hj with rfl | rfl
   ·simp only [updB, if_neg (Ne.symm hne), if_true, Option.some.injEq] at hb'
    subst hb'
    exact ⟨bd.bs, hb⟩
   ·simp [updB] at hb')
  (fun j' bd0 hj hb' => by
   rcases hj with rfl | rfl
   ·simp only [updB, if_neg (Ne.symm hne), if_true, Option.some.injEq] at hb'
    subst hb'
    refine ⟨hU, fun b hbb => ?_⟩
    rcases hhas b hbb with h | h
    ·have := C.m.off _ _ b hb h
     exact ⟨this.2.1, this.1, .inr ⟨j', bd, .inl rfl, hb, h⟩⟩
    ·have := C.m.off _ _ b hbj h
     exact ⟨this.2.1, this.1, .inr ⟨j, bj, .inr rfl, hbj, h⟩⟩
   ·simp [updB] at hb')
  (fun j1 j2 b1 b2 b h1 h2 hb1 hb2 _ _ => by
   have only : ∀ i bi, (i = id ∨ i = j) → updB (updB β id (some bd')) j none i = some bi → i = id := by
    intro i bi hi hb
    rcases hi with rfl | rfl
    ·rfl
    ·simp [updB] at hb
   rw [only j1 b1 h1 hb1, only j2 b2 h2 hb2])
  (fun E j' hj' hd => by
   rcases hj' with rfl | rfl
   ·refine ⟨bd', by simp [updB, Ne.symm hne], ?_⟩
    simp only [lookC, if_true]
    have cin : InnOk w F bd'.bs e2 sz2 zs bj.v := by
     rcases z4 with ⟨_, m2, m3⟩ | ⟨g2, cap2, cur2, m1, m2, m3, m4, m5, m6, m7⟩
     ·exact .inl ⟨m3, m2⟩
     ·exact .inr ⟨g2, cap2, cur2, m2, by simp [bd', m1], m3, m4, m5, m6, m7⟩
    refine ⟨⟨q1.1, fun b hbb => ?_⟩, q2, by simp [q3], q4, q5, .inr ⟨g, cap, cur, h5, h6, h7, h8, h9, h10, fun h => ?_, ?_⟩⟩
    ·rcases List.mem_append.1 hbb with hbb | hbb
     ·have hbb := hin b hbb
      rcases z4 with ⟨m1, _⟩ | ⟨g2, cap2, cur2, m1, m2, m3, _⟩
      ·rw [hbb] at m1; simp at m1
      ·rw [hbb] at m1; cases m1; exact ⟨cur2, m3⟩
     ·exact q1.2 b hbb
    ·rcases List.mem_append.1 h with h | h
     ·exact (jb g (hin g h)).2 rfl
     ·exact h11 h
    ·have cellc : ∀ i', i' < xs.length → ∃ u, w.cell? ⟨g, i' * sz + c, none⟩ = some u ∧ ((i' = i ∧ u = bj.v) ∨ (¬ i = i' ∧ ∃ y, ys[i']? = some y ∧ InnOk w F bd.bs e2 sz2 y u)) := by
      intro i' hi'
      have hxl : xs[i'].length = sz := q5 _ (List.getElem_mem hi')
      have hyi : i' < ys.length := by rw [q3]; exact hi'
      obtain ⟨u, hu, hn⟩ := h12.cells i' _ _ (List.getElem?_eq_getElem hi') (List.getElem?_eq_getElem hyi) c (xs[i'][c]'(by rw [hxl]; exact q4)) (by simp)
      refine ⟨u, hu, ?_⟩
      unfold NCell at hn
      simp only [if_true, opAt] at hn
      by_cases hii : i = i'
      ·rw [if_pos hii] at hn
       exact .inl ⟨hii.symm, hn.2.2 bj hbj⟩
      ·rw [if_neg hii] at hn
       exact .inr ⟨hii, _, List.getElem?_eq_getElem hyi, hn⟩
     have hold : ∀ b o n q, bj.v = .slice (some ⟨b, o, none⟩) n q → bj.b = some b := by
      intro b o n q h
      rcases z4 with ⟨_, _, m3⟩ | ⟨g2, cap2, cur2, m1, m2, _⟩
      ·rw [m3] at h; simp at h
      ·rw [m2] at h
       simp only [Value.slice.injEq, Option.some.injEq, Addr.mk.injEq] at h
       rw [m1, h.1.1]
     refine ⟨fun i' x y hx hy j' p hp => ?_, fun i1 i2 b o1 o2 n1 n2 k1 k2 l1 l2 _ _ c1 c2 => ?_, fun i' id' ho => by simp at ho⟩
     ·have hi' : i' < xs.length := (List.getElem?_eq_some_iff.1 hx).1
      by_cases hjc : j' = c
      ·subst hjc
       obtain ⟨u, hu, hn⟩ := cellc i' hi'
       refine ⟨u, hu, ?_⟩
       unfold NCell
       simp only [if_true, opAt]
       rcases hn with ⟨rfl, rfl⟩ | ⟨hii, y', hy', hn⟩
       ·rw [List.getElem?_set_self (by rw [q3]; exact hi')] at hy
        cases hy
        exact cin
       ·rw [List.getElem?_set_ne hii, hy'] at hy
        cases hy
        exact hn.wide (fun b hb => ⟨hb, rfl⟩) fun q hq => ⟨List.mem_append.2 (.inr hq), rfl⟩
      ·have hyi : i' < ys.length := by rw [q3]; exact hi'
       obtain ⟨u, hu, hn⟩ := h12.cells i' x _ hx (List.getElem?_eq_getElem hyi) j' p hp
       refine ⟨u, hu, ?_⟩
       unfold NCell at hn ⊢
       rw [if_neg hjc] at hn ⊢
       exact hn
     ·obtain ⟨u1, hu1, hn1⟩ := cellc i1 l1
      obtain ⟨u2, hu2, hn2⟩ := cellc i2 l2
      rw [c1] at hu1; cases hu1
      rw [c2] at hu2; cases hu2
      rcases hn1 with ⟨rfl, e1⟩ | ⟨m1, y1, _, e1⟩ <;> rcases hn2 with ⟨rfl, e2'⟩ | ⟨m2, y2, _, e2'⟩
      ·rfl
      ·exact ((jb b (hold b _ _ _ e1.symm)).1 e2'.blk).elim
      ·exact ((jb b (hold b _ _ _ e2'.symm)).1 e1.blk).elim
      ·have o1' : opAt (some (i, j)) i1 = none := by simp [opAt, m1]
       have o2' : opAt (some (i, j)) i2 = none := by simp [opAt, m2]
       exact h12.inj i1 i2 b o1 o2 n1 n2 k1 k2 l1 l2 o1' o2' c1 c2
   ·exact (hd (by simp [lookC, hne])).elim)
 exact ⟨F, _, C.ghost (Nat.le_refl _) S1 S2 fun b hb => .inl hb⟩
def unN (c sz2 : Nat) (xs : List (List PV)) (ys : List (List (List PV))) : List (List PV) := List.zipWith (fun x y => x.set c (.sl sz2 y)) xs ys
theorem To.frzN {k : Nat} {s : St} (id e sz c e2 sz2 : Nat) (xs : List (List PV)) (ys : List (List (List PV))) (hc : lookC s.h id = .nst e sz c e2 sz2 xs ys none) :
 ToK k s ⟨s.t, (id, .row e sz (unN c sz2 xs ys)) :: s.h, s.n⟩ := by
 intro H F β a w hk C
 obtain ⟨bd, hb, q1, q2, q3, q4, q5, q6⟩ := C.m.here' hc (by simp)
 have hU := C.m.used _ _ hb
 let bd' : Bind := ⟨bd.v, bd.b, bd.n, bd.sz, []⟩
 have hF : ∀ b, b ∈ bd.bs → bd.b ≠ some b := by
  intro b hbb h
  rcases q6 with ⟨h1, _⟩ | ⟨g, cap, cur, h5, _, _, _, _, _, h11, _⟩
  ·rw [h] at h1; simp at h1
  ·rw [h] at h5; cases h5; exact h11 hbb
 obtain ⟨S1, S2⟩ := C.m.step (w' := w) (h' := lookC ((id, .row e sz (unN c sz2 xs ys)) :: s.h)) (β' := updB β id (some bd')) (F' := fun b => F b ∨ b ∈ bd.bs) (U' := (· < s.n)) (fun i => i = id)
  (fun i hi => by simp only [updB, if_neg (Ne.symm hi)]) (fun i hi => by simp only [lookC, if_neg (Ne.symm hi)]) rfl rfl rfl (Nat.le_refl _) (fun _ _ _ => rfl) (fun _ h => h) (fun _ h => .inl h)
  (fun b hbb => by
   rcases hbb with hbb | hbb
   ·exact ⟨C.m.fin b hbb, .inl hbb⟩
   ·exact ⟨(C.m.off _ _ b hb (.inr hbb)).2.1, .inr (.inr ⟨id, bd, rfl, hb, .inr hbb⟩)⟩)
  (fun i bd0 hi _ hb' => by
   subst hi
   simp only [updB, if_true, Option.some.injEq] at hb'
   subst hb'
   exact ⟨bd.bs, hb⟩)
  (fun i bd0 hi hb' => by
   subst hi
   simp only [updB, if_true, Option.some.injEq] at hb'
   subst hb'
   refine ⟨hU, fun b hbb => ?_⟩
   have hbb := Bind.has_nil hbb
   have := C.m.off _ _ b hb (.inl hbb)
   exact ⟨this.2.1, fun h => h.elim this.1 fun h => hF b h hbb, .inr ⟨i, bd, rfl, hb, .inl hbb⟩⟩)
  (fun i j _ _ _ hi hj _ _ _ _ => by rw [hi, hj])
  (fun E i hi _ => by
   subst hi
   refine ⟨bd', by simp [updB], ?_⟩
   simp only [lookC, if_true]
   have hl : (unN c sz2 xs ys).length = xs.length := by simp [unN, q3]
   refine ⟨⟨q1.1, rfl⟩, by rw [hl]; exact q2, fun cs hcs => ?_, ?_⟩
   ·obtain ⟨q, hq⟩ := List.getElem?_of_mem hcs
    unfold unN at hq
    rw [List.getElem?_zipWith] at hq
    cases h1 : xs[q]? with
    | none => rw [h1] at hq; simp at hq
    | some x => cases h2 : ys[q]? with
     | none => rw [h1, h2] at hq; simp at hq
     | some y =>
      rw [h1, h2] at hq
      simp only [Option.some.injEq] at hq
      subst hq
      rw [List.length_set]; exact q5 x (List.mem_of_getElem? h1)
   ·rcases q6 with ⟨h1, h2, h3, _⟩ | ⟨g, cap, cur, h5, h6, h7, h8, h9, h10, h11, h12⟩
    ·refine .inl ⟨h1, ?_, h3⟩
     exact List.eq_nil_of_length_eq_zero (by rw [hl, h2]; rfl)
    ·refine .inr ⟨g, cap, cur, h5, by rw [hl]; exact h6, h7, by rw [hl]; exact h8, h9, h10, RelE.of fun q cs hq => ?_⟩
     unfold unN at hq
     rw [List.getElem?_zipWith] at hq
     cases h1 : xs[q]? with
     | none => rw [h1] at hq; simp at hq
     | some x => cases h2 : ys[q]? with
      | none => rw [h1, h2] at hq; simp at hq
      | some y =>
       rw [h1, h2] at hq
       simp only [Option.some.injEq] at hq
       subst hq
       have hxl := q5 x (List.mem_of_getElem? h1)
       refine ⟨by rw [List.length_set]; exact hxl, RelC.of fun j p hp => ?_⟩
       have hjl : j < x.length := by have := (List.getElem?_eq_some_iff.1 hp).1; simpa using this
       obtain ⟨u, hu, hn⟩ := h12.cells q x y h1 h2 j x[j] (List.getElem?_eq_getElem hjl)
       refine ⟨u, by simpa using hu, ?_⟩
       unfold NCell at hn
       by_cases hj : j = c
       ·subst hj
        rw [List.getElem?_set_self hjl] at hp
        cases hp
        simp only [if_true, opAt] at hn
        simp only [RelP]
        rcases hn with ⟨rfl, rfl⟩ | ⟨g2, cap2, cur2, rfl, k2, k3, k4, k5, k6, k7⟩
        ·exact ⟨none, 0, rfl, Nat.le_refl _, Nat.zero_le _, .inl rfl⟩
        ·exact ⟨_, cap2, rfl, k4, k5, .inr ⟨g2, 0, rfl, .inr k2, RelE.mono E.f rfl _ _ _ k7⟩⟩
       ·rw [List.getElem?_set_ne (fun h => hj h.symm), List.getElem?_eq_getElem hjl] at hp
        cases hp
        rw [if_neg hj] at hn
        exact RelP.mono E.f _ _ hn)
 exact ⟨_, _, C.ghost (Nat.le_refl _) S1 S2 fun b hbb => hbb.imp (fun h => h) fun h => ⟨id, bd, hb, .inr h⟩⟩
theorem MemOk.wkc {W : World} {N U F : Nat → Prop} {β : Nat → Option Bind} {h h' : Nat → Chunk} {w : World} (M : MemOk W N U F β h w) (hw : ∀ id, WkC (h id) (h' id)) : MemOk W N U F β h' w := by
 refine ⟨M.size, M.os, M.tape, M.output, M.frame, M.fin, M.used, fun id hd => ?_, M.dis, M.off⟩
 have hn : h id ≠ .dead := by
  intro e
  have := hw id
  rw [e] at this
  cases hc : h' id <;> rw [hc] at this <;> first | exact hd hc | exact this
 obtain ⟨bd, hb, hk⟩ := M.ch id hn
 exact ⟨bd, hb, (hw id).run hk⟩
theorem Spec.keep {P : Program} {f : FuncId} {args : List AV} {r : AV} {e sz : Nat} {xs : List (List PV)} (S : Spec P f args [] r [.row e sz xs]) : Spec P f args [] r [.keep e sz xs] := by
 refine ⟨S.1, S.2.1, fun w F β vs M hv => (S.2.2 w F β vs M hv).mono ?_⟩
 rintro en w' ⟨v, F', β', h1, h2, h3⟩
 refine ⟨v, F', β', h1, h2.wkc fun id => ?_, h3⟩
 cases id with
 | zero => exact ⟨rfl, rfl, rfl⟩
 | succ n => exact trivial
def endG (ops : Array Oper) (n : Nat) (K : St → Prop) (acc : List (List Nat × List Nat)) (s' : St) : Prop := drawOk ops acc = true ∧ K ⟨s'.t, s'.h, n + 4 * ops.size⟩
theorem drawG_w {P : Program} {nt : Nat} {ops : Array Oper} {K : St → Prop} {t : List (Nat × AV)} {h : List (Nat × Chunk)} {n : Nat} (ds : List (Option Tmp)) (hds : ops.toList.map (fun o : Oper => o.dst) = ds)
 (G : ∀ (O : Array Oper) (l : List Oper) (R : List (List Nat × List Nat) → St → Prop), l = ops.toList → (∀ j : Nat, (O[j]?).bind (fun o : Oper => o.dst) = (ds[j]?).bind id) → R = endG ops n K → drawL P nt O n 0 l [] R ⟨t, h, n⟩) : DrawG P nt ops K ⟨t, h, n⟩ := by
 refine G ops ops.toList _ rfl (fun j => ?_) rfl
 rw [← hds, List.getElem?_map, Array.getElem?_toList]
 cases ops[j]? <;> rfl
theorem peelD {P : Program} {nt : Nat} {O : Array Oper} {n i : Nat} {o : Oper} {r0 : List Oper} {acc : List (List Nat × List Nat)} {R : List (List Nat × List Nat) → St → Prop} {s : St}
 (G : ∀ r, r = r0 → drawL P nt O n i (o :: r) acc R s) : drawL P nt O n i (o :: r0) acc R s := G r0 rfl
theorem endD {P : Program} {nt : Nat} {O : Array Oper} {n i : Nat} {acc : List (List Nat × List Nat)} {R : List (List Nat × List Nat) → St → Prop} {t : List (Nat × AV)} {h : List (Nat × Chunk)} {m : Nat} (G : R acc ⟨t, h, m⟩) : drawL P nt O n i [] acc R ⟨t, h, m⟩ := G
theorem endE {ops : Array Oper} {n : Nat} {K : St → Prop} {acc : List (List Nat × List Nat)} {t : List (Nat × AV)} {h : List (Nat × Chunk)} {m : Nat} (G1 : drawOk ops acc = true) (G2 : K ⟨t, h, n + 4 * ops.size⟩) : endG ops n K acc ⟨t, h, m⟩ := ⟨G1, G2⟩
theorem look_fz (Z : List Nat) (h : Nat → Chunk) : ∀ (l : List (Nat × AV)) (t : Nat), look (l.map fun p => (p.1, fz Z h p.2)) t = fz Z h (look l t)
 | [], t => by simp only [List.map_nil, look, fz]
 | (k, x) :: r, t => by
  simp only [List.map_cons, look]
  by_cases e : k = t
  ·rw [if_pos e, if_pos e]
  ·rw [if_neg e, if_neg e]; exact look_fz Z h r t
theorem To.frz {k : Nat} {s : St} (Z : List Nat) : ToK k s ⟨s.t.map fun p => (p.1, fz Z (lookC s.h) p.2), deadsOf Z ++ s.h, s.n⟩ := by
 intro H F β a w hk C
 have M := fz_mem C.m Z
 have e : lookC (deadsOf Z ++ s.h) = fzH Z (lookC s.h) := by
  rw [← upd_look, upd_deads]
 refine ⟨fzF Z F β, fzB Z β, fun t => ?_, by rw [e]; exact M, C.nt, C.d.more fun _ hb => .inl hb, fun b hb => .inl (C.f b hb), fun b hb => ?_, fun i bd hi hb => C.e i bd hi (fzB_some hb).2, C.k⟩
 ·simp only [look_fz]
  exact fz_run C.m (fun _ _ => rfl) Z _ _ (C.t t)
 ·rcases hb with h1 | ⟨id, bd, _, h2, h3⟩
  ·exact C.g b h1
  ·exact .inr (C.m.off id bd b h2 (.inl h3)).2.2
def regX (id : Nat) (ops : Array Oper) : Code := .region id ops false
theorem regH (id : Nat) (ops : Array Oper) : Code.region id ops false = regX id ops := rfl
section
variable {P : Program} {nt k id : Nat} {ops : Array Oper} {Q : Exit → St → Prop} {K : St → Prop} {t : List (Nat × AV)} {h : List (Nat × Chunk)} {n : Nat}
theorem regS (H : ∀ (l : List Oper) (K : St → Prop), l = ops.toList → K = Q .normal → awpL P nt ops l K ⟨t, h, n⟩) : awp P nt k (regX id ops) Q ⟨t, h, n⟩ := H _ _ rfl rfl
theorem peelS {o : Oper} {r0 : List Oper} {s : St} (G : ∀ r, r = r0 → awpL P nt ops (o :: r) K s) : awpL P nt ops (o :: r0) K s := G r0 rfl
theorem endS (G : K ⟨t, h, n⟩) : awpL P nt ops [] K ⟨t, h, n⟩ := G
end
end Go.Proofs.Ytjdgmcmekcgjgaa
namespace Go.Proofs.Ytjdgmcmekcgjgaa
set_option linter.all false
open Go.RowKit Go.ChangeShapes Go.WideShapes Go.ChangeAt
def Opens (P : Program) (T sz : Nat) (w : World) {α : Type} (enc : α → List Value) (ok : α → Prop) : Prop :=
 ∀ (H : Type) (eH : TypeId × Value → H) (fuel : Nat) (cs : List Value) (y : DataW H × List MemPlace), DataW.trod eH P w 0 (fun _ => true) true fuel T cs = some y → (∀ n ∈ y.1.weights P T, n ≤ reachBytes) → ∃ x : α, cs = enc x ∧ cs.length = sz ∧ ok x
theorem Opens.int {P : Program} {T : Nat} {w : World} {k : IntKind} (h : P.underlying T = some (.int k)) : Opens P T 1 w (fun n : Int => [.int k n]) (fun n => (Lit.int k n).wf = true) := by
 intro H eH fuel cs y hy _
 obtain ⟨n, rfl, _, hw⟩ := DataW.trod_int h hy
 exact ⟨n, rfl, rfl, hw⟩
theorem wf_i64' {n : Int} (h : (Lit.int .i64 n).wf = true) : -9223372036854775808 ≤ n ∧ n ≤ 9223372036854775807 := by
 simpa [Lit.wf, IntKind.min, IntKind.max, IntKind.signed, IntKind.bits] using h
theorem wf_u64' {n : Int} (h : (Lit.int .u64 n).wf = true) : 0 ≤ n ∧ n ≤ 18446744073709551615 := by
 simpa [Lit.wf, IntKind.min, IntKind.max, IntKind.signed, IntKind.bits] using h
theorem wf_u32' {n : Int} (h : (Lit.int .u32 n).wf = true) : 0 ≤ n ∧ n ≤ 4294967295 := by
 simpa [Lit.wf, IntKind.min, IntKind.max, IntKind.signed, IntKind.bits] using h
theorem Opens.i64 {P : Program} {T : Nat} {w : World} (h : P.underlying T = some (.int .i64)) : Opens P T 1 w ei64 (fun n => -9223372036854775808 ≤ n ∧ n ≤ 9223372036854775807) := by
 intro H eH fuel cs y hy _
 obtain ⟨n, rfl, _, hw⟩ := DataW.trod_int h hy
 exact ⟨n, rfl, rfl, wf_i64' hw⟩
theorem Opens.u64 {P : Program} {T : Nat} {w : World} (h : P.underlying T = some (.int .u64)) : Opens P T 1 w e64 (fun n => n < 18446744073709551616) := by
 intro H eH fuel cs y hy _
 obtain ⟨n, rfl, _, hw⟩ := DataW.trod_int h hy
 have := wf_u64' hw
 exact ⟨n.toNat, by simp only [e64]; congr 2; omega, rfl, by omega⟩
theorem Opens.u32 {P : Program} {T : Nat} {w : World} (h : P.underlying T = some (.int .u32)) : Opens P T 1 w e32 (fun n => n < 4294967296) := by
 intro H eH fuel cs y hy _
 obtain ⟨n, rfl, _, hw⟩ := DataW.trod_int h hy
 have := wf_u32' hw
 exact ⟨n.toNat, by simp only [e32]; congr 2; omega, rfl, by omega⟩
def eBool (b : Bool) : List Value := [.bool b]
theorem Opens.bool {P : Program} {T : Nat} {w : World} (h : P.underlying T = some .bool) : Opens P T 1 w eBool (fun _ => True) := by
 intro H eH fuel cs y hy _
 obtain ⟨b, rfl, _⟩ := DataW.trod_bool h hy
 exact ⟨b, rfl, rfl, trivial⟩
def eStr (s : ByteArray) : List Value := [.string s]
theorem Opens.str {P : Program} {T : Nat} {w : World} (h : P.underlying T = some .string) : Opens P T 1 w eStr (fun s => s.size ≤ 140737488351232) := by
 intro H eH fuel cs y hy hw
 obtain ⟨s, rfl, rfl, hs⟩ := DataW.trod_string h hy
 exact ⟨s, rfl, rfl, (by
  have h := hw s.data.toList.length (List.mem_singleton.2 rfl)
  have e : s.data.toList.length = s.size := Array.length_toList
  rw [e] at h
  exact h)⟩
structure SL (α : Type) where
 a : Option Addr
 c : Nat
 xs : List α
def SL.val {α : Type} (s : SL α) : Value := .slice s.a s.xs.length s.c
def SL.enc {α : Type} (s : SL α) : List Value := [s.val]
structure SLok {α : Type} (w : World) (B : Nat) (sz bts : Nat) (enc : α → List Value) (ok : α → Prop) (s : SL α) : Prop where
 els : Els w B s.a sz enc s.xs
 each : ∀ x ∈ s.xs, ok x ∧ (enc x).length = sz
 cap : s.xs.length ≤ s.c
 max : s.c ≤ maxLen
 reach : s.c * bts ≤ 140737488351232
 nil : s.a = none → s.xs.length = 0 ∧ s.c = 0
theorem Opens.slice {P : Program} {T E sz bts : Nat} {w : World} {α : Type} {enc : α → List Value} {ok : α → Prop} (hT : P.underlying T = some (.slice E)) (hc : P.cellsOf E = sz) (hsz : 0 < sz) (hby : P.bytesOf E = bts) (hE : Opens P E sz w enc ok) :
 Opens P T 1 w (SL.enc (α := α)) (SLok w w.heap.size sz bts enc ok) := by
 intro H eH fuel cs y hy hw
 rcases Deep.open_slice hT hy with ⟨rfl, _⟩ | ⟨a, len, cap, m, n, D, Pl, rfl, _, hl, hm, hmm, hy2, hx⟩
 ·exact ⟨⟨none, 0, []⟩, rfl, rfl, ⟨.inl rfl, by simp, Nat.le_refl _, Nat.zero_le _, by simp, fun _ => ⟨rfl, rfl⟩⟩⟩
 ·simp only [if_true] at hmm
  subst hmm
  subst hy2
  have hreach : m * bts ≤ 140737488351232 := by
   have h := hw ((len + (m - len)) * P.bytesOf E) (by simp [DataW.weights, hT])
   rw [show len + (m - len) = m from by omega, hby] at h
   exact h
  have hwe : ∀ i, i < len → ∀ k ∈ (D i).weights P E, k ≤ reachBytes := by
   intro i hi k hk
   refine hw k ?_
   simp only [DataW.weights, hT, List.mem_cons, List.mem_append]
   refine .inr (.inl ?_)
   have key : ∀ (l : List (DataW H)), D i ∈ l → k ∈ DataW.weightsAll P E l := by
    intro l
    induction l with
    | nil => intro h; simp at h
    | cons d l ih =>
     intro h
     simp only [DataW.weightsAll, List.mem_append]
     rcases List.mem_cons.1 h with rfl | h
     ·exact .inl hk
     ·exact .inr (ih h)
   exact key _ (List.mem_map.2 ⟨i, List.mem_range.2 hi, rfl⟩)
  have hx2 : ∀ i, i < len → ∃ x : α, ok x ∧ (enc x).length = sz ∧ ∀ j, j < sz → w.cell? ((a.add (i * sz)).add j) = (enc x)[j]? := by
   intro i hi
   obtain ⟨cs', h1, h2⟩ := hx i (by omega)
   obtain ⟨x, rfl, hlen, hok⟩ := hE H eH n cs' _ h2 (hwe i hi)
   obtain ⟨_, _, h3⟩ := World.cells?_some h1
   rw [hc] at h3
   exact ⟨x, hok, hlen, h3⟩
  by_cases h0 : len = 0
  ·subst h0
   exact ⟨⟨some a, m, []⟩, rfl, rfl, ⟨.inl rfl, by simp, Nat.zero_le _, hm, hreach, fun h => by simp at h⟩⟩
  ·obtain ⟨x0, _⟩ := hx2 0 (by omega)
   have : Inhabited α := ⟨x0⟩
   obtain ⟨f, hf⟩ := Deep.choose_lt (p := fun i x => ok x ∧ (enc x).length = sz ∧ ∀ j, j < sz → w.cell? ((a.add (i * sz)).add j) = (enc x)[j]?) hx2
   have hlen : ((List.range len).map f).length = len := by simp
   refine ⟨⟨some a, m, (List.range len).map f⟩, by simp [SL.enc, SL.val], rfl, ⟨?_, ?_, by simpa using hl, hm, hreach, fun h => by simp at h⟩⟩
   ·obtain ⟨_, hl0, hc0⟩ := hf 0 (by omega)
    have hcell := hc0 0 hsz
    rw [List.getElem?_eq_getElem (by omega)] at hcell
    simp only [Nat.zero_mul] at hcell
    have hadd0 : ((a.add 0).add 0) = a := by simp [Addr.add]
    rw [hadd0] at hcell
    have hsp := World.cell?_spot hcell
    have hlt := World.block_lt_of_cell? w a hcell
    obtain ⟨b, o, sp⟩ := a
    simp only at hsp
    subst hsp
    refine .inr ⟨b, o, rfl, hlt, fun i j v hv => ?_⟩
    cases hxi : ((List.range len).map f)[i]? with
    | none => rw [hxi] at hv; simp at hv
    | some x =>
     rw [hxi] at hv
     have hi : i < len := by have := (List.getElem?_eq_some_iff.1 hxi).1; simpa using this
     have hfx : f i = x := by simpa [hi] using hxi
     obtain ⟨_, hl1, hc1⟩ := hf i hi
     have hj : j < sz := by
      have hv' : (enc x)[j]? = some v := by simpa using hv
      have := (List.getElem?_eq_some_iff.1 hv').1
      rw [← hfx, hl1] at this; exact this
     have := hc1 j hj
     rw [hfx] at this
     rw [Deep.add_add, Addr.add_lit] at this
     rw [this]; simpa using hv
   ·intro x hx
    simp only [List.mem_map, List.mem_range] at hx
    obtain ⟨i, hi, rfl⟩ := hx
    obtain ⟨h1, h2, _⟩ := hf i hi
    exact ⟨h1, h2⟩
theorem Opens.map {P : Program} {T sz : Nat} {w : World} {α β : Type} {enc : α → List Value} {ok : α → Prop} {enc' : β → List Value} {ok' : β → Prop} (h : Opens P T sz w enc ok) (f : α → β) (hf : ∀ x, enc' (f x) = enc x) (hok : ∀ x, ok x → ok' (f x)) : Opens P T sz w enc' ok' := by
 intro H eH fuel cs y hy hw
 obtain ⟨x, rfl, hl, ho⟩ := h H eH fuel cs y hy hw
 exact ⟨f x, (hf x).symm, hl, hok x ho⟩
def OpensF (P : Program) (w : World) (fs : List Field) (o sz : Nat) {α : Type} (enc : α → List Value) (ok : α → Prop) : Prop :=
 ∀ (H : Type) (eH : TypeId × Value → H) (fuel : Nat) (cs : List Value), cs.length = o + sz →
  (∀ f ∈ fs, ∃ y, DataW.trod eH P w 0 (fun _ => true) true fuel f.type ((cs.drop f.offset).take (P.cellsOf f.type)) = some y ∧ ∀ n ∈ y.1.weights P f.type, n ≤ reachBytes) → ∃ x : α, cs.drop o = enc x ∧ ok x
theorem OpensF.nil {P : Program} {w : World} {o : Nat} : OpensF P w [] o 0 (fun _ : Unit => []) (fun _ => True) := by
 intro H eH fuel cs hl _
 exact ⟨(), List.drop_eq_nil_of_le (by omega), trivial⟩
theorem OpensF.cons {P : Program} {w : World} {f : Field} {fs : List Field} {o n sz : Nat} {α β : Type} {enc : α → List Value} {ok : α → Prop} {enc' : β → List Value} {ok' : β → Prop}
 (ho : f.offset = o) (hn : P.cellsOf f.type = n) (h : Opens P f.type n w enc ok) (h' : OpensF P w fs (o + n) sz enc' ok') :
 OpensF P w (f :: fs) o (n + sz) (fun x : α × β => enc x.1 ++ enc' x.2) (fun x => ok x.1 ∧ ok' x.2) := by
 intro H eH fuel cs hl hall
 obtain ⟨y, hy, hw⟩ := hall f (by simp)
 rw [ho, hn] at hy
 obtain ⟨x, hx, _, hok⟩ := h H eH fuel _ y hy hw
 obtain ⟨x', hx', hok'⟩ := h' H eH fuel cs (by omega) (fun g hg => hall g (by simp [hg]))
 refine ⟨(x, x'), ?_, hok, hok'⟩
 show cs.drop o = enc x ++ enc' x'
 rw [← hx, ← hx', ← List.drop_drop, List.take_append_drop]
theorem Opens.struct {P : Program} {T sz : Nat} {w : World} {fs : Array Field} {α : Type} {enc : α → List Value} {ok : α → Prop} (hT : P.underlying T = some (.struct fs)) (hc : P.cellsOf T = sz) (h : OpensF P w fs.toList 0 sz enc ok) :
 Opens P T sz w enc ok := by
 intro H eH fuel cs y hy hw
 obtain ⟨xs, n, _, rfl, hl, hlen, hfs⟩ := DataW.trod_struct hT hy
 obtain ⟨x, hx, hok⟩ := h H eH n cs (by omega) (fun f hf => by
  obtain ⟨i, hi, he⟩ := List.getElem_of_mem hf
  have hi' : i < fs.size := by simpa using hi
  have hfi : fs[i]? = some f := by rw [Array.getElem?_eq_getElem hi']; simpa using he
  have := hfs i f hfi
  have hx : xs[i]? = some (xs[i]'(by omega)) := List.getElem?_eq_getElem (by omega)
  rw [hx] at this
  refine ⟨_, this, fun k hk => hw k ?_⟩
  simp only [DataW.weights, hT]
  refine DataW.weights_mem_each (j := i) (t := f.type) ?_ ?_ k hk
  ·rw [List.getElem?_map, Array.getElem?_toList, hfi]; rfl
  ·rw [List.getElem?_map, hx]; rfl)
 exact ⟨x, by simpa using hx, by omega, hok⟩
theorem Opens.arg {P : Program} {T sz : Nat} {w : World} {α : Type} {enc : α → List Value} {ok : α → Prop} (h : Opens P T sz w enc ok) {H : Type} {eH : TypeId × Value → H} {v : Value} {d : DataW H} {p : List MemPlace}
 (hT : DataW.Trod eH P w 0 (fun _ => true) true T v d p) {ts : List TypeId} {ds : List (DataW H)} (hz : (DataW.weightsEach P ts ds).all (· ≤ reachBytes) = true) (j : Nat) (h1 : ts[j]? = some T) (h2 : ds[j]? = some d) : ∃ x : α, v.cells.toList = enc x ∧ ok x := by
 obtain ⟨fuel, hf⟩ := hT
 obtain ⟨x, h1, _, h2⟩ := h H eH fuel _ _ hf (fun n hn => by
  have := List.all_eq_true.1 hz n (DataW.weights_mem_each h1 h2 n hn)
  simpa using this)
 exact ⟨x, h1, h2⟩
end Go.Proofs.Ytjdgmcmekcgjgaa
namespace Go.Proofs.Ytjdgmcmekcgjgaa
set_option linter.all false
open Go.RowKit
theorem rel_c {w : World} {F : Nat → Prop} {b : Nat} : ∀ (ps : List PV) (vs : List Value) (o : Nat), vs.length = ps.length → (∀ (j : Nat) v, vs[j]? = some v → w.cell? ⟨b, o + j, none⟩ = some v) → (∀ (j : Nat) p u, ps[j]? = some p → vs[j]? = some u → RelP w F p u) → RelC w F b o ps
 | [], _, _, _, _, _ => by simp only [RelC]
 | p :: ps, [], _, h, _, _ => by simp at h
 | p :: ps, v :: vs, o, h, hc, hr => by
  simp only [RelC]
  refine ⟨⟨v, by have := hc 0 v rfl; simpa using this, hr 0 p v rfl rfl⟩, rel_c ps vs (o + 1) (by simpa using h) (fun j u hu => ?_) (fun j q u h1 h2 => hr (j + 1) q u h1 h2)⟩
  have := hc (j + 1) u hu
  rwa [show o + (j + 1) = o + 1 + j from by omega] at this
theorem rel_e {α : Type} {w : World} {F : Nat → Prop} {b sz : Nat} {enc : α → List Value} {pv : α → List PV} : ∀ (xs : List α) (o : Nat), (∀ i j v, (xs[i]?).bind (fun x => (enc x)[j]?) = some v → w.cell? ⟨b, o + (i * sz + j), none⟩ = some v) →
 (∀ x ∈ xs, (pv x).length = sz ∧ (enc x).length = sz ∧ ∀ (j : Nat) p u, (pv x)[j]? = some p → (enc x)[j]? = some u → RelP w F p u) → RelE w F b sz o (xs.map pv)
 | [], _, _, _ => by simp only [List.map_nil, RelE]
 | x :: xs, o, hc, hp => by
  simp only [List.map_cons, RelE]
  obtain ⟨h1, h2, h3⟩ := hp x (by simp)
  refine ⟨h1, rel_c (pv x) (enc x) o (by rw [h1, h2]) (fun j v hv => ?_) h3, rel_e xs (o + sz) (fun i j v hv => ?_) fun y hy => hp y (List.mem_cons_of_mem _ hy)⟩
  ·have := hc 0 j v (by simpa using hv); simpa using this
  ·have := hc (i + 1) j v (by simpa using hv)
   rwa [show o + ((i + 1) * sz + j) = o + sz + (i * sz + j) from by rw [Nat.succ_mul]; omega] at this
theorem rel_sl {α : Type} {w : World} {B sz bts : Nat} {enc : α → List Value} {ok : α → Prop} {s : SL α} {pv : α → List PV} (h : SLok w B sz bts enc ok s)
 (hp : ∀ x ∈ s.xs, ok x → (pv x).length = sz ∧ ∀ (j : Nat) p u, (pv x)[j]? = some p → (enc x)[j]? = some u → RelP w (· < B) p u) : RelP w (· < B) (.sl sz (s.xs.map pv)) s.val := by
 simp only [RelP]
 refine ⟨s.a, s.c, by simp [SL.val], by simpa using h.cap, h.max, ?_⟩
 rcases h.els with h1 | ⟨b, o, ha, hb, hc⟩
 ·exact .inl (by rw [h1]; rfl)
 ·refine .inr ⟨b, o, ha, hb, rel_e s.xs o hc fun x hx => ?_⟩
  obtain ⟨h1, h2⟩ := h.each x hx
  obtain ⟨h3, h4⟩ := hp x hx h1
  exact ⟨h3, h2, h4⟩
theorem spec_law {P : Program} {f : FuncId} {args : List AV} (S : Spec P f args [] (B true) []) {w : World} {vs : List Value} (hr : RelL (· < 0) w (· < w.heap.size) (fun _ => none) args vs) :
 Calls P f vs.toArray w fun e w' => e = .returned (.bool true) ∧ Below w.heap.size w w' := by
 have M : MemOk w (inB fun _ => none) (· < ([] : List Chunk).length) (· < w.heap.size) (fun _ => none) (nth []) w :=
  ⟨Nat.le_refl _, rfl, rfl, rfl, fun _ _ _ => rfl, fun _ h => h, fun _ _ h => by simp at h, fun _ h => absurd rfl h, fun _ _ _ _ _ h => by simp at h, fun _ _ _ h => by simp at h⟩
 refine (S.2.2 w (· < w.heap.size) (fun _ => none) vs M hr).mono ?_
 rintro e w' ⟨v, F', β', rfl, M', hv, _⟩
 refine ⟨by rw [relB.1 hv], M'.os, M'.tape, M'.output, M'.size, fun b hb => M'.frame b hb ?_⟩
 rintro ⟨i, bd, h, _⟩
 simp at h
theorem relL_nil {U F : Nat → Prop} {β : Nat → Option Bind} {w : World} : RelL U w F β [] [] := by simp only [RelL]
theorem relL_cons {U F : Nat → Prop} {β : Nat → Option Bind} {w : World} {x : AV} {xs : List AV} {v : Value} {vs : List Value} (h1 : RelA U w F β x v) (h2 : RelL U w F β xs vs) : RelL U w F β (x :: xs) (v :: vs) := by
 simp only [RelL]; exact ⟨v, vs, rfl, h1, h2⟩
theorem relA_c {U F : Nat → Prop} {β : Nat → Option Bind} {w : World} {p : PV} {v : Value} (h : RelP w F p v) : RelA U w F β (.c p) v := by simp only [RelA]; exact h
theorem relP_v {F : Nat → Prop} {w : World} {v : Value} (h : v.oneCell' = true) : RelP w F (.v v) v := by simp [RelP, h]
end Go.Proofs.Ytjdgmcmekcgjgaa
namespace Go.Proofs
open Go.Shelf
def Try.lays122_ren : Go.Shelf.Ren := ⟨fun | 122 => 13 | 215 => 17 | n => n, fun | 3 => 3 | 4 => 4 | n => n, fun | n => n⟩
theorem Try.lays122 : Go.Proofs.Lays.n122 Try.prog Try.lays122_ren := {
 mixed := by kernel_rfl
 f122 := Try.func13.trans (congrArg some (by kernel_rfl))
 f215 := Try.func17.trans (congrArg some (by kernel_rfl))
 t3 := Try.underlying3
 a3 := Try.isAgg3
 z3 := Try.sizeOf3
 v3 := Try.zeroValue3
 t4 := Try.underlying4
 a4 := Try.isAgg4
 z4 := Try.sizeOf4
 v4 := Try.zeroValue4 }
open Go.RowKit in
theorem Try.cmp_Compare_int (x y : Int) (w : World) :
 Calls Try.prog 13 #[.int .i64 x, .int .i64 y] w fun e w' => e = .returned (.int .i64 (Lib.compareInt x y)) ∧ w' = w := Any.cmp_Compare_int Try.lays122 x y w
end Go.Proofs
namespace Go.Proofs.Ytjdgmcmekcgjgaa
set_option linter.all false
open Go.RowKit
theorem wkc {x y : AV} (h : Wk x y := by first | exact Wk.refl _ | exact Wk.nil _ | (refine Wk.tup ?_; repeat' (first | exact trivial | exact Wk.refl _ | exact Wk.nil _ | refine ⟨?_, ?_⟩ | (refine Wk.agg ?_)))) : Wk x y := h
theorem obA {a b : Prop} (h : b) (ha : a := by first | omega | decide | (simp; done) | (simp; omega) | (intro hh; refine ⟨hh, ?_⟩; omega) | (simp [mhas, mfind]; done) | (simp +contextual; done) | fail) : a ∧ b := ⟨ha, h⟩
theorem tdv {a b : Int} (h : 0 ≤ a) : a.tdiv b = a / b := Int.tdiv_eq_ediv_of_nonneg h
theorem tmd {a b : Int} (h : 0 ≤ a) : a.tmod b = a % b := Int.tmod_eq_emod_of_nonneg h
theorem xa {p : Prop} [Decidable p] : (decide p = true) = p := decide_eq_true_eq
theorem xb {p : Prop} [Decidable p] : decide p = false ↔ ¬ p := decide_eq_false_iff_not
theorem xc {b : Bool} : ((!b) = true) ↔ b = false := by cases b <;> simp
theorem xd {b : Bool} : ((!b) = false) ↔ b = true := by cases b <;> simp
theorem xe {a b : Bool} : (a || b) = true ↔ a = true ∨ b = true := by cases a <;> simp
theorem xf {a b : Bool} : (a && b) = true ↔ a = true ∧ b = true := by cases a <;> simp
theorem xg {a b : Bool} : (a || b) = false ↔ a = false ∧ b = false := by cases a <;> simp
theorem xh {a b : Bool} : (a && b) = false ↔ a = false ∨ b = false := by cases a <;> simp
theorem xi {a b : Int} : ¬ a < b ↔ b ≤ a := Int.not_lt
theorem xj {a b : Int} : ¬ a ≤ b ↔ b < a := Int.not_le
theorem xk {p q : Prop} : ¬ (p ∧ q) ↔ (p → ¬ q) := not_and
theorem xl {p q : Prop} : ¬ (p ∨ q) ↔ ¬ p ∧ ¬ q := not_or
attribute [push_cast] drE clearAV copyAV partOf invA awp awpL opW opWF opX opG ex4 ex3 nstEx nIdxAV nLenAV nLoadAV nStoreAV nAppAV nLitAV nsplit fz fzL inZ fzH deadsOf rowsA rowsL fzEff mapAV kty keyA intsA ex2 ex1 loadAV cellsAt valOf addO fieldAddrAV partAV fieldAV indexAddrAV indexAV bound sliceAV convAV lenAV minInts maxInts isPtr pickAV bsel_false bsel_true binAV intBin strBin eqAV eqCells eqVal nilP unAV slOf cellsOf toPV toPVs splice fillA plFs buildAV chunks sameO makeAV sliceLitAV storeAV rowOf appAV dstOk dstV gcond strip stripsT St.app putO look_n look_c lookC_n lookC_c getO ofV seqK blkK scoK nilCmp xorB opK drK lpK_n lpK_e lpK_r joinK_n joinK_e joinK_r argsT hsT RetQ I B S Op.operands Call.operands cv cvL ix ix.go cellP cvC up upL upC upsL upI drawL touch touch2 cellIds idsA idsL memN onlyC wk_self bool_imp cvT cvH hsW resAV oneV WkL WkC List.map_cons List.map_nil Option.toArray List.getElem?_cons_zero List.getElem?_cons_succ List.getElem?_nil List.drop_succ_cons List.drop_zero List.drop_nil List.take_succ_cons List.take_zero List.take_nil List.append_nil List.nil_append List.cons_append List.getElem?_toArray List.length_cons List.length_nil List.all_cons List.all_nil Bool.and_true Bool.true_and Bool.and_self Bool.and_false Bool.false_and Bool.or_false Bool.or_true Bool.true_or Bool.false_or Option.map_some Option.map_none Option.bind_some Option.bind_none if_true if_false true_and and_true List.getD_cons_zero List.getD_cons_succ Bool.not_true Bool.not_false Bool.false_eq_true not_false_eq_true not_true_eq_false Option.isSome_some List.isEmpty_cons Nat.add_zero Nat.zero_add List.length_map List.replicate_succ List.replicate_zero Nat.sub_zero and_self implies_true forall_const Value.oneCell' imp_self Int.toNat_zero Int.toNat_one Int.toNat_natCast true_or or_true or_false false_or Array.toList_append List.size_toArray decide_true decide_false Nat.ble_eq Nat.beq_eq Bool.and_eq_true Int.natCast_add Int.cast_ofNat_Int Int.natCast_zero Int.natCast_one decide_eq_true_eq decide_eq_false_iff_not Bool.not_eq_true' Bool.not_eq_false' Bool.or_eq_true Bool.or_eq_false_iff Bool.and_eq_false_iff beq_self_eq_true
theorem xtI : True := True.intro
structure XHid (p : Prop) : Prop where
 x : p
theorem xst {G G' : Prop} (k : G') (h : XHid G' → G := by intro h0; first | ((try simp (etaStruct := .none) only [push_cast, DrawG, seval]); (try simp (disch := omega) only [wrap_in, wk_self, tdv, tmd]); (repeat with_reducible refine obA ?_); exact h0.x) | (have _h : XHid True := h0; (try simp (etaStruct := .none) only [push_cast, DrawG, seval]); (try simp (disch := omega) only [wrap_in, wk_self, tdv, tmd]); (repeat with_reducible refine obA ?_))) : G := h ⟨k⟩
theorem xsu {G G' : Prop} (k : G') (h : XHid G' → G := by intro h0; first | ((try simp (disch := omega) only [wrap_in, wk_self, tdv, tmd]); (repeat with_reducible refine obA ?_); exact h0.x) | (have _h : XHid True := h0; (try simp (disch := omega) only [wrap_in, wk_self, tdv, tmd]); (repeat with_reducible refine obA ?_))) : G := h ⟨k⟩
theorem xhh {p q : Prop} (x : p) (h : p → q := by intro h0; (simp only [xa, xb, xc, xd, xe, xf, xg, xh, xi, xj, Bool.not_true, Bool.not_false, xk, xl] at h0); exact h0) : q := h x
theorem xrz {P : Program} {rs : List ResultVar} {r : AV} {s : St} {φ : Prop} {xs : List AV} (h : resAV P (look s.t) (lookC s.h) rs = some (φ, xs)) (hw : Wk (cv [] (lookC s.h) (oneV xs)) r := by first | (refine Wk.of ?_; (try simp (etaStruct := .none) only [push_cast, DrawG, seval]); first | done | (simp [*]; done) | (simp_all; done) | fail) | ((try simp (etaStruct := .none) only [push_cast, DrawG, seval]); (try simp [*]); (try exact wkc))) (hφ : φ := by repeat' (first | exact trivial | exact rfl | refine ⟨?_, ?_⟩)) : RetG P 0 rs r [] s := ret0 h hφ hw
section
variable {P : Program} {f : FuncId} {args args' : List AV} {h : Nat → Chunk} {m : Nat} {K : Eff → Prop} {r : AV} {c : Bool} {φ : Prop}
theorem caP (S : Spec P f args' [] r []) (k : K ⟨up [] m r, [], 0⟩) (hw : WkL (cvL [] noC args) args' := by exact WkL.refl _) : CallG P f args h m K := callP S hw k
theorem gcP (S : c = true → Spec P f args' [] r []) (k : K ⟨.opt c (up [] m r), [], 0⟩) (hw : WkL (cvL [] noC args) args' := by exact WkL.refl _) (hφ : c = true → φ := by intro hc; (try simp (etaStruct := .none) only [push_cast, DrawG, seval]); (try simp_all)) : GCall P c f args φ h m K := gcallP S hw hφ k
theorem caM {hs hs' : List Chunk} (ids : List Nat) (S : Spec P f args' hs r hs') (k : K ⟨up ids m r, upsL ids m 0 hs', hs'.length - ids.length⟩) (hw : WkL (cvL ids noC args) args' := by exact WkL.refl _) (hh : hs = ids.map (fun id => cvC ids noC (h id)) := by rfl) (hnd : ids.Nodup := by decide) (hal : ∀ id ∈ ids, h id ≠ .dead := by simp [lookC_c]) : CallG P f args h m K := callM ids S hw hh hnd hal k
end
end Go.Proofs.Ytjdgmcmekcgjgaa
namespace Go.Proofs.Ytjdgmcmekcgjgaa
set_option linter.all false
theorem mix : Try.prog.follows .mixedOrders = true := by kernel_rfl
theorem it3 : intTy Try.prog 3 = true := by kernel_rfl
theorem ty3 : ty Try.prog 3 = some ⟨.int .i64, false, 1, 8, [.int .i64 0]⟩ := by kernel_rfl
theorem ty5 : ty Try.prog 5 = some ⟨.int .u8, false, 1, 1, [.int .u8 0]⟩ := by kernel_rfl
theorem ty9 : ty Try.prog 9 = some ⟨.str, false, 1, 16, [.string ByteArray.empty]⟩ := by kernel_rfl
theorem ty22 : ty Try.prog 22 = some ⟨.sl 28, false, 1, 24, [.slice none 0 0]⟩ := by kernel_rfl
theorem it23 : intTy Try.prog 23 = true := by kernel_rfl
theorem ty23 : ty Try.prog 23 = some ⟨.int .i64, false, 1, 8, [.int .i64 0]⟩ := by kernel_rfl
theorem ty28 : ty Try.prog 28 = some ⟨.sl 32, false, 1, 24, [.slice none 0 0]⟩ := by kernel_rfl
theorem ty30 : ty Try.prog 30 = some ⟨.other, false, 1, 8, [.nilFunc]⟩ := by kernel_rfl
theorem ty32 : ty Try.prog 32 = some ⟨.st [some (0, 1, false), some (1, 1, false)], true, 2, 16, [.int .i64 0, .int .i64 0]⟩ := by kernel_rfl
theorem ty37 : ty Try.prog 37 = some ⟨.other, false, 1, 8, [.nilFunc]⟩ := by kernel_rfl
theorem ty41 : ty Try.prog 41 = some ⟨.int .u64, false, 1, 8, [.int .u64 0]⟩ := by kernel_rfl
theorem it43 : intTy Try.prog 43 = true := by kernel_rfl
theorem ty43 : ty Try.prog 43 = some ⟨.int .i64, false, 1, 8, [.int .i64 0]⟩ := by kernel_rfl
theorem ty51 : ty Try.prog 51 = some ⟨.int .u32, false, 1, 4, [.int .u32 0]⟩ := by kernel_rfl
theorem ty53 : ty Try.prog 53 = some ⟨.int .u64, false, 1, 8, [.int .u64 0]⟩ := by kernel_rfl
theorem ty54 : ty Try.prog 54 = some ⟨.int .u64, false, 1, 8, [.int .u64 0]⟩ := by kernel_rfl
theorem ty58 : ty Try.prog 58 = some ⟨.ptr 3, false, 1, 8, [.pointer none]⟩ := by kernel_rfl
theorem fl32 : flatN Try.prog 9 32 = some [0, 0] := by kernel_rfl
theorem ag32 : aggT Try.prog 32 = true := by kernel_rfl
attribute [push_cast] it3 ty3 ty5 ty9 ty22 it23 ty23 ty28 ty30 ty32 ty37 ty41 it43 ty43 ty51 ty53 ty54 ty58 fl32 ag32
end Go.Proofs.Ytjdgmcmekcgjgaa
namespace Go.Proofs.Ytjdgmcmekcgjgaa
set_option linter.all false
open Go.RowKit
abbrev In64 (n : Int) : Prop := -9223372036854775808 ≤ n ∧ n ≤ 9223372036854775807
abbrev pI (n : Int) : PV := .v (.int .i64 n)
abbrev pB (b : Bool) : PV := .v (.bool b)
def i64P (n : Int) : List PV := [pI n]
def u64P (n : Nat) : List PV := [.v (.int .u64 n)]
def boolP (b : Bool) : List PV := [pB b]
def strP (s : ByteArray) : List PV := [.v (.string s)]
structure Cel where
 x : Int
 y : Int
 deriving DecidableEq, Inhabited
structure Fld where
 w : Int
 h : Int
 p : List Int
 deriving DecidableEq, Inhabited
structure Trp where
 id : Int
 owner : Int
 kind : Int
 c : Cel
 life : Int
 load : Int
 deriving DecidableEq, Inhabited
structure Wld where
 f : Fld
 bases : List Cel
 stocks : List Int
 mines : List Int
 troops : List Trp
 next : Int
 now : Int
 deriving DecidableEq, Inhabited
structure Ord where
 by_ : Int
 kind : Int
 who : Int
 c : Cel
 what : Int
 deriving DecidableEq, Inhabited
theorem getD_in {α : Type} [Inhabited α] (f : α → List PV) (l : List α) (i : Nat) (h : i < l.length) : (l.map f).getD i [] = f (l.getD i default) := by
 simp [h]
theorem getD_at {α : Type} [Inhabited α] (l : List α) (i : Nat) (h : i < l.length) : l.getD i default = l[i] := by simp [h]
end Go.Proofs.Ytjdgmcmekcgjgaa
namespace Go.Proofs.Ytjdgmcmekcgjgaa
set_option linter.all false
open Go.RowKit
set_option maxRecDepth 100000
set_option maxHeartbeats 1000000
def prP (x : Pr) : List PV := [pI x.a, pI x.b]
theorem tmod_nat (a b : Nat) : (a : Int).tmod b = ((a % b : Nat) : Int) := rfl
structure MM (q M m : Nat) : Prop where
 hq : q ≤ 31
 hM : M = 2 * q + 1
 hm : (m : Int) - 1 = M
theorem meetsAt_s {q M m : Nat} (H : MM q M m) (a b : Nat) (hab : a < b) (hb : b ≤ M) : Spec Try.prog 14 [I .i64 m, I .i64 a, I .i64 b] [] (I .i64 (meetL M a b : Nat)) [] := by
 refine spec_am Try.func14 rfl rfl mix 32 rfl [.tmp 6] Try.results14 (Nat.le_of_ble_eq_true rfl) ?_
 have e0 := H.hm
 have hq := H.hq
 have hM := H.hM
 (iterate 2 ((try simp (etaStruct := .none) only [push_cast, DrawG, seval, e0]); (try (refine xsu ?_; try exact xtI))))
 refine cond_i (fun h1 => ?_) (fun h1 => ?_)
 ·(try replace h1 := xhh h1)
  have e : meetL M a b = a := by unfold meetL; rw [if_pos (by omega)]
  (iterate 2 ((try simp (etaStruct := .none) only [push_cast, DrawG, seval, e0]); (try (refine xsu ?_; try exact xtI))))
  exact ret0 rfl trivial (Wk.of (by rw [e]; rfl))
 ·(try replace h1 := xhh h1)
  (iterate 2 ((try simp (etaStruct := .none) only [push_cast, DrawG, seval, e0]); (try (refine xsu ?_; try exact xtI))))
  refine loopI (fun k : Nat => ⟨[(15, I .i64 k), (14, I .i64 M), (2, I .i64 b), (1, I .i64 a), (0, I .i64 m)], [], 0⟩) (fun k : Nat => k ≤ meetL M a b) (fun k : Nat => M - k) (0) (Nat.zero_le _) (To.mk [] rfl rfl List.nodup_nil trivial ?_) ?_
  ·simp (etaStruct := .none) only [push_cast, DrawG, seval]
  rintro k hk
  have hbM : b < M := by omega
  have hml : meetL M a b < M := by have := meet_lt (q := q) hab (by omega); rwa [← hM] at this
  (iterate 2 ((try simp (etaStruct := .none) only [push_cast, DrawG, seval, e0]); (try (refine xsu ?_; try exact xtI))))
  refine cond_i (fun h2 => ?_) (fun h2 => ?_)
  ·(try replace h2 := xhh h2)
   have hkM : k < M := by omega
   have hmi : (2 * (k : Int)) % (M : Int) = ((a : Int) + b) % M ↔ k = meetL M a b := by
    have := meet_iff (q := q) hab (by omega) (show k < 2 * q + 1 by omega)
    rw [← hM] at this
    rw [← this]
    constructor
    ·intro h; exact Int.ofNat.inj (by simpa using h)
    ·intro h; exact_mod_cast congrArg (Nat.cast (R := Int)) h
   have e1 : (2 * (k : Int)).tmod (M : Int) = (2 * (k : Int)) % M := tmod_nat (2 * k) M
   have e2 : ((a : Int) + b).tmod (M : Int) = ((a : Int) + b) % M := tmod_nat (a + b) M
   (iterate 2 ((try simp (etaStruct := .none) only [push_cast, DrawG, seval, e0, e1, e2]); (try (refine xsu ?_; try exact xtI))))
   (try (refine ⟨by kernel_rfl, ?_⟩))
   (iterate 2 ((try simp (etaStruct := .none) only [push_cast, DrawG, seval, e0, e1, e2]); (try (refine xsu ?_; try exact xtI))))
   refine cond_i (fun h3 => ?_) (fun h3 => ?_)
   ·(try replace h3 := xhh h3)
    have e : meetL M a b = k := (hmi.1 h3).symm
    (iterate 2 ((try simp (etaStruct := .none) only [push_cast, DrawG, seval, e0, e1, e2]); (try (refine xsu ?_; try exact xtI))))
    exact ret0 rfl trivial (Wk.of (by rw [e]; rfl))
   ·(try replace h3 := xhh h3)
    have hne : k ≠ meetL M a b := fun e => h3 (hmi.2 e)
    (iterate 2 ((try simp (etaStruct := .none) only [push_cast, DrawG, seval, e0, e1, e2]); (try (refine xsu ?_; try exact xtI))))
    refine ⟨k + 1, by omega, by omega, To.mk [] rfl rfl List.nodup_nil trivial ?_⟩
    ·(iterate 2 ((try simp (etaStruct := .none) only [push_cast, DrawG, seval, e0, e1, e2]); (try (refine xsu ?_; try exact xtI))))
  ·(try replace h2 := xhh h2)
   omega
def rowsM (M : Nat) (L : List Pr) : List (List (List PV)) := (List.range M).map fun j => (L.filter fun x => decide (meetL M x.a x.b = j)).map prP
theorem rowsM_0 (M : Nat) : rowsM M [] = List.replicate M [] := by
 unfold rowsM
 apply List.ext_getElem?
 intro j
 rw [List.getElem?_map, List.getElem?_replicate]
 by_cases hj : j < M
 ·rw [List.getElem?_range hj, if_pos hj]; rfl
 ·rw [List.getElem?_eq_none (by simp; omega), if_neg hj]; rfl
theorem rowsM_at (M : Nat) (L : List Pr) (r : Nat) (hr : r < M) : (rowsM M L).getD r [] = (L.filter fun x => decide (meetL M x.a x.b = r)).map prP := by
 unfold rowsM
 rw [List.getD_eq_getElem?_getD, List.getElem?_map, List.getElem?_range hr]; rfl
theorem rowsM_s (M : Nat) (L : List Pr) (x : Pr) (h : meetL M x.a x.b < M) : (rowsM M L).set (meetL M x.a x.b) ((rowsM M L).getD (meetL M x.a x.b) [] ++ [prP x]) = rowsM M (L ++ [x]) := by
 rw [rowsM_at M L _ h]
 unfold rowsM
 apply List.ext_getElem?
 intro j
 rw [List.getElem?_set, List.getElem?_map, List.getElem?_map, List.length_map, List.length_range]
 by_cases hj : j < M
 ·rw [List.getElem?_range hj]
  simp only [Option.map_some, List.filter_append, List.map_append]
  by_cases hk : meetL M x.a x.b = j
  ·subst hk
   rw [if_pos rfl, if_pos h]
   simp
  ·rw [if_neg hk]
   simp [hk]
 ·rw [List.getElem?_eq_none (by simp; omega)]
  rw [if_neg (by omega)]; rfl
abbrev nilM (M : Nat) : List (List PV) := List.replicate M [.v (.slice none 0 0)]
def rndsP (n M : Nat) : List (List PV) := (List.range M).map fun j => [.sl 2 ((rndR n M j).map prP)]
theorem unN_rnds (n M : Nat) : unN 0 2 (nilM M) (rowsM M (upA n n)) = rndsP n M := by
 unfold unN rowsM rndsP nilM rndR
 apply List.ext_getElem?
 intro j
 rw [List.getElem?_zipWith, List.getElem?_replicate, List.getElem?_map, List.getElem?_map]
 by_cases hj : j < M
 ·rw [List.getElem?_range hj, if_pos hj]; rfl
 ·rw [List.getElem?_eq_none (by simp; omega), if_neg hj]; rfl
theorem set_same {α : Type} (l : List α) (i : Nat) (d : α) : l.set i (l.getD i d) = l := by
 apply List.ext_getElem?
 intro j
 rw [List.getElem?_set, List.getD_eq_getElem?_getD]
 by_cases h : i = j
 ·subst h
  rw [if_pos rfl]
  by_cases hi : i < l.length
  ·rw [if_pos hi, List.getElem?_eq_getElem hi]; rfl
  ·rw [if_neg hi, List.getElem?_eq_none (by omega)]
 ·rw [if_neg h]
theorem rowP_len (a b : Nat) : (rowP a b).length ≤ b := by
 unfold rowP; rw [List.length_map]; exact Nat.le_trans (List.length_filter_le _ _) (by simp)
theorem upA_len {n : Nat} (hn : n ≤ 64) : ∀ a, (upA n a).length ≤ 64 * a
 | 0 => Nat.le_refl _
 | a + 1 => by
  have h1 := upA_len hn a
  have h2 := rowP_len a n
  rw [upA_s, List.length_append]; omega
theorem roundsOf_s {q M m : Nat} (H : MM q M m) (n : Nat) (hn : n ≤ M + 1) (hm : (((n : Int) + 1) / 2) * 2 = m) : Spec Try.prog 7 [I .i64 n] [] (.c (.sl 1 (rndsP n M))) [] := by
 refine spec_am Try.func7 rfl rfl mix 44 rfl [.tmp 2] Try.results7 (Nat.le_of_ble_eq_true rfl) ?_
 rw [regH 10]
 have e0 := H.hm
 have hq := H.hq
 have hM := H.hM
 have eU : upA n 0 = [] := rfl
 (iterate 2 ((try simp (etaStruct := .none) only [push_cast, DrawG, seval, hm, e0]); (try (refine xsu ?_; try exact xtI))))
 refine loopI (fun k : Nat => ⟨[(16, I .i64 k), (15, I .i64 n), (4, .own 0), (3, I .i64 m), (0, I .i64 n)], [(0, .nst 28 1 0 32 2 (nilM M) (rowsM M (upA n k)) none)], 1⟩) (fun k : Nat => k ≤ n) (fun k : Nat => n - k) (0) (Nat.zero_le _) ((To.nst 0 28 1 0 32 2 _ rfl (by decide) (by simp)).trans (To.mk [0] rfl rfl (by decide) ?_ ?_)) ?_
 ·simp (etaStruct := .none) only [push_cast, DrawG, seval, hm, e0, Int.toNat_natCast, List.length_replicate, eU, rowsM_0, true_and]
 ·simp (etaStruct := .none) only [push_cast, DrawG, seval]
 rintro k hk
 (iterate 2 ((try simp (etaStruct := .none) only [push_cast, DrawG, seval, hm, e0]); (try (refine xsu ?_; try exact xtI))))
 refine cond_i (fun h1 => ?_) (fun h1 => ?_)
 ·(try replace h1 := xhh h1)
  have hk1 : k < n := by omega
  (iterate 2 ((try simp (etaStruct := .none) only [push_cast, DrawG, seval, hm, e0]); (try (refine xsu ?_; try exact xtI))))
  refine loopI (fun b : Nat => ⟨[(6, I .i64 b), (5, I .i64 k), (16, I .i64 k), (15, I .i64 n), (4, .own 0), (3, I .i64 m), (0, I .i64 n)], [(0, .nst 28 1 0 32 2 (nilM M) (rowsM M (upA n k ++ rowP k b)) none)], 1⟩) (fun b : Nat => k + 1 ≤ b ∧ b ≤ n) (fun b : Nat => n - b) (k + 1) (⟨Nat.le_refl _, by omega⟩) (To.mk [0] rfl rfl (by decide) ?_ ?_) ?_
  ·simp (etaStruct := .none) only [push_cast, DrawG, seval, rowP_0, List.append_nil]
  ·simp (etaStruct := .none) only [push_cast, DrawG, seval]
  rintro b hb
  have hix : (if b < n then meetL M k b else 0) < M := by
   split
   ·have := meet_lt (q := q) (show k < b by omega) (by omega)
    rwa [← hM] at this
   ·omega
  (iterate 2 ((try simp (etaStruct := .none) only [push_cast, DrawG, seval, hm, e0]); (try (refine xsu ?_; try exact xtI))))
  refine cond_to (To.open 0 (if b < n then meetL M k b else 0) 28 1 0 32 2 (nilM M) (rowsM M (upA n k ++ rowP k b)) rfl (by rw [List.length_replicate]; exact hix)) (fun h2 => ?_) (fun h2 => ?_)
  ·(try replace h2 := xhh h2)
   have hbn : b < n := by omega
   rw [if_pos hbn] at hix
   have hs := rowsM_s M (upA n k ++ rowP k b) ⟨k, b⟩ hix
   have hl := rowsM_at M (upA n k ++ rowP k b) _ hix
   have hS := meetsAt_s H k b (by omega) (by omega)
   have hZl : ((rowsM M (upA n k ++ rowP k b)).getD (meetL M k b) []).length ≤ 10000 := by
    rw [hl, List.length_map]
    refine Nat.le_trans (List.length_filter_le _ _) ?_
    have h1 := upA_len (show n ≤ 64 by omega) k
    have h2 := rowP_len k b
    rw [List.length_append]; omega
   clear hl
   generalize meetL M k b = r at *
   generalize hR : rowsM M (upA n k ++ rowP k b) = R at *
   generalize hZ : R.getD r [] = Z at *
   (iterate 2 ((try simp (etaStruct := .none) only [push_cast, DrawG, seval, hm, e0, if_pos hbn, Int.toNat_natCast, hZ]); (try (refine xsu ?_; try exact xtI))))
   refine caP (hS) ?_
   (iterate 2 ((try simp (etaStruct := .none) only [push_cast, DrawG, seval, hm, e0, if_pos hbn, Int.toNat_natCast, hZ]); (try (refine xsu ?_; try exact xtI))))
   refine regS fun lq Kq hlq hKq => ?_
   subst hlq
   iterate 13 (refine peelS fun rq hrq => ?_; (iterate 2 ((try simp (etaStruct := .none) only [push_cast, DrawG, seval, hm, e0, if_pos hbn, Int.toNat_natCast, hZ]); (try (refine xsu ?_; try exact xtI)))); subst hrq)
   refine endS ?_
   subst hKq
   (iterate 2 ((try simp (etaStruct := .none) only [push_cast, DrawG, seval, hm, e0, if_pos hbn, Int.toNat_natCast, hZ]); (try (refine xsu ?_; try exact xtI))))
   refine ⟨b + 1, ⟨by omega, by omega⟩, by omega, (To.close 0 _ _ _ _ _ _ _ _ _ _ rfl rfl).trans (To.mk [0] rfl rfl (by decide) ?_ ?_)⟩
   ·simp (etaStruct := .none) only [push_cast, DrawG, seval, hZ]
    rw [rowP_s (by omega), ← List.append_assoc]
    exact hs
   ·(iterate 2 ((try simp (etaStruct := .none) only [push_cast, DrawG, seval, hm, e0, if_pos hbn, Int.toNat_natCast, hZ]); (try (refine xsu ?_; try exact xtI))))
  ·(try replace h2 := xhh h2)
   have hbn : b = n := by omega
   (iterate 2 ((try simp (etaStruct := .none) only [push_cast, DrawG, seval, hm, e0]); (try (refine xsu ?_; try exact xtI))))
   refine ⟨k + 1, by omega, by omega, (To.close 0 _ _ _ _ _ _ _ _ _ _ rfl rfl).trans (To.mk [0] rfl rfl (by decide) ?_ ?_)⟩
   ·simp (etaStruct := .none) only [push_cast, DrawG, seval]
    rw [set_same, upA_s, hbn]
   ·(iterate 2 ((try simp (etaStruct := .none) only [push_cast, DrawG, seval, hm, e0]); (try (refine xsu ?_; try exact xtI))))
 ·(try replace h1 := xhh h1)
  obtain rfl : k = n := by omega
  (iterate 2 ((try simp (etaStruct := .none) only [push_cast, DrawG, seval, hm, e0]); (try (refine xsu ?_; try exact xtI))))
  refine retTo (To.frzN 0 _ _ _ _ _ _ _ rfl) (ret0 rfl (by repeat' (first | exact trivial | exact rfl | omega | refine ⟨?_, ?_⟩)) (Wk.of ?_))
  rw [unN_rnds]; rfl
end Go.Proofs.Ytjdgmcmekcgjgaa
namespace Go.Proofs.Ytjdgmcmekcgjgaa
set_option linter.all false
open Go.RowKit Go.Shelf Go.Sort
set_option maxRecDepth 100000
set_option maxHeartbeats 1000000
def prE (x : Pr) : List Value := [.int .i64 x.a, .int .i64 x.b]
theorem cmP_eq (x y : Nat) : Lib.compareInt x y = cmP x y := by
 unfold Lib.compareInt cmP
 rfl
theorem cmpP_c (x y : Pr) (w : World) : Calls Try.prog 12 #[.agg #[.int .i64 x.a, .int .i64 x.b], .agg #[.int .i64 y.a, .int .i64 y.b]] w fun e w' => e = .returned (.int .i64 (cfP x y)) ∧ ∃ q os', w' = grow (w.drewN q) os' := by
 have hcon := fun W' => Try.cmp_Compare_int x.a y.a W'
 change ∀ W', Calls Try.prog 13 _ _ _ at hcon
 rw [cmP_eq] at hcon
 unfold cfP
 generalize cmP x.a y.a = r at *
 go_enter Try.func12, Try.ntmps12
 go_wp2_with (go_at_call 13; refine (hcon _).mono ?_; rintro e w' ⟨rfl, rfl⟩)
 go_ret
 exact ⟨rfl, 0, _, by rw [alloc_eq_grow, alloc_eq_grow, grow_grow]; rfl⟩
theorem cmpAll_P : CmpAll Try.prog 12 prE cfP := fun w x y => cmpP_c x y w
theorem rndU_pos {n q r : Nat} (hr : r < 2 * q + 1) (h2 : 2 ≤ n) (hn : n = 2 * q + 1 ∨ n = 2 * q + 2) : 0 < (rndU n (2 * q + 1) r (q + 1)).length := by
 rw [List.length_pos_iff]
 intro h
 have hm := fun x => rndU_mem (n := n) (q := q) hr (by omega) x
 rw [h] at hm
 rcases hn with hn | hn
 ·have h1 := mt_lt (q := q) (k := 1) hr (by omega)
  have h3 := mt_meet (q := q) (k := 1) hr (by omega)
  have hb : (mtP (2 * q + 1) r 1).b < 2 * q + 1 := by
   have hx : mtX (2 * q + 1) r 1 < 2 * q + 1 := by unfold mtX; split <;> omega
   have hy : mtY (2 * q + 1) r 1 < 2 * q + 1 := by unfold mtY; split <;> omega
   unfold mtP
   rw [if_neg (by omega)]
   split
   ·exact hy
   ·exact hx
  have := (hm _).2 (rndR_mem.2 ⟨⟨h1.1, by omega⟩, h3⟩)
  simp at this
 ·have h1 := mt_lt (q := q) (k := 0) hr (by omega)
  have h3 := mt_meet (q := q) (k := 0) hr (by omega)
  have := (hm _).2 (rndR_mem.2 ⟨⟨h1.1, by omega⟩, h3⟩)
  simp at this
theorem rsort_s {n q M r : Nat} (hM : M = 2 * q + 1) (hr : r < M) (h2 : 2 ≤ n) (hq : q ≤ 31) (hn : n = M ∨ n = M + 1) : Spec Try.prog 11 [.own 0, .clo (.func 12) [] []] [.row 32 2 ((rndU n M r (q + 1)).map prP)] (.tup []) [.row 32 2 ((rndR n M r).map prP)] := by
 subst hM
 have hl := rndU_len n (2 * q + 1) r (q + 1)
 exact sort_s laySort (enters Try.func11 (by kernel_rfl) rfl) 2 (by decide) Try.isAgg32 Try.sizeOf32 prE (fun _ => rfl) (fun x v hv => by simp only [prE, List.mem_cons, List.not_mem_nil, or_false] at hv; rcases hv with rfl | rfl <;> rfl) cfP swo_cfP 12 (enters_of Try.func12 (by kernel_rfl) rfl) cmpAll_P 32 (rndU n (2 * q + 1) r (q + 1)) (rndR n (2 * q + 1) r) (rndU_pos hr h2 hn) (by omega) (fun d' hp hs => sort_rnd hr (by omega) d' hp hs)
end Go.Proofs.Ytjdgmcmekcgjgaa
namespace Go.Proofs.Ytjdgmcmekcgjgaa
set_option linter.all false
open Go.RowKit
set_option maxRecDepth 100000
set_option maxHeartbeats 1000000
def meetP (n u v : Nat) (Z : List Pr) : List Pr := Z ++ if v < n then [⟨u, v⟩] else []
theorem meet_s (n M r x y u v : Nat) (hu : (if (y : Int) < x then (y : Int) else x) = (u : Int)) (hv : (if (y : Int) > x then (y : Int) else x) = (v : Int)) (Y : List (List (List PV))) (Z : List Pr) (hr : r < M) (hY : Y.length = M) (hZ : Z.length ≤ 1000) : Spec Try.prog 10 [I .i64 x, I .i64 y, .ptr 0 0 0, .ptr 1 0 0, .ptr 2 0 0] [.blk 3 [I .i64 n], .blk 22 [.own 3], .blk 3 [I .i64 r], .nst 28 1 0 32 2 (nilM M) Y (some (r, 4)), .row 32 2 (Z.map prP)]
 (.tup []) [.blk 3 [I .i64 n], .blk 22 [.own 3], .blk 3 [I .i64 r], .nst 28 1 0 32 2 (nilM M) (Y.set r ((meetP n u v Z).map prP)) (some (r, 5)), .dead, .row 32 2 ((meetP n u v Z).map prP)] := by
 have hg : ∀ W : List (List PV), (Y.set r W).getD r [] = W := fun W => by rw [List.getD_eq_getElem?_getD, List.getElem?_set_self (by omega)]; rfl
 refine spec_am Try.func10 rfl rfl mix 28 rfl [] Try.results10 (Nat.le_of_ble_eq_true rfl) ?_
 (iterate 2 ((try simp (etaStruct := .none) only [push_cast, seval, Int.toNat_natCast, hu, hv]); (try (refine xsu ?_; try exact xtI))))
 refine cond_i (fun h1 => ?_) (fun h1 => ?_)
 ·(try replace h1 := xhh h1)
  have hW : (meetP n u v Z).map prP = Z.map prP ++ [[.v (.int .i64 u), .v (.int .i64 v)]] := by unfold meetP; rw [if_pos (by omega), List.map_append]; rfl
  (iterate 2 ((try simp (etaStruct := .none) only [push_cast, seval, Int.toNat_natCast, hu, hv]); (try (refine xsu ?_; try exact xtI))))
  refine drawG_w [some 16, some 17, some 18, some 19, some 20, some 21, some 22, some 23, some 24, some 25, some 26, some 27, none] rfl ?_
  intro Oq lq Rq hlq hdq hRq
  subst hlq
  iterate 13 (refine peelD fun rq hrq => ?_; (iterate 2 ((try simp (etaStruct := .none) only [push_cast, seval, hdq, id, Int.toNat_natCast, hu, hv]); (try (refine xsu ?_; try exact xtI)))); subst hrq)
  refine endD ?_
  subst hRq
  clear hdq Oq
  refine endE (by kernel_rfl) ?_
  (iterate 2 ((try simp (etaStruct := .none) only [push_cast, seval, Int.toNat_natCast, hu, hv]); (try (refine xsu ?_; try exact xtI))))
  refine retTo (To.close 3 r 45 28 1 0 32 2 (nilM M) _ _ rfl rfl) (retTo (To.open 3 r 28 1 0 32 2 (nilM M) _ rfl (by rw [List.length_replicate]; exact hr)) (retM [0, 1, 2, 3, 4, 57] rfl rfl (by decide) ⟨?_, ?_, ?_, ?_, ?_, ?_, trivial⟩ trivial ?_)) <;> simp (etaStruct := .none) only [push_cast, DrawG, seval, hu, hv, hg, hW]
 ·(try replace h1 := xhh h1)
  have hW : (meetP n u v Z).map prP = Z.map prP := by unfold meetP; rw [if_neg (by omega), List.append_nil]
  (iterate 2 ((try simp (etaStruct := .none) only [push_cast, seval, Int.toNat_natCast, hu, hv]); (try (refine xsu ?_; try exact xtI))))
  refine retTo (To.close 3 r 4 28 1 0 32 2 (nilM M) _ _ rfl rfl) (retTo (To.open 3 r 28 1 0 32 2 (nilM M) _ rfl (by rw [List.length_replicate]; exact hr)) (retM [0, 1, 2, 3, 4, 5] rfl rfl (by decide) ⟨?_, ?_, ?_, ?_, ?_, ?_, trivial⟩ trivial ?_)) <;> simp (etaStruct := .none) only [push_cast, DrawG, seval, hu, hv, hg, hW]
def rowsK (n M k : Nat) : List (List (List PV)) := (List.range M).map fun j => if j < k then (rndR n M j).map prP else []
theorem rowsK_len (n M k : Nat) : (rowsK n M k).length = M := by simp [rowsK]
theorem rowsK_0 (n M : Nat) : rowsK n M 0 = List.replicate M [] := by
 unfold rowsK
 apply List.ext_getElem?
 intro j
 rw [List.getElem?_map, List.getElem?_replicate]
 by_cases hj : j < M
 ·rw [List.getElem?_range hj, if_pos hj]; rfl
 ·rw [List.getElem?_eq_none (by simp; omega), if_neg hj]; rfl
theorem rowsK_at (n M k : Nat) (hk : k < M) : (rowsK n M k).getD k [] = [] := by
 unfold rowsK
 rw [List.getD_eq_getElem?_getD, List.getElem?_map, List.getElem?_range hk]
 simp
theorem rowsK_s (n M k : Nat) (hk : k < M) : (rowsK n M k).set k ((rndR n M k).map prP) = rowsK n M (k + 1) := by
 unfold rowsK
 apply List.ext_getElem?
 intro j
 rw [List.getElem?_set, List.getElem?_map, List.getElem?_map, List.length_map, List.length_range]
 by_cases hj : j < M
 ·rw [List.getElem?_range hj]
  by_cases hkj : k = j
  ·subst hkj
   rw [if_pos rfl, if_pos hk]; simp
  ·rw [if_neg hkj]
   simp only [Option.map_some]
   by_cases h : j < k
   ·rw [if_pos h, if_pos (by omega)]
   ·rw [if_neg h, if_neg (by omega)]
 ·rw [List.getElem?_eq_none (by simp; omega), if_neg (by omega)]; rfl
theorem unN_rowsK (n M : Nat) : unN 0 2 (nilM M) (rowsK n M M) = rndsP n M := by
 unfold unN rowsK rndsP nilM
 apply List.ext_getElem?
 intro j
 rw [List.getElem?_zipWith, List.getElem?_replicate, List.getElem?_map, List.getElem?_map]
 by_cases hj : j < M
 ·rw [List.getElem?_range hj, if_pos hj]; simp [hj]
 ·rw [List.getElem?_eq_none (by simp; omega), if_neg hj]; rfl
theorem mtX_tmod {q M k j : Nat} (hM : M = 2 * q + 1) (hk : k < M) (hj : j ≤ q) : ((k : Int) + j) % M = (mtX M k j : Nat) := by
 have : (k + j) % M = mtX M k j := by rw [mod_two (by omega)]; rfl
 rw [← this]; push_cast; rfl
theorem mtY_tmod {q M k j : Nat} (hM : M = 2 * q + 1) (hk : k < M) (hj : j ≤ q) : ((k : Int) + M - j) % M = (mtY M k j : Nat) := by
 have h1 : (k + M - j) % M = mtY M k j := by
  rw [mod_two (by omega)]; unfold mtY
  split <;> split <;> omega
 rw [← h1]
 have h2 : ((k + M - j : Nat) : Int) = (k : Int) + M - j := by omega
 rw [← h2]; push_cast; rfl
theorem mt_u {M k j : Nat} (hj : j ≠ 0) (hne : mtX M k j ≠ mtY M k j) : (if ((mtY M k j : Nat) : Int) < (mtX M k j : Nat) then ((mtY M k j : Nat) : Int) else (mtX M k j : Nat)) = ((mtP M k j).a : Int) ∧ (if ((mtY M k j : Nat) : Int) > (mtX M k j : Nat) then ((mtY M k j : Nat) : Int) else (mtX M k j : Nat)) = ((mtP M k j).b : Int) := by
 unfold mtP
 rw [if_neg hj]
 generalize mtX M k j = x at *
 generalize mtY M k j = y at *
 by_cases h : x < y
 ·rw [if_pos h, if_neg (by omega), if_pos (by omega)]; exact ⟨rfl, rfl⟩
 ·rw [if_neg h, if_pos (by omega), if_neg (by omega)]; exact ⟨rfl, rfl⟩
theorem rndU_m (n M r k : Nat) : meetP n (mtP M r k).a (mtP M r k).b (rndU n M r k) = rndU n M r (k + 1) := by
 rw [rndU_s]; rfl
theorem rounds_ok {q M m : Nat} (H : MM q M m) (n : Nat) (hn2 : 2 ≤ n ∧ n ≤ 64) (hm : (n : Int) + n % 2 = m) (hnM : n = M ∨ n = M + 1) : Spec Try.prog 4 [I .i64 n] [] (.tup [.c (.sl 1 (rndsP n M)), I .i64 0]) [] := by
 refine spec_am Try.func4 rfl rfl mix 63 rfl [.tmp 2, .tmp 3] Try.results4 (Nat.le_of_ble_eq_true rfl) ?_
 have e0 := H.hm
 have hq := H.hq
 have hM := H.hM
 have eh : (m : Int) / 2 = q + 1 := by omega
 (iterate 2 ((try simp (etaStruct := .none) only [push_cast, seval, hm, e0]); (try (refine xsu ?_; try exact xtI))))
 refine cond_i (fun h1 => ?_) (fun h1 => ?_)
 ·(try replace h1 := xhh h1)
  omega
 ·(try replace h1 := xhh h1)
  (iterate 2 ((try simp (etaStruct := .none) only [push_cast, seval, hm, e0]); (try (refine xsu ?_; try exact xtI))))
  refine loopI (fun k : Nat => ⟨[(24, I .i64 k), (23, I .i64 M), (5, .ptr 2 0 0), (4, I .i64 m), (1, .ptr 0 0 0)], [(0, .blk 3 [I .i64 n]), (1, .nst 28 1 0 32 2 (nilM M) (rowsK n M k) none), (2, .blk 22 [.own 1])], 3⟩) (fun k : Nat => k ≤ M) (fun k : Nat => M - k) (0) (Nat.zero_le _) ((To.nst 1 28 1 0 32 2 _ rfl (by decide) (by simp)).trans (To.mk [0, 1, 2] rfl rfl (by decide) ?_ ?_)) ?_
  ·simp (etaStruct := .none) only [push_cast, DrawG, seval, hm, e0, Int.toNat_natCast, List.length_replicate, rowsK_0]
  ·simp (etaStruct := .none) only [push_cast, DrawG, seval, hm, e0, Int.toNat_natCast, List.length_replicate]
  rintro k hk
  have hix : (if k < M then k else 0) < M := by split <;> omega
  (iterate 2 ((try simp (etaStruct := .none) only [push_cast, seval, hm, e0]); (try (refine xsu ?_; try exact xtI))))
  refine cond_to (To.open 1 (if k < M then k else 0) 28 1 0 32 2 (nilM M) (rowsK n M k) rfl (by rw [List.length_replicate]; exact hix)) (fun h2 => ?_) (fun h2 => ?_)
  ·(try replace h2 := xhh h2)
   have hkM : k < M := by omega
   have hr0 := rowsK_at n M k hkM
   have hu0 : (if (k : Int) < M then (k : Int) else M) = k := by rw [if_pos (by omega)]
   have hv0 : (if (k : Int) > M then (k : Int) else M) = M := by rw [if_neg (by omega)]
   have hm1 : meetP n k M [] = rndU n M k 1 := (rndU_m n M k 0).trans rfl
   (iterate 2 ((try simp (etaStruct := .none) only [push_cast, seval, hm, e0, if_pos hkM, Int.toNat_natCast, hr0]); (try (refine xsu ?_; try exact xtI))))
   refine caM [0, 2, 4, 1, 3] (meet_s n M k M k k M hu0 hv0 (rowsK n M k) [] hkM (rowsK_len n M k) (by simp)) ?_
   (iterate 2 ((try simp (etaStruct := .none) only [push_cast, seval, hm, e0, if_pos hkM, Int.toNat_natCast, hr0]); (try (refine xsu ?_; try exact xtI))))
   refine loopI (fun j : Nat => ⟨[(8, I .i64 j), (7, .clo (.func 10) [] [.ptr 0 0 0, .ptr 2 0 0, .ptr 4 0 0]), (6, .ptr 4 0 0), (24, I .i64 k), (23, I .i64 M), (5, .ptr 2 0 0), (4, I .i64 m), (1, .ptr 0 0 0)], [(0, .blk 3 [I .i64 n]), (1, .nst 28 1 0 32 2 (nilM M) ((rowsK n M k).set k ((rndU n M k j).map prP)) (some (k, 3))), (2, .blk 22 [.own 1]), (3, .row 32 2 ((rndU n M k j).map prP)), (4, .blk 3 [I .i64 k])], 5⟩) (fun j : Nat => 1 ≤ j ∧ j ≤ q + 1) (fun j : Nat => q + 1 - j) (1) (⟨Nat.le_refl _, by omega⟩) (To.mk [0, 1, 2, 5, 4] rfl rfl (by decide) ?_ ?_) ?_
   ·simp (etaStruct := .none) only [push_cast, DrawG, seval, hm1]
   ·simp (etaStruct := .none) only [push_cast, DrawG, seval]
   rintro j hj
   have hlu := rndU_len n M k j
   (iterate 2 ((try simp (etaStruct := .none) only [push_cast, seval, hm, e0, if_pos hkM, Int.toNat_natCast, hr0, eh]); (try (refine xsu ?_; try exact xtI))))
   refine cond_i (fun h3 => ?_) (fun h3 => ?_)
   ·(try replace h3 := xhh h3)
    have hjq : j ≤ q := by omega
    have eX := mtX_tmod hM hkM hjq
    have eY := mtY_tmod hM hkM hjq
    have eY2 : (k : Int) + m - 1 - j = (k : Int) + M - j := by omega
    have hxy : mtX M k j ≠ mtY M k j := by
     have hx : mtX M k j = k + j ∧ k + j < M ∨ mtX M k j + M = k + j ∧ M ≤ k + j := by unfold mtX; split <;> omega
     have hy : mtY M k j = k + M - j ∧ k < j ∨ mtY M k j = k - j ∧ j ≤ k := by unfold mtY; split <;> omega
     omega
    have huv := mt_u (show j ≠ 0 by omega) hxy
    have hmj := rndU_m n M k j
    (iterate 2 ((try simp (etaStruct := .none) only [push_cast, seval, hm, e0, if_pos hkM, Int.toNat_natCast, hr0, eh, eX, eY, eY2]); (try (refine xsu ?_; try exact xtI))))
    refine drawG_w [some 39, some 40, some 41, some 42, some 43, some 44, some 45, some 46, some 47, some 48, some 49, some 50, some 51, some 52, some 53, some 54, some 55] rfl ?_
    intro Oq lq Rq hlq hdq hRq
    subst hlq
    iterate 16 (refine peelD fun rq hrq => ?_; (iterate 2 ((try simp (etaStruct := .none) only [push_cast, seval, hdq, id, hm, e0, if_pos hkM, Int.toNat_natCast, hr0, eh, eX, eY, eY2]); (try (refine xsu ?_; try exact xtI)))); subst hrq)
    refine peelD fun rq hrq => ?_
    (iterate 2 ((try simp (etaStruct := .none) only [push_cast, seval, hdq, id, hm, e0, if_pos hkM, Int.toNat_natCast, hr0, eh, eX, eY, eY2]); (try (refine xsu ?_; try exact xtI))))
    refine callM [0, 2, 4, 1, 3] (meet_s n M k (mtX M k j) (mtY M k j) (mtP M k j).a (mtP M k j).b huv.1 huv.2 ((rowsK n M k).set k ((rndU n M k j).map prP)) (rndU n M k j) hkM (by rw [List.length_set, rowsK_len]) (by omega)) (WkL.refl _) rfl (by decide) (by simp [lookC_c, onlyC, memN]) ?_
    (iterate 2 ((try simp (etaStruct := .none) only [push_cast, seval, hdq, id, hm, e0, if_pos hkM, Int.toNat_natCast, hr0, eh, eX, eY, eY2]); (try (refine xsu ?_; try exact xtI))))
    subst hrq
    refine endD ?_
    subst hRq
    clear hdq Oq
    refine endE (by kernel_rfl) ?_
    (iterate 2 ((try simp (etaStruct := .none) only [push_cast, seval, hm, e0, if_pos hkM, Int.toNat_natCast, hr0, eh, eX, eY, eY2]); (try (refine xsu ?_; try exact xtI))))
    refine ⟨j + 1, ⟨by omega, by omega⟩, by omega, To.mk [0, 1, 2, 69, 4] rfl rfl (by decide) ?_ ?_⟩
    ·(iterate 2 ((try simp (etaStruct := .none) only [push_cast, seval, List.set_set, hmj]); (try (refine xsu ?_; try exact xtI))))
    ·(iterate 2 ((try simp (etaStruct := .none) only [push_cast, seval, hm, e0, if_pos hkM, Int.toNat_natCast, hr0, eh, eX, eY, eY2]); (try (refine xsu ?_; try exact xtI))))
   ·(try replace h3 := xhh h3)
    obtain rfl : j = q + 1 := by omega
    (iterate 2 ((try simp (etaStruct := .none) only [push_cast, seval, hm, e0, if_pos hkM, Int.toNat_natCast, hr0, eh]); (try (refine xsu ?_; try exact xtI))))
    refine caM [3] (rsort_s hM hkM hn2.1 hq hnM) ?_
    (iterate 2 ((try simp (etaStruct := .none) only [push_cast, seval, hm, e0, if_pos hkM, Int.toNat_natCast, hr0, eh]); (try (refine xsu ?_; try exact xtI))))
    refine ⟨k + 1, by omega, by omega, (To.close 1 k 3 _ _ _ _ _ _ _ _ rfl rfl).trans (To.mk [0, 1, 2] rfl rfl (by decide) ?_ ?_)⟩
    ·simp (etaStruct := .none) only [push_cast, DrawG, seval, List.set_set, rowsK_s n M k hkM]
    ·(iterate 2 ((try simp (etaStruct := .none) only [push_cast, seval, hm, e0, if_pos hkM, Int.toNat_natCast, hr0, eh]); (try (refine xsu ?_; try exact xtI))))
  ·(try replace h2 := xhh h2)
   obtain rfl : k = M := by omega
   (iterate 2 ((try simp (etaStruct := .none) only [push_cast, seval, hm, e0]); (try (refine xsu ?_; try exact xtI))))
   refine retTo (To.close 1 _ 3 _ _ _ _ _ _ _ _ rfl rfl) (retTo (To.frzN 1 _ _ _ _ _ _ _ rfl) (ret0 rfl (by repeat' (first | exact trivial | exact rfl | omega | refine ⟨?_, ?_⟩)) (Wk.tup ⟨Wk.of ?_, Wk.refl _, trivial⟩)))
   rw [set_same, unN_rowsK]; rfl
end Go.Proofs.Ytjdgmcmekcgjgaa
namespace Go.Proofs.Ytjdgmcmekcgjgaa
set_option linter.all false
open Go.RowKit
set_option maxRecDepth 100000
def within (n a b : Int) : Bool := decide (a ≤ n) && decide (n ≤ b)
theorem within_iff {n a b : Int} : within n a b = true ↔ a ≤ n ∧ n ≤ b := by unfold within; simp
theorem between_s (n a b : Int) : Spec Try.prog 5 [I .i64 n, I .i64 a, I .i64 b] [] (B (within n a b)) [] := by
 refine spec_am Try.func5 rfl rfl mix 15 rfl [.tmp 6] Try.results5 (Nat.le_of_ble_eq_true rfl) ?_
 (try (refine xst ?_; try exact xtI))
 exact ret0 rfl trivial (Wk.of (congrArg B (by unfold within; first | rfl | simp)))
end Go.Proofs.Ytjdgmcmekcgjgaa
namespace Go.Proofs.Ytjdgmcmekcgjgaa
set_option linter.all false
open Go.RowKit
set_option maxRecDepth 100000
set_option maxHeartbeats 1000000
theorem pr_dec (a b : Pr) : (decide ((a.a : Int) = b.a) && decide ((a.b : Int) = b.b)) = decide (a = b) := by
 rw [Bool.eq_iff_iff]; cases a; cases b; simp
 constructor <;> rintro ⟨h1, h2⟩ <;> constructor <;> omega
theorem pr_eq (l m : List Pr) (hl : l.length ≤ 9223372036854775807) (hm : m.length ≤ 9223372036854775807) : Spec Try.prog 9 [.c (.sl 2 (l.map prP)), .c (.sl 2 (m.map prP))] [] (B (decide (l = m))) [] := by
 refine spec_am Try.func9 rfl rfl mix 26 rfl [.tmp 4] Try.results9 (Nat.le_of_ble_eq_true rfl) ?_
 (try (refine xst ?_; try exact xtI))
 refine cond_i (fun h1 => ?_) (fun h1 => ?_)
 ·(try replace h1 := xhh h1)
  have e : l ≠ m := by intro e; subst e; simp at h1
  (try (refine xst ?_; try exact xtI))
  exact ret0 rfl trivial (Wk.of (by rw [decide_eq_false e]; rfl))
 ·(try replace h1 := xhh h1)
  (try (refine xst ?_; try exact xtI))
  refine loopI (fun k : Nat => ⟨[(13, I .i64 k), (12, I .i64 l.length), (1, .c (.sl 2 (m.map prP))), (0, .c (.sl 2 (l.map prP)))], [], 0⟩) (fun k : Nat => k ≤ l.length ∧ ∀ j, j < k → l.getD j default = m.getD j default) (fun k : Nat => l.length - k) (0) (⟨Nat.zero_le _, fun j h => by omega⟩) (To.mk [] rfl rfl List.nodup_nil trivial ?_) ?_
  ·simp (etaStruct := .none) only [push_cast, DrawG, seval]
  rintro k ⟨hk, hn⟩
  (try (refine xst ?_; try exact xtI))
  refine cond_i (fun h2 => ?_) (fun h2 => ?_)
  ·(try replace h2 := xhh h2)
   have hlt : k < l.length := by omega
   have hlt2 : k < m.length := by omega
   (iterate 2 ((try simp (etaStruct := .none) only [push_cast, DrawG, seval, getD_in _ _ _ hlt, getD_in _ _ _ hlt2, prP, pr_dec]); (try (refine xsu ?_; try exact xtI))))
   (try (refine ⟨by kernel_rfl, ?_⟩))
   (iterate 2 ((try simp (etaStruct := .none) only [push_cast, DrawG, seval, getD_in _ _ _ hlt, getD_in _ _ _ hlt2, prP, pr_dec]); (try (refine xsu ?_; try exact xtI))))
   refine cond_i (fun h3 => ?_) (fun h3 => ?_)
   ·(try replace h3 := xhh h3)
    have e : l ≠ m := by intro e; subst e; simp at h3
    (iterate 2 ((try simp (etaStruct := .none) only [push_cast, DrawG, seval, getD_in _ _ _ hlt, getD_in _ _ _ hlt2, prP, pr_dec]); (try (refine xsu ?_; try exact xtI))))
    exact ret0 rfl trivial (Wk.of (by rw [decide_eq_false e]; rfl))
   ·(try replace h3 := xhh h3)
    (iterate 2 ((try simp (etaStruct := .none) only [push_cast, DrawG, seval, getD_in _ _ _ hlt, getD_in _ _ _ hlt2, prP, pr_dec]); (try (refine xsu ?_; try exact xtI))))
    refine ⟨k + 1, ⟨by omega, fun j hj => by rcases Nat.lt_or_ge j k with h | h; exact hn j h; rw [show j = k by omega]; simpa using h3⟩, by omega, To.mk [] rfl rfl List.nodup_nil trivial ?_⟩
    ·(iterate 2 ((try simp (etaStruct := .none) only [push_cast, DrawG, seval, getD_in _ _ _ hlt, getD_in _ _ _ hlt2, prP, pr_dec]); (try (refine xsu ?_; try exact xtI))))
  ·(try replace h2 := xhh h2)
   have e : l = m := by
    refine List.ext_getElem (by omega) fun i i1 i2 => ?_
    have := hn i (by omega)
    rwa [getD_at _ _ i1, getD_at _ _ i2] at this
   (try (refine xst ?_; try exact xtI))
   exact ret0 rfl trivial (Wk.of (by rw [decide_eq_true e]; rfl))
abbrev rwA (z : List Pr) : AV := .c (.sl 2 (z.map prP))
def rwP (z : List Pr) : List PV := [.sl 2 (z.map prP)]
theorem rw_eqf (F : FuncId) (p : (List Pr) → (List Pr) → Bool) (l m : List (List Pr)) (hl : l.length ≤ 9223372036854775807) (hm : m.length ≤ 9223372036854775807) (hp : ∀ x ∈ l, ∀ y ∈ m, Spec Try.prog F ([] ++ [rwA x, rwA y] ++ []) [] (B (p x y)) []) :
 Spec Try.prog 6 [.c (.sl 1 (l.map rwP)), .c (.sl 1 (m.map rwP)), .clo (.func F) [] []] [] (B (decide (l.length = m.length) && (List.range l.length).all fun i => p (l.getD i default) (m.getD i default))) [] := by
 refine spec_am Try.func6 rfl rfl mix 32 rfl [.tmp 6] Try.results6 (Nat.le_of_ble_eq_true rfl) ?_
 (try (refine xst ?_; try exact xtI))
 refine cond_i (fun h1 => ?_) (fun h1 => ?_)
 ·(try replace h1 := xhh h1)
  have e : (decide (l.length = m.length) && (List.range l.length).all fun i => p (l.getD i default) (m.getD i default)) = false := by rw [decide_eq_false (by omega)]; rfl
  (try (refine xst ?_; try exact xtI))
  exact ret0 rfl trivial (Wk.of (by rw [e]; rfl))
 ·(try replace h1 := xhh h1)
  have h1' : l.length = m.length := by omega
  (try (refine xst ?_; try exact xtI))
  refine loopI (fun k : Nat => ⟨[(17, I .i64 k), (16, I .i64 l.length), (15, .c (.sl 1 (l.map rwP))), (2, .clo (.func F) [] []), (1, .c (.sl 1 (m.map rwP)))], [], 0⟩) (fun k : Nat => k ≤ l.length ∧ ∀ j, j < k → p (l.getD j default) (m.getD j default) = true) (fun k : Nat => l.length - k) (0) (⟨Nat.zero_le _, fun j h => by omega⟩) (To.mk [] rfl rfl List.nodup_nil trivial ?_) ?_
  ·simp (etaStruct := .none) only [push_cast, DrawG, seval]
  rintro k ⟨hk, hn⟩
  (try (refine xst ?_; try exact xtI))
  refine cond_i (fun h2 => ?_) (fun h2 => ?_)
  ·(try replace h2 := xhh h2)
   have hlt : k < l.length := by omega
   have hlt2 : k < m.length := by omega
   (iterate 2 ((try simp (etaStruct := .none) only [push_cast, DrawG, seval, getD_in _ _ _ hlt, getD_in _ _ _ hlt2, rwP]); (try (refine xsu ?_; try exact xtI))))
   refine caP (hp (l.getD k default) (by rw [getD_at _ _ hlt]; exact List.getElem_mem hlt) (m.getD k default) (by rw [getD_at _ _ hlt2]; exact List.getElem_mem hlt2)) ?_
   (iterate 2 ((try simp (etaStruct := .none) only [push_cast, DrawG, seval, getD_in _ _ _ hlt, getD_in _ _ _ hlt2, rwP]); (try (refine xsu ?_; try exact xtI))))
   refine cond_i (fun h3 => ?_) (fun h3 => ?_)
   ·(try replace h3 := xhh h3)
    have e : (decide (l.length = m.length) && (List.range l.length).all fun i => p (l.getD i default) (m.getD i default)) = false := by
     rw [Bool.and_eq_false_iff]; right
     rw [List.all_eq_false]
     exact ⟨k, by simp; omega, by rw [h3]; simp⟩
    (iterate 2 ((try simp (etaStruct := .none) only [push_cast, DrawG, seval, getD_in _ _ _ hlt, getD_in _ _ _ hlt2, rwP]); (try (refine xsu ?_; try exact xtI))))
    exact ret0 rfl trivial (Wk.of (by rw [e]; rfl))
   ·(try replace h3 := xhh h3)
    (iterate 2 ((try simp (etaStruct := .none) only [push_cast, DrawG, seval, getD_in _ _ _ hlt, getD_in _ _ _ hlt2, rwP]); (try (refine xsu ?_; try exact xtI))))
    refine ⟨k + 1, ⟨by omega, fun j hj => by rcases Nat.lt_or_ge j k with h | h; exact hn j h; rw [show j = k by omega]; exact h3⟩, by omega, To.mk [] rfl rfl List.nodup_nil trivial ?_⟩
    ·(iterate 2 ((try simp (etaStruct := .none) only [push_cast, DrawG, seval, getD_in _ _ _ hlt, getD_in _ _ _ hlt2, rwP]); (try (refine xsu ?_; try exact xtI))))
  ·(try replace h2 := xhh h2)
   have e : (decide (l.length = m.length) && (List.range l.length).all fun i => p (l.getD i default) (m.getD i default)) = true := by
    rw [decide_eq_true h1', Bool.true_and, List.all_eq_true]
    intro i hi
    exact hn i (by simp at hi; omega)
   (try (refine xst ?_; try exact xtI))
   exact ret0 rfl trivial (Wk.of (by rw [e]; rfl))
theorem rweq_s (x y : List Pr) (hx : x.length ≤ 9223372036854775807) (hy : y.length ≤ 9223372036854775807) : Spec Try.prog 8 [rwA x, rwA y] [] (B (decide (x = y))) [] := by
 refine spec_am Try.func8 rfl rfl mix 8 rfl [.tmp 4] Try.results8 (Nat.le_of_ble_eq_true rfl) ?_
 (try (refine xst ?_; try exact xtI))
 refine caP (pr_eq x y hx hy) ?_
 (try (refine xst ?_; try exact xtI))
 exact xrz rfl
theorem rounds_bad (n : Int) (h : ¬ (2 ≤ n ∧ n ≤ 64)) : Spec Try.prog 4 [I .i64 n] [] (.tup [.c (.v (.slice none 0 0)), I .i64 1]) [] := by
 refine spec_am Try.func4 rfl rfl mix 63 rfl [.tmp 2, .tmp 3] Try.results4 (Nat.le_of_ble_eq_true rfl) ?_
 (try (refine xst ?_; try exact xtI))
 refine cond_i (fun h1 => ?_) (fun h1 => ?_)
 ·(try replace h1 := xhh h1)
  (try (refine xst ?_; try exact xtI))
  exact xrz rfl
 ·(try replace h1 := xhh h1)
  omega
theorem matchR_bad (n : Int) (h : ¬ (2 ≤ n ∧ n ≤ 64)) : Spec Try.prog 3 [I .i64 n] [] (B true) [] := by
 refine spec_am Try.func3 rfl rfl mix 28 rfl [.tmp 2] Try.results3 (Nat.le_of_ble_eq_true rfl) ?_
 (try (refine xst ?_; try exact xtI))
 refine caP (rounds_bad n h) ?_
 (try (refine xst ?_; try exact xtI))
 refine caP (between_s n 2 64) ?_
 (try (refine xst ?_; try exact xtI))
 refine cond_i (fun h1 => ?_) (fun h1 => ?_)
 ·(try replace h1 := xhh h1)
  (try (refine xst ?_; try exact xtI))
  exact xrz rfl
 ·(try replace h1 := xhh h1)
  exact (h (within_iff.1 (by simpa using h1))).elim
def rndL (n M : Nat) : List (List Pr) := (List.range M).map (rndR n M)
theorem rndsP_eq (n M : Nat) : rndsP n M = (rndL n M).map rwP := by unfold rndL rndsP; rw [List.map_map]; rfl
theorem rndR_len {n M r : Nat} (hn : n ≤ 64) : (rndR n M r).length ≤ 10000 := by
 unfold rndR
 have := upA_len hn n
 exact Nat.le_trans (List.length_filter_le _ _) (by omega)
theorem matchR_ok {q M m : Nat} (H : MM q M m) (n : Nat) (hn2 : 2 ≤ n ∧ n ≤ 64) (hm : (n : Int) + n % 2 = m) (hm2 : (((n : Int) + 1) / 2) * 2 = m) (hnM : n = M ∨ n = M + 1) : Spec Try.prog 3 [I .i64 n] [] (B true) [] := by
 have hll : (rndL n M).length ≤ 9223372036854775807 := by unfold rndL; rw [List.length_map, List.length_range]; have := H.hM; have := H.hq; omega
 have hlr : ∀ z ∈ rndL n M, z.length ≤ 9223372036854775807 := fun z hz => by
  obtain ⟨j, _, rfl⟩ := List.mem_map.1 hz
  exact Nat.le_trans (rndR_len (by omega)) (by decide)
 have e : (decide ((rndL n M).length = (rndL n M).length) && (List.range (rndL n M).length).all fun i => decide ((rndL n M).getD i default = (rndL n M).getD i default)) = true := by simp
 have R1 := rounds_ok H n hn2 hm hnM
 have R2 := roundsOf_s H n (by omega) hm2
 rw [rndsP_eq] at R1 R2
 refine spec_am Try.func3 rfl rfl mix 28 rfl [.tmp 2] Try.results3 (Nat.le_of_ble_eq_true rfl) ?_
 (try (refine xst ?_; try exact xtI))
 refine caP (R1) ?_
 (try (refine xst ?_; try exact xtI))
 refine caP (between_s n 2 64) ?_
 (try (refine xst ?_; try exact xtI))
 refine cond_i (fun h1 => ?_) (fun h1 => ?_)
 ·(try replace h1 := xhh h1)
  exact absurd (within_iff.2 (show 2 ≤ (n : Int) ∧ (n : Int) ≤ 64 by omega)) (by simpa using h1)
 ·(try replace h1 := xhh h1)
  (try (refine xst ?_; try exact xtI))
  refine gcP (fun hcc => R2) ?_
  (try (refine xst ?_; try exact xtI))
  refine gcP (fun hcc => rw_eqf 8 (fun x y => decide (x = y)) (rndL n M) (rndL n M) hll hll (fun x hx y hy => rweq_s x y (hlr x hx) (hlr y hy))) ?_
  (try (refine xst ?_; try exact xtI))
  exact xrz rfl
end Go.Proofs.Ytjdgmcmekcgjgaa
