/- Lemmas for the proof of seatSays.proved. -/
import Derived.Test.YtdkmndimmpilaaaSeatM2
import Derived.Test.YtdkmndimmpilaaaProg
import Derived.WalkKit
import Derived.Handy
import Derived.WalkSpells
import Derived.WalkLawsBesides
import Derived.Lib.Hide
import Derived.Lib.BitFns
import Derived.Laws.BitsAllLaws
import Derived.Laws.AppendOwnNone
import Derived.Lib.SliceRun
import Derived.Deep.Draws
import Derived.Deep.QuietTactic
import Derived.ProofKit
import Derived.OpenShut
import Derived.ShutString
import Derived.ChangeOld
import Derived.Below
import Derived.Deep.Slices
import Derived.KernelRfl
namespace Go.Proofs.Ytdkmndimmpilaaa
set_option linter.all false
open Go.RowKit
def cvT (ids : List Nat) (h : Nat → Chunk) (f : Nat → AV) : List (Nat × AV) → Prop
 | [] => True
 | (t, x) :: r => Wk (cv ids h (f t)) x ∧ cvT ids h f r
def cvH (all : List Nat) (h : Nat → Chunk) : Nat → List Nat → List (Nat × Chunk) → Prop
 | _, [], [] => True
 | j, id :: r, (k, c) :: r' => k = j ∧ WkC (cvC all h (h id)) c ∧ cvH all h (j + 1) r r'
 | _, _, _ => False
def hsW (all : List Nat) (h : Nat → Chunk) : List Nat → List Chunk → Prop
 | [], [] => True
 | id :: r, c :: r' => WkC (cvC all h (h id)) c ∧ hsW all h r r'
 | _, _ => False
theorem hsW_at {all : List Nat} {h : Nat → Chunk} : ∀ {ids : List Nat} {hs : List Chunk}, hsW all h ids hs → ids.length = hs.length ∧ ∀ (j : Nat) (c : Chunk), hs[j]? = some c → ∃ id : Nat, ids[j]? = some id ∧ WkC (cvC all h (h id)) c
 | [], [], _ => ⟨rfl, fun j c h => by simp at h⟩
 | [], _ :: _, h => h.elim
 | _ :: _, [], h => h.elim
 | id :: r, c :: r', h => by
  obtain ⟨h1, h2⟩ := h
  obtain ⟨k1, k2⟩ := hsW_at h2
  refine ⟨by simp [k1], fun j d hd => ?_⟩
  cases j with
  | zero => simp at hd; subst hd; exact ⟨id, by simp, h1⟩
  | succ j => obtain ⟨x, e1, e2⟩ := k2 j d (by simpa using hd); exact ⟨x, by simpa using e1, e2⟩
theorem cvH_hs {all : List Nat} {h : Nat → Chunk} : ∀ {j : Nat} {ids : List Nat} {l : List (Nat × Chunk)}, cvH all h j ids l → hsW all h ids (l.map (·.2)) ∧ ∀ i, j ≤ i → lookC l i = nth (l.map (·.2)) (i - j)
 | _, [], [], _ => ⟨trivial, fun i _ => by simp [lookC, nth]⟩
 | _, [], _ :: _, h => h.elim
 | _, _ :: _, [], h => h.elim
 | j, id :: r, (k, c) :: r', h => by
  obtain ⟨rfl, h1, h2⟩ := h
  obtain ⟨k1, k2⟩ := cvH_hs h2
  refine ⟨⟨h1, k1⟩, fun i hi => ?_⟩
  simp only [lookC]
  by_cases e : k = i
  ·subst e; simp [nth]
  ·rw [if_neg e, k2 i (by omega)]
   unfold nth
   rw [show i - k = (i - (k + 1)) + 1 from by omega]
   simp
theorem cvT_at {ids : List Nat} {h : Nat → Chunk} {f : Nat → AV} : ∀ {l : List (Nat × AV)}, cvT ids h f l → ∀ t, Wk (cv ids h (f t)) (look l t)
 | [], _, t => by simp only [look]; exact Wk.undef _
 | (k, x) :: r, h, t => by
  simp only [look]
  by_cases e : k = t
  ·subst e; rw [if_pos rfl]; exact h.1
  ·rw [if_neg e]; exact cvT_at h.2 t
section
variable {P : Program} {W : World} {N U F : Nat → Prop} {β : Nat → Option Bind} {h hT : Nat → Chunk} {w : World}
theorem reshape_mem (M : MemOk W N U F β h w) {ids : List Nat} (hnd : ids.Nodup) {hs : List Chunk} (hh : hsW ids h ids hs) : MemOk W N (· < ids.length) (frzF ids h F β) (selB ids β) (nth hs) w := by
 have M1 := cv_mem (hT := h) M (fun _ _ => rfl) ids hnd
 obtain ⟨hl, hat⟩ := hsW_at hh
 refine ⟨M1.size, M1.os, M1.tape, M1.output, M1.frame, M1.fin, M1.used, fun j hj => ?_, M1.dis, M1.off⟩
 unfold nth at hj
 rw [List.getD_eq_getElem?_getD] at hj
 cases hc : hs[j]? with
 | none => rw [hc] at hj; simp at hj
 | some c =>
  rw [hc] at hj
  simp only [Option.getD_some] at hj
  obtain ⟨id, e1, e2⟩ := hat j c hc
  have hn : nth (ids.map fun id => cvC ids h (h id)) j = cvC ids h (h id) := by
   unfold nth; rw [List.getD_eq_getElem?_getD, List.getElem?_map, e1]; rfl
  have hne : nth (ids.map fun id => cvC ids h (h id)) j ≠ .dead := by
   rw [hn]
   intro he
   rw [he] at e2
   cases c with
   | dead => exact hj rfl
   | row _ _ _ => exact e2.elim
   | blk _ _ => exact e2.elim
   | mp _ _ _ => exact e2.elim
   | nst _ _ _ _ _ _ _ _ => exact e2.elim
   | keep _ _ _ => exact e2.elim
  obtain ⟨bd, hb, hk⟩ := M1.ch j hne
  refine ⟨bd, hb, ?_⟩
  rw [hn] at hk
  unfold nth
  rw [List.getD_eq_getElem?_getD, hc]
  exact e2.run hk
theorem frzF_g (M : MemOk W N U F β h w) {ids : List Nat} {b : Nat} (hb : frzF ids h F β b) : F b ∨ W.heap.size ≤ b ∨ N b := by
 rcases hb with hb | ⟨id, bd, _, _, h1, h2⟩
 ·exact .inl hb
 ·exact .inr (M.off id bd b h1 (.inl h2)).2.2
end
theorem range_at {ids : List Nat} {k : Nat} (h : ids.take k = List.range k) {j : Nat} (hj : j < k) : ids[j]? = some j := by
 have : (ids.take k)[j]? = some j := by rw [h]; simp [hj]
 rwa [List.getElem?_take, if_pos hj] at this
theorem To.mk {k : Nat} {s s' : St} (ids : List Nat) (hk : ids.take k = List.range k) (hn : s'.n = ids.length) (hnd : ids.Nodup) (hh : cvH ids (lookC s.h) 0 ids s'.h) (ht : cvT ids (lookC s.h) (look s.t) s'.t) : ToK k s s' := by
 intro H F β a w hHk C
 obtain ⟨h1, h2⟩ := cvH_hs hh
 have M := reshape_mem C.m hnd h1
 refine ⟨frzF ids (lookC s.h) F β, selB ids β, ?_, ?_, C.nt, C.d.more fun _ hb => .inl hb, fun b hb => .inl (C.f b hb), fun b hb => ?_, fun i bd hi hb => ?_, ?_⟩
 ·intro t
  rw [hn]
  exact cvT_at ht t _ _ _ _ _ (cv_run C.m (fun _ _ => rfl) ids _ _ (C.t t))
 ·have e : lookC s'.h = nth (s'.h.map (·.2)) := by funext i; simpa using h2 i (Nat.zero_le _)
  rw [hn, e]; exact M
 ·rcases frzF_g C.m hb with h | h
  ·exact C.g b h
  ·exact .inr h
 ·rw [hHk] at hi
  have := range_at hk hi
  simp only [selB, this] at hb
  exact C.e i bd (by rw [hHk]; exact hi) hb
 ·rw [hn, hHk]
  have : (ids.take k).length = k := by rw [hk]; simp
  rw [List.length_take] at this
  omega
def resAV (P : Program) (f : Nat → AV) (h : Nat → Chunk) : List ResultVar → Option (Prop × List AV)
 | [] => some (True, [])
 | .tmp t :: r => match resAV P f h r with
  | some (φ, xs) => some (φ, f t :: xs)
  | none => none
 | .cell a t :: r => match loadAV P h t (f a), resAV P f h r with
  | some (ψ, x), some (φ, xs) => some (ψ ∧ φ, x :: xs)
  | _, _ => none
def oneV : List AV → AV
 | [x] => x
 | xs => .tup xs
def RetG0 (P : Program) (k : Nat) (rs : List ResultVar) (r : AV) (hs' : List Chunk) (s : St) : Prop :=
 ∃ ids : List Nat, ids.take k = List.range k ∧ ids.Nodup ∧ hsW ids (lookC s.h) ids hs' ∧ match resAV P (look s.t) (lookC s.h) rs with
  | some (φ, xs) => φ ∧ Wk (cv ids (lookC s.h) (oneV xs)) r
  | none => False
def RetG (P : Program) (k : Nat) (rs : List ResultVar) (r : AV) (hs' : List Chunk) (s : St) : Prop := ∃ s', ToK k s s' ∧ RetG0 P k rs r hs' s'
def RetQ (P : Program) (k : Nat) (rs : List ResultVar) (r : AV) (hs' : List Chunk) : Exit → St → Prop
 | .normal, s => RetG P k rs r hs' s
 | .ret, s => RetG P k rs r hs' s
 | _, _ => False
def argsT : Nat → List AV → List (Nat × AV)
 | _, [] => []
 | k, x :: r => (k, x) :: argsT (k + 1) r
def hsT : Nat → List Chunk → List (Nat × Chunk)
 | _, [] => []
 | k, c :: r => (k, c) :: hsT (k + 1) r
theorem look_argsT : ∀ (k : Nat) (xs : List AV) (t : Nat), look (argsT k xs) t = if k ≤ t then (xs[t - k]?).getD .undef else .undef
 | _, [], t => by simp [argsT, look]
 | k, x :: r, t => by
  simp only [argsT, look]
  by_cases h : k = t
  ·subst h; simp
  ·rw [if_neg h, look_argsT (k + 1) r t]
   by_cases h2 : k ≤ t
   ·rw [if_pos (by omega), if_pos h2, show t - k = (t - (k + 1)) + 1 from by omega, List.getElem?_cons_succ]
   ·rw [if_neg (by omega), if_neg h2]
theorem look_hsT : ∀ (k : Nat) (xs : List Chunk) (t : Nat), lookC (hsT k xs) t = if k ≤ t then nth xs (t - k) else .dead
 | _, [], t => by simp [hsT, lookC, nth]
 | k, x :: r, t => by
  simp only [hsT, lookC]
  by_cases h : k = t
  ·subst h; simp [nth]
  ·rw [if_neg h, look_hsT (k + 1) r t]
   by_cases h2 : k ≤ t
   ·rw [if_pos (by omega), if_pos h2]
    unfold nth
    rw [show t - k = (t - (k + 1)) + 1 from by omega]; simp
   ·rw [if_neg (by omega), if_neg h2]
def resOf (tmps : Array Value) : ResultVar → Sem Value
 | .tmp t => pure (tmps.getD t undef)
 | .cell a t => do loadVar t (← asAddr (tmps.getD a undef))
theorem results_eq (fn : Func) (tmps : Array Value) : results fn tmps = (do let vs ← fn.results.mapM (resOf tmps); pure (if h : vs.size = 1 then vs[0] else .tuple vs)) := rfl
theorem res_run {P : Program} {H : Hist} {s : St} {F : Nat → Prop} {β : Nat → Option Bind} {a : Act} {w : World} (C : Conc H s F β a w) : ∀ (rs : List ResultVar) (φ : Prop) (xs : List AV), resAV P (look s.t) (lookC s.h) rs = some (φ, xs) → φ →
 ∃ vs, (rs.mapM (resOf a.tmps)).run P w = .ok vs w ∧ RelL (· < s.n) w F β xs vs
 | [], φ, xs, h, _ => by
  simp only [resAV, Option.some.injEq, Prod.mk.injEq] at h
  obtain ⟨_, rfl⟩ := h
  exact ⟨[], by simp, by simp [RelL]⟩
 | .tmp t :: r, φ, xs, h, hφ => by
  unfold resAV at h
  split at h
  ·rename_i φ' ys hr
   simp only [Option.some.injEq, Prod.mk.injEq] at h
   obtain ⟨rfl, rfl⟩ := h
   obtain ⟨vs, h1, h2⟩ := res_run C r _ _ hr hφ
   refine ⟨a.tmps.getD t undef :: vs, ?_, by simp only [RelL]; exact ⟨_, _, rfl, C.t t, h2⟩⟩
   simp only [List.mapM_cons, resOf, Sem.run_bind, Sem.run_pure, Result.andThen_ok, h1]
  ·simp at h
 | .cell x t :: r, φ, xs, h, hφ => by
  unfold resAV at h
  split at h
  ·rename_i ψ y φ' ys hl hr
   simp only [Option.some.injEq, Prod.mk.injEq] at h
   obtain ⟨rfl, rfl⟩ := h
   obtain ⟨vs, h1, h2⟩ := res_run C r _ _ hr hφ.2
   obtain ⟨z, h3, h4⟩ := load_run C.m (fun _ _ => rfl) hl hφ.1 (C.t x)
   have hp : ∃ ad, a.tmps.getD x undef = .pointer (some ad) := by
    cases hv : a.tmps.getD x undef with
    | pointer ad =>
     cases ad with
     | some ad => exact ⟨ad, rfl⟩
     | none => rw [hv] at h3; simp [Instr.loadAt, Instr.sureAddr] at h3
    | _ => rw [hv] at h3; simp [Instr.loadAt, Instr.sureAddr] at h3
   obtain ⟨ad, hp⟩ := hp
   rw [hp] at h3
   simp only [Instr.loadAt, Instr.sureAddr, Sem.run_bind, Sem.run_pure, Result.andThen_ok] at h3
   refine ⟨z :: vs, ?_, by simp only [RelL]; exact ⟨_, _, rfl, h4, h2⟩⟩
   simp only [List.mapM_cons, resOf, Sem.run_bind, hp, asAddr, Sem.run_pure, Result.andThen_ok, h3, h1]
  ·simp at h
theorem spec_of {P : Program} {f : FuncId} {fn : Func} {c : Code} {args : List AV} {hs hs' : List Chunk} {r : AV} (hf : P.funcs[f]? = some fn) (hb : fn.body = some c) (hn : (fn.name == "runtime.NumGoroutine") = false)
 (hd : ∀ (H : Hist) (ops : Array Oper) (Q : Exit → St → Prop) (s : St) (F : Nat → Prop) (β : Nat → Option Bind) (a : Act) (w : World) (id : Nat), DrawG P H.nt ops (Q .normal) s → Conc H s F β a w → (Code.region id ops true).wp P (Post H Q) a w)
 (nt : Nat) (hnt : nt = args.length + (fn.ntmps - args.length)) (rs : List ResultVar) (hrs : fn.results = rs.toArray) (hle : hs.length ≤ hs'.length)
 (h : awp P nt hs.length c (RetQ P hs.length rs r hs') ⟨argsT 0 args, hsT 0 hs, hs.length⟩) : Spec P f args hs r hs' := by
 refine ⟨⟨fn, hf, by rw [hb]; rfl, hn⟩, hle, ?_⟩
 intro w F β vs M hv
 have hvl := hv.len
 refine callsIn_wide.1 (callsIn_of_wp_marks (n := 0) hf hb trivial (wpIn_wide.2 ?_))
 have C : Conc ⟨w, inB β, F, β, hs.length, nt⟩ ⟨argsT 0 args, hsT 0 hs, hs.length⟩ F β { tmps := vs.toArray ++ Array.replicate (fn.ntmps - vs.toArray.size) undef, defers := [] } w := by
  refine ⟨fun t => ?_, ?_, ?_, Dfr.nil _ _ _, fun b hb => hb, fun b hb => .inl hb, fun i bd _ hb => ⟨_, hb⟩, Nat.le_refl _⟩
  ·rw [look_argsT]
   simp only [Nat.zero_le, if_true, Nat.sub_zero]
   cases hx : args[t]? with
   | none => simp only [Option.getD_none, RelA]
   | some x =>
    obtain ⟨u, hu, hr⟩ := hv.at t x hx
    have ht : t < vs.length := (List.getElem?_eq_some_iff.1 hu).1
    have e1 : (vs.toArray ++ Array.replicate (fn.ntmps - vs.toArray.size) undef).getD t undef = u := by
     rw [Array.getD_eq_getD_getElem?, Array.getElem?_append_left (by simpa using ht)]
     simp [hu]
    simp only [Option.getD_some]
    rw [e1]; exact hr
  ·have e : lookC (hsT 0 hs) = nth hs := by funext i; rw [look_hsT]; simp
   simp only [e]; exact M
  ·simp [hvl, hnt]
 refine wp_mono (awp_run (hd _) c _ _ F β _ w h C) ?_
 rintro e a' w' ⟨s', F', β', C', hq⟩
 have fin : RetG P hs.length rs r hs' s' → LeavesInM Fence.wide 0 P fn a'.tmps (fun e w_1 => ∃ v_1 F'_1 β'_1, e = .returned v_1 ∧ MemOk w (inB β) (· < hs'.length) F'_1 β'_1 (nth hs') w_1 ∧ RelA (· < hs'.length) w_1 F'_1 β'_1 r v_1 ∧ (∀ b, F b → F'_1 b) ∧ (∀ b, F'_1 b → F b ∨ w.heap.size ≤ b ∨ inB β b) ∧ ∀ i bd, i < hs.length → β'_1 i = some bd → ∃ bs, β i = some ⟨bd.v, bd.b, bd.n, bd.sz, bs⟩) a'.defers .returning w' := by
  rintro ⟨s', hto, ids, h1, h2, h3, h4⟩
  obtain ⟨F', β', C'⟩ := hto _ F' β' a' w' rfl C'
  refine leaves_of C' ?_
  clear C' C
  intro a1 w1 ht1 C'
  rw [← ht1]
  generalize a1 = a' at *
  generalize w1 = w' at *
  split at h4
  ·rename_i φ xs hr
   obtain ⟨vs', h5, h6⟩ := res_run C' rs φ xs hr h4.1
   have M' := reshape_mem C'.m h2 h3
   obtain ⟨hl, _⟩ := hsW_at h3
   rw [hl] at M'
   have hone : ∃ v, (if h : vs'.toArray.size = 1 then vs'.toArray[0] else .tuple vs'.toArray) = v ∧ RelA (· < s'.n) w' F' β' (oneV xs) v := by
    have hxl := h6.len
    match xs, vs', h6, hxl with
    | [x], [u], h6, _ =>
     simp only [RelL] at h6
     obtain ⟨u', us, he, h7, _⟩ := h6
     simp only [List.cons.injEq] at he
     obtain ⟨rfl, _⟩ := he
     exact ⟨u, by simp, h7⟩
    | [], [], _, _ => exact ⟨.tuple #[], by simp, by simp only [oneV, RelA]; exact ⟨#[], rfl, by simp [RelL]⟩⟩
    | x :: y :: r, u :: v :: us, h6, _ =>
     refine ⟨.tuple (u :: v :: us).toArray, by simp, ?_⟩
     simp only [oneV, RelA]
     exact ⟨_, rfl, h6⟩
   obtain ⟨v, hv1, hv2⟩ := hone
   refine ⟨v, ?_, v, _, _, rfl, M', ?_, fun b hb => .inl (C'.f b hb), fun b hb => ?_, fun i bd hi hb => ?_⟩
   ·rw [results_eq, hrs, List.mapM_toArray]
    simp only [Sem.run_bind, Sem.run_map, h5, Result.andThen_ok, Sem.run_pure]
    rw [hv1]
   ·have := h4.2 _ _ _ _ _ (cv_run C'.m (fun _ _ => rfl) ids _ _ hv2)
    rw [hl] at this; exact this
   ·rcases frzF_g C'.m hb with h | h
    ·exact C'.g b h
    ·exact .inr h
   ·have := range_at h1 hi
    simp only [selB, this] at hb
    exact C'.e i bd hi hb
  ·exact h4.elim
 cases e with
 | normal => exact fin hq
 | ret => exact fin hq
 | _ => exact hq.elim
end Go.Proofs.Ytdkmndimmpilaaa
namespace Go.Proofs.Ytdkmndimmpilaaa
set_option linter.all false
open Go.RowKit
theorem mfind_shift (k : List Int) : ∀ (es : List (List Int × Int)) (i : Nat), mfind k (i + 1) es = (mfind k i es).map fun p => (p.1 + 1, p.2)
 | [], i => rfl
 | (k', v) :: r, i => by
  unfold mfind
  split
  ·rfl
  ·exact mfind_shift k r (i + 1)
theorem mget_nil (k : List Int) : mget k [] = 0 := rfl
theorem mget_cons (k k' : List Int) (v : Int) (r : List (List Int × Int)) : mget k ((k', v) :: r) = if k = k' then v else mget k r := by
 unfold mget
 rw [mfind]
 by_cases h : k = k'
 ·rw [if_pos h, if_pos h]
 ·rw [if_neg h, if_neg h, mfind_shift]; cases mfind k 0 r <;> rfl
end Go.Proofs.Ytdkmndimmpilaaa
namespace Go.Proofs.Ytdkmndimmpilaaa
set_option linter.all false
open Go.RowKit
section
variable {P : Program} {W : World} {N U F : Nat → Prop} {β : Nat → Option Bind} {h hT : Nat → Chunk} {w : World} {a : Act} {m : Nat}
theorem opX_cut {g : Operand → AV} {K : Eff → Prop} {op : Op} (hx : opX P g hT m K op) : ∃ e, opX P g hT m (· = e) op ∧ K e := by
 unfold opX at hx ⊢
 split at hx
 ·split at hx
  ·obtain ⟨e, h1, h2⟩ := hx
   exact ⟨e, ⟨e, h1, rfl⟩, h2⟩
  ·exact hx.elim
 ·split at hx
  ·obtain ⟨h0, e, h1, h2⟩ := hx
   exact ⟨e, ⟨h0, e, h1, rfl⟩, h2⟩
  ·exact hx.elim
 ·split at hx
  ·exact ⟨_, ⟨hx.1, rfl⟩, hx.2⟩
  ·exact hx.elim
theorem opG_cut {c : Bool} {g : Operand → AV} {K : Eff → Prop} {op : Op} (hx : opG P c g hT m K op) : ∃ e, opG P c g hT m (· = e) op ∧ K e := by
 unfold opG at hx ⊢
 split at hx
 ·split at hx
  ·rcases hx with ⟨r, h1, h2⟩ | ⟨h1, h2⟩
   ·exact ⟨_, .inl ⟨r, h1, rfl⟩, h2⟩
   ·cases c with
    | true =>
     obtain ⟨h3, e, h4, h5⟩ := h1 rfl
     exact ⟨e, .inr ⟨fun _ => ⟨h3, e, h4, rfl⟩, fun h => by simp at h⟩, h5⟩
    | false => exact ⟨_, .inr ⟨fun h => by simp at h, fun _ => rfl⟩, h2 rfl⟩
  ·exact ⟨_, ⟨hx.1, rfl⟩, hx.2⟩
 ·split at hx
  ·rcases hx with ⟨r, h1, h2⟩ | ⟨h1, h2⟩
   ·exact ⟨_, .inl ⟨r, h1, rfl⟩, h2⟩
   ·cases c with
    | true =>
     obtain ⟨h3, e, h4, h5⟩ := h1 rfl
     exact ⟨e, .inr ⟨fun _ => ⟨h3, e, h4, rfl⟩, fun h => by simp at h⟩, h5⟩
    | false => exact ⟨_, .inr ⟨fun h => by simp at h, fun _ => rfl⟩, h2 rfl⟩
  ·exact ⟨_, ⟨hx.1, rfl⟩, hx.2⟩
 ·split at hx
  ·split at hx
   ·exact ⟨_, ⟨hx.1, rfl⟩, hx.2⟩
   ·exact ⟨_, ⟨hx.1, rfl⟩, hx.2⟩
  ·exact ⟨_, ⟨hx.1, rfl⟩, hx.2⟩
 ·split at hx
  ·exact ⟨_, ⟨hx.1, rfl⟩, hx.2⟩
  ·cases c with
   | true => exact ⟨_, ⟨fun hc => ⟨(hx.1 hc).1, (hx.1 hc).2.1, rfl⟩, fun h => by simp at h⟩, (hx.1 rfl).2.2⟩
   | false => exact ⟨_, ⟨fun h => by simp at h, fun _ => rfl⟩, hx.2 rfl⟩
  ·exact ⟨_, ⟨hx.1, rfl⟩, hx.2⟩
theorem opWF_cut {ops : Array Oper} {o : Oper} {f : Nat → AV} {K : Eff → Prop} (hx : opWF P ops o f hT m K) : ∃ e, opWF P ops o f hT m (· = e) ∧ K e := by
 unfold opWF at hx ⊢
 split at hx
 ·exact opX_cut hx
 ·split at hx
  ·exact hx.elim
  ·exact opG_cut hx
end
def updT (f : Nat → AV) (d : Option Tmp) (v : AV) (t : Nat) : AV := if d = some t then v else f t
def tS (f : Nat → AV) (ds : List (Option Tmp)) (es : List Eff) (L : Nat → Bool) : Nat → Nat → AV
 | 0 => f
 | k + 1 => match L k, es[k]? with
  | true, some e => updT (tS f ds es L k) (ds.getD k none) e.val
  | _, _ => tS f ds es L k
def hS (h : Nat → Chunk) (es : List Eff) (L : Nat → Bool) : Nat → Nat → Chunk
 | 0 => h
 | k + 1 => match L k, es[k]? with
  | true, some e => upd (hS h es L k) e.ups
  | _, _ => hS h es L k
theorem upd_in {h : Nat → Chunk} : ∀ {ups : List (Nat × Chunk)} {i : Nat}, i ∉ ups.map (·.1) → upd h ups i = h i
 | [], _, _ => rfl
 | (k, c) :: r, i, hn => by
  simp only [List.map_cons, List.mem_cons, not_or] at hn
  simp only [upd]
  rw [if_neg (Ne.symm hn.1)]
  exact upd_in hn.2
theorem upd_same {h h' : Nat → Chunk} : ∀ {ups : List (Nat × Chunk)} {i : Nat}, i ∈ ups.map (·.1) → upd h ups i = upd h' ups i
 | [], _, hn => by simp at hn
 | (k, c) :: r, i, hn => by
  simp only [upd]
  by_cases e : k = i
  ·rw [if_pos e, if_pos e]
  ·rw [if_neg e, if_neg e]
   simp only [List.map_cons, List.mem_cons] at hn
   exact upd_same (hn.resolve_left (Ne.symm e))
section
variable {f : Nat → AV} {h : Nat → Chunk} {ds : List (Option Tmp)} {es : List Eff}
theorem tS_agree {L : Nat → Bool} {t i : Nat} (hlt : ∀ k, k < i → ds.getD k none = some t → L k = true) : ∀ n, i ≤ n → (∀ k, i ≤ k → k < n → ds.getD k none = some t → L k = false) → tS f ds es L n t = tS f ds es (fun _ => true) i t := by
 have lo : ∀ k, k ≤ i → tS f ds es L k t = tS f ds es (fun _ => true) k t := by
  intro k
  induction k with
  | zero => intro _; rfl
  | succ k ih =>
   intro hk
   have ih := ih (by omega)
   simp only [tS]
   cases hL : L k with
   | true =>
    cases he : es[k]? with
    | none => exact ih
    | some e => simp only [updT]; rw [ih]
   | false =>
    have hd : ds.getD k none ≠ some t := fun h => by have := hlt k (by omega) h; rw [hL] at this; simp at this
    cases he : es[k]? with
    | none => exact ih
    | some e => simp only [updT]; rw [if_neg hd]; exact ih
 intro n
 induction n with
 | zero => intro hi _; have : i = 0 := by omega
           subst this; rfl
 | succ n ih =>
  intro hi hgt
  by_cases e : i = n + 1
  ·subst e; exact lo _ (Nat.le_refl _)
  ·have ih := ih (by omega) (fun k h1 h2 => hgt k h1 (by omega))
   simp only [tS]
   cases hL : L n with
   | false => exact ih
   | true =>
    have hd : ds.getD n none ≠ some t := fun h => by have := hgt n (by omega) (by omega) h; rw [hL] at this; simp at this
    cases he : es[n]? with
    | none => exact ih
    | some e => simp only [updT]; rw [if_neg hd]; exact ih
theorem hS_agree {L : Nat → Bool} {t i : Nat} (hlt : ∀ k e, k < i → es[k]? = some e → t ∈ e.ups.map (·.1) → L k = true) : ∀ n, i ≤ n → (∀ k e, i ≤ k → k < n → es[k]? = some e → t ∈ e.ups.map (·.1) → L k = false) → hS h es L n t = hS h es (fun _ => true) i t := by
 have lo : ∀ k, k ≤ i → hS h es L k t = hS h es (fun _ => true) k t := by
  intro k
  induction k with
  | zero => intro _; rfl
  | succ k ih =>
   intro hk
   have ih := ih (by omega)
   simp only [hS]
   cases he : es[k]? with
   | none => cases hL : L k <;> exact ih
   | some e =>
    by_cases hd : t ∈ e.ups.map (·.1)
    ·rw [hlt k e (by omega) he hd]
     exact upd_same hd
    ·cases hL : L k with
     | true => simp only [upd_in hd]; exact ih
     | false => simp only [upd_in hd]; exact ih
 intro n
 induction n with
 | zero => intro hi _; have : i = 0 := by omega
           subst this; rfl
 | succ n ih =>
  intro hi hgt
  by_cases e : i = n + 1
  ·subst e; exact lo _ (Nat.le_refl _)
  ·have ih := ih (by omega) (fun k e h1 h2 => hgt k e h1 (by omega))
   simp only [hS]
   cases he : es[n]? with
   | none => cases hL : L n <;> exact ih
   | some e =>
    cases hL : L n with
    | false => exact ih
    | true =>
     have hd : t ∉ e.ups.map (·.1) := fun h => by have := hgt n e (by omega) (by omega) he h; rw [hL] at this; simp at this
     simp only [upd_in hd]; exact ih
def setL (L : Nat → Bool) (i : Nat) (k : Nat) : Bool := if k = i then true else L k
theorem tS_insert {L : Nat → Bool} {i : Nat} (hi : L i = false) {e : Eff} (he : es[i]? = some e) : ∀ n, i < n → (∀ k t, i < k → k < n → L k = true → ds.getD k none = some t → ds.getD i none ≠ some t) → tS f ds es (setL L i) n = updT (tS f ds es L n) (ds.getD i none) e.val := by
 have lo : ∀ k, k ≤ i → tS f ds es (setL L i) k = tS f ds es L k := by
  intro k
  induction k with
  | zero => intro _; rfl
  | succ k ih =>
   intro hk
   have e1 : setL L i k = L k := by unfold setL; rw [if_neg (by omega)]
   simp only [tS, e1, ih (by omega)]
 intro n
 induction n with
 | zero => intro h; omega
 | succ n ih =>
  intro hn hd
  by_cases e' : i = n
  ·subst e'
   have e1 : setL L i i = true := by unfold setL; rw [if_pos rfl]
   simp only [tS, e1, hi, he, lo i (Nat.le_refl _)]
  ·have ih := ih (by omega) (fun k t h1 h2 => hd k t h1 (by omega))
   have e1 : setL L i n = L n := by unfold setL; rw [if_neg (by omega)]
   simp only [tS, e1, ih]
   cases hL : L n with
   | false => rfl
   | true =>
    cases hen : es[n]? with
    | none => rfl
    | some e2 =>
     funext t
     simp only [updT]
     by_cases h1 : ds.getD n none = some t
     ·rw [if_pos h1, if_pos h1, if_neg (hd n t (by omega) (by omega) hL h1)]
     ·rw [if_neg h1, if_neg h1]
theorem hS_insert {L : Nat → Bool} {i : Nat} (hi : L i = false) {e : Eff} (he : es[i]? = some e) : ∀ n, i < n → (∀ k e2 t, i < k → k < n → L k = true → es[k]? = some e2 → t ∈ e2.ups.map (·.1) → t ∉ e.ups.map (·.1)) → hS h es (setL L i) n = upd (hS h es L n) e.ups := by
 have lo : ∀ k, k ≤ i → hS h es (setL L i) k = hS h es L k := by
  intro k
  induction k with
  | zero => intro _; rfl
  | succ k ih =>
   intro hk
   have e1 : setL L i k = L k := by unfold setL; rw [if_neg (by omega)]
   simp only [hS, e1, ih (by omega)]
 intro n
 induction n with
 | zero => intro h; omega
 | succ n ih =>
  intro hn hd
  by_cases e' : i = n
  ·subst e'
   have e1 : setL L i i = true := by unfold setL; rw [if_pos rfl]
   simp only [hS, e1, hi, he, lo i (Nat.le_refl _)]
  ·have ih := ih (by omega) (fun k e2 t h1 h2 => hd k e2 t h1 (by omega))
   have e1 : setL L i n = L n := by unfold setL; rw [if_neg (by omega)]
   simp only [hS, e1, ih]
   cases hL : L n with
   | false => rfl
   | true =>
    cases hen : es[n]? with
    | none => rfl
    | some e2 =>
     funext t
     show upd (upd (hS h es L n) e.ups) e2.ups t = upd (upd (hS h es L n) e2.ups) e.ups t
     by_cases h1 : t ∈ e2.ups.map (·.1)
     ·have h2 := hd n e2 t (by omega) (by omega) hL hen h1
      rw [upd_in (h := upd (hS h es L n) e2.ups) h2]
      exact upd_same h1
     ·rw [upd_in h1]
      by_cases h2 : t ∈ e.ups.map (·.1)
      ·exact upd_same h2
      ·rw [upd_in h2, upd_in h2, upd_in h1]
end
theorem hS_stay {h : Nat → Chunk} {es : List Eff} {L : Nat → Bool} {t i : Nat} : ∀ n, i ≤ n → (∀ k e, i ≤ k → k < n → es[k]? = some e → t ∈ e.ups.map (·.1) → L k = false) → hS h es L n t = hS h es L i t := by
 intro n
 induction n with
 | zero => intro hi _; have : i = 0 := by omega
           subst this; rfl
 | succ n ih =>
  intro hi hgt
  by_cases e : i = n + 1
  ·subst e; rfl
  ·have ih := ih (by omega) (fun k e h1 h2 => hgt k e h1 (by omega))
   simp only [hS]
   cases he : es[n]? with
   | none => cases hL : L n <;> exact ih
   | some e =>
    cases hL : L n with
    | false => exact ih
    | true =>
     have hd : t ∉ e.ups.map (·.1) := fun h => by have := hgt n e (by omega) (by omega) he h; rw [hL] at this; simp at this
     simp only [upd_in hd]; exact ih
theorem mget_zero (k l : List Int) : ∀ es : List (List Int × Int), mget k (es ++ [(l, 0)]) = mget k es
 | [] => by rw [List.nil_append, mget_cons, mget_nil]; split <;> rfl
 | (k', v) :: r => by rw [List.cons_append, mget_cons, mget_cons, mget_zero k l r]
theorem mget_open (k l : List Int) (es : List (List Int × Int)) : mget k (mopen l es) = mget k es := by
 unfold mopen
 split
 ·rfl
 ·exact mget_zero k l es
def OpenC (c c' : Chunk) : Prop := c' = c ∨ ∃ a n es l, c = .mp a n es ∧ c' = .mp a n (mopen l es)
theorem ex4_lk {P : Program} {g : Operand → AV} {h : Nat → Chunk} {m : Nat} {t : TypeId} {x k : Operand} {ok : Bool} : ex4 P g h m (.lookup t x k ok) = ex3 P g h m (.lookup t x k ok) := by
 unfold ex4
 cases ex3 P g h m (.lookup t x k ok) <;> rfl
theorem ex4_me {P : Program} {g : Operand → AV} {h : Nat → Chunk} {m : Nat} {t : TypeId} {x k : Operand} : ex4 P g h m (.mapEntry t x k) = ex3 P g h m (.mapEntry t x k) := by
 unfold ex4
 cases ex3 P g h m (.mapEntry t x k) <;> rfl
theorem ex3_open {P : Program} {g : Operand → AV} {h h' : Nat → Chunk} {m : Nat} {t : TypeId} {x k : Operand} (H : ∀ i, OpenC (h i) (h' i)) : ex3 P g h' m (.lookup t x k false) = ex3 P g h m (.lookup t x k false) := by
 simp only [ex3, mapAV]
 cases ty P t with
 | none => rfl
 | some d =>
  obtain ⟨kd, _, _, _, _⟩ := d
  cases kd <;> try rfl
  cases g x <;> try rfl
  rename_i id
  rcases H id with e | ⟨a, n, es, l, e1, e2⟩
  ·simp only [e]
  ·simp only [e1, e2]
   cases kty P _ <;> cases keyA (g k) <;> try rfl
   rename_i p q
   obtain ⟨_, _⟩ := p
   obtain ⟨_, _⟩ := q
   simp only
   generalize (a == _ && a == _ && Nat.beq n _ && Nat.beq n _ && intTy P _) = b
   cases b <;> simp [mget_open]
theorem opWF_open {P : Program} {ops : Array Oper} {o : Oper} {f : Nat → AV} {h h' : Nat → Chunk} {m : Nat} {K : Eff → Prop} (ho : isLk o = true) (H : ∀ i, OpenC (h i) (h' i)) (hx : opWF P ops o f h m K) : opWF P ops o f h' m K := by
 unfold isLk at ho
 rw [Bool.and_eq_true] at ho
 obtain ⟨h1, h2⟩ := ho
 have hg : o.guard = none := by simpa using h1
 split at h2
 ·rename_i t x k hop
  unfold opWF at hx ⊢
  rw [hg] at hx ⊢
  simp only [opX, hop, ex4_lk] at hx ⊢
  rw [ex3_open H]; exact hx
 ·simp at h2
theorem entry_ups {P : Program} {ops : Array Oper} {o : Oper} {f : Nat → AV} {h : Nat → Chunk} {m : Nat} {e : Eff} (ho : isEn o = true) (hx : opWF P ops o f h m (· = e)) : ∃ id a n es l, h id = .mp a n es ∧ e.ups = [(id, .mp a n (mopen l es))] := by
 unfold isEn at ho
 rw [Bool.and_eq_true] at ho
 obtain ⟨h1, h2⟩ := ho
 have hg : o.guard = none := by simpa using h1
 split at h2
 ·rename_i t x k hop
  unfold opWF at hx
  rw [hg] at hx
  simp only [opX, hop, ex4_me, ex3] at hx
  split at hx
  ·rename_i φ e' he
   obtain ⟨_, rfl⟩ := hx
   split at he
   ·rename_i id a n es l hm
    simp only [Option.some.injEq, Prod.mk.injEq] at he
    obtain ⟨_, rfl⟩ := he
    refine ⟨id, a, n, es, l, ?_, rfl⟩
    unfold mapAV at hm
    split at hm
    ·split at hm
     ·split at hm
      ·rename_i a' n' es' hid
       split at hm
       ·split at hm
        ·simp only [Option.some.injEq, Prod.mk.injEq] at hm
         obtain ⟨rfl, rfl, rfl, rfl, rfl⟩ := hm
         exact hid
        ·simp at hm
       ·simp at hm
      ·simp at hm
     ·simp at hm
    ·simp at hm
   ·simp at he
  ·exact hx.elim
 ·simp at h2
def Closed (ops : Array Oper) (E : Nat → Prop) : Prop := ∀ i o, ops[i]? = some o → E i → ∀ e ∈ o.after, Region.binds .any e = true → E e.on
theorem testBit_edge {ms : List Nat} : ∀ {es : List Edge} {j : Nat}, (edgeMask ms es).testBit j = true → ∃ e ∈ es, Region.binds .any e = true ∧ (j = e.on ∨ (ms.getD e.on 0).testBit j = true)
 | [], j, h => by simp [edgeMask] at h
 | e :: r, j, h => by
  simp only [edgeMask] at h
  split at h
  ·rename_i hb
   rw [Nat.testBit_or, Nat.testBit_or, Bool.or_eq_true, Bool.or_eq_true] at h
   rcases h with (h | h) | h
   ·refine ⟨e, by simp, hb, .inl ?_⟩
    rw [Nat.one_shiftLeft, Nat.testBit_two_pow] at h
    exact (of_decide_eq_true h).symm
   ·exact ⟨e, by simp, hb, .inr h⟩
   ·obtain ⟨e', h1, h2⟩ := testBit_edge h
    exact ⟨e', by simp [h1], h2⟩
  ·obtain ⟨e', h1, h2⟩ := testBit_edge h
   exact ⟨e', by simp [h1], h2⟩
theorem masks_spec {ops : Array Oper} {E : Nat → Prop} (hE : Closed ops E) : ∀ (l : List Oper) (ms : List Nat), ops.toList.drop ms.length = l → (∀ i j, (ms.getD i 0).testBit j = true → E i → E j) → ∀ i j, ((masks l ms).getD i 0).testBit j = true → E i → E j
 | [], ms, _, hm => by simpa only [masks] using hm
 | o :: r, ms, hd, hm => by
  simp only [masks]
  refine masks_spec hE r _ ?_ ?_
  ·simp only [List.length_append, List.length_singleton]
   rw [← List.drop_drop, hd]; rfl
  ·intro i j hb hi
   have ho : ops[ms.length]? = some o := by
    have : (ops.toList.drop ms.length)[0]? = some o := by rw [hd]; rfl
    rw [List.getElem?_drop] at this
    simpa using this
   rw [List.getD_eq_getElem?_getD] at hb
   by_cases h1 : i < ms.length
   ·rw [List.getElem?_append_left h1, ← List.getD_eq_getElem?_getD] at hb
    exact hm i j hb hi
   ·by_cases h2 : i = ms.length
    ·subst h2
     rw [List.getElem?_append_right (Nat.le_refl _)] at hb
     simp only [Nat.sub_self, List.getElem?_cons_zero, Option.getD_some] at hb
     obtain ⟨e, k1, k2, k3⟩ := testBit_edge hb
     have he := hE _ o ho hi e (by simpa using k1) k2
     rcases k3 with rfl | k3
     ·exact he
     ·exact hm _ _ k3 he
    ·rw [List.getElem?_eq_none (by simp; omega)] at hb
     simp at hb
theorem memN_iff : ∀ {l : List Nat} {i : Nat}, memN l i = true ↔ i ∈ l
 | [], i => by simp [memN]
 | a :: r, i => by
  simp only [memN]
  by_cases h : a = i
  ·simp [h]
  ·rw [if_neg h, memN_iff]; simp [Ne.symm h]
theorem disj_iff {a b : List Nat} (h : disj a b = true) : ∀ x ∈ a, x ∉ b := by
 intro x hx hb
 have := List.all_eq_true.1 h x hx
 rw [memN_iff.2 hb] at this
 simp at this
structure OpAt (P : Program) (nt : Nat) (ops : Array Oper) (n0 : Nat) (f : Nat → AV) (h : Nat → Chunk) (ds : List (Option Tmp)) (es : List Eff) (acc : List (List Nat × List Nat)) (i : Nat) : Prop where
 ok : ∃ o e, ops[i]? = some o ∧ es[i]? = some e ∧ dstOk nt o.dst ∧ ds.getD i none = o.dst ∧ e.fresh ≤ 4 ∧ (fp acc i).2 = e.ups.map (·.1) ∧
  opWF P ops o (tS f ds es (fun _ => true) i) (onlyC (fp acc i).1 (hS h es (fun _ => true) i)) (n0 + 4 * i) (· = e)
theorem look_put (d : Option Tmp) (x : AV) (t : List (Nat × AV)) : look (putO d x t) = updT (look t) d x := by
 funext i
 cases d with
 | none => simp [putO, updT]
 | some d => simp [putO, look, updT]
theorem tS_app {f : Nat → AV} {ds : List (Option Tmp)} {es : List Eff} {L : Nat → Bool} (e : Eff) : ∀ k, k ≤ es.length → tS f ds (es ++ [e]) L k = tS f ds es L k
 | 0, _ => rfl
 | k + 1, h => by
  have h1 : (es ++ [e])[k]? = es[k]? := List.getElem?_append_left (by omega)
  have ih := tS_app (f := f) (ds := ds) (es := es) (L := L) e k (by omega)
  simp only [tS, h1, ih]
theorem hS_app {f : Nat → Chunk} {es : List Eff} {L : Nat → Bool} (e : Eff) : ∀ k, k ≤ es.length → hS f (es ++ [e]) L k = hS f es L k
 | 0, _ => rfl
 | k + 1, h => by
  have h1 : (es ++ [e])[k]? = es[k]? := List.getElem?_append_left (by omega)
  have ih := hS_app (f := f) (es := es) (L := L) e k (by omega)
  simp only [hS, h1, ih]
theorem fp_app {acc : List (List Nat × List Nat)} (x : List Nat × List Nat) {k : Nat} (h : k < acc.length) : fp (acc ++ [x]) k = fp acc k := by
 unfold fp
 rw [List.getD_eq_getElem?_getD, List.getElem?_append_left h, ← List.getD_eq_getElem?_getD]
theorem drawL_out {P : Program} {nt : Nat} {ops : Array Oper} {n0 : Nat} {K : List (List Nat × List Nat) → St → Prop} {f : Nat → AV} {h : Nat → Chunk} : ∀ (l : List Oper) (i : Nat) (s : St) (acc : List (List Nat × List Nat)) (es : List Eff),
 ops.toList.drop i = l → i ≤ ops.size → es.length = i → acc.length = i → look s.t = tS f (ops.toList.map (·.dst)) es (fun _ => true) i → lookC s.h = hS h es (fun _ => true) i → (∀ k, k < i → OpAt P nt ops n0 f h (ops.toList.map (·.dst)) es acc k) →
 drawL P nt ops n0 i l acc K s → ∃ es' acc' s', es'.length = ops.size ∧ s'.n = s.n ∧ look s'.t = tS f (ops.toList.map (·.dst)) es' (fun _ => true) ops.size ∧ lookC s'.h = hS h es' (fun _ => true) ops.size ∧
  (∀ k, k < ops.size → OpAt P nt ops n0 f h (ops.toList.map (·.dst)) es' acc' k) ∧ K acc' s'
 | [], i, ⟨st, sh, sn⟩, acc, es, hl, hi, h1, h2, h3, h4, h5, hx => by
  have hsz : i = ops.size := by
   have := congrArg List.length hl
   simp at this; omega
  subst hsz
  exact ⟨es, acc, ⟨st, sh, sn⟩, h1, rfl, h3, h4, h5, hx⟩
 | o :: r, i, ⟨st, sh, sn⟩, acc, es, hl, hi, h1, h2, h3, h4, h5, hx => by
  have ho' : ops.toList[i]? = some o := by
   have : (ops.toList.drop i)[0]? = some o := by rw [hl]; rfl
   rw [List.getElem?_drop] at this
   simpa using this
  have ho : ops[i]? = some o := by simpa using ho'
  have hlt : i < ops.size := (Array.getElem?_eq_some_iff.1 ho).1
  simp only [drawL] at hx
  obtain ⟨hd, hx⟩ := hx
  obtain ⟨e, k1, k23⟩ := opWF_cut hx
  have k2 : e.fresh ≤ 4 := by cases e; exact k23.1
  have k3 : drawL P nt ops n0 (i + 1) r (acc ++ [(touch (look st) sh o, e.ups.map (·.1))]) K ⟨putO o.dst e.val st, e.ups ++ sh, sn⟩ := by cases e; exact k23.2
  have hdst : (ops.toList.map (·.dst)).getD i none = o.dst := by
   rw [List.getD_eq_getElem?_getD, List.getElem?_map, ho']; rfl
  have hei : (es ++ [e])[i]? = some e := by rw [List.getElem?_append_right (by omega), h1]; simp
  refine drawL_out r (i + 1) ⟨putO o.dst e.val st, e.ups ++ sh, sn⟩ _ (es ++ [e]) ?_ hlt ?_ ?_ ?_ ?_ ?_ k3
  ·rw [← List.drop_drop, hl]; rfl
  ·rw [List.length_append, h1]; rfl
  ·rw [List.length_append, h2]; rfl
  ·have e1 := tS_app (f := f) (ds := ops.toList.map (·.dst)) (es := es) (L := fun _ => true) e i (by omega)
   simp only [tS, hei, hdst, e1, ← h3]
   exact look_put _ _ _
  ·have e1 := hS_app (f := h) (es := es) (L := fun _ => true) e i (by omega)
   simp only [hS, hei, e1, ← h4]
   exact (upd_look _ _).symm
  ·intro k hk
   by_cases hki : k < i
   ·obtain ⟨o2, e2, q1, q2, q3, q4, q5, q6, q7⟩ := (h5 k hki).ok
    refine ⟨o2, e2, q1, by rw [List.getElem?_append_left (by omega)]; exact q2, q3, q4, q5, by rw [fp_app _ (by omega)]; exact q6, ?_⟩
    rw [fp_app _ (by omega), tS_app e k (by omega), hS_app e k (by omega)]
    exact q7
   ·obtain rfl : k = i := by omega
    have hfp : fp (acc ++ [(touch (look st) sh o, e.ups.map (·.1))]) k = (touch (look st) sh o, e.ups.map (·.1)) := by
     unfold fp
     rw [List.getD_eq_getElem?_getD, List.getElem?_append_right (by omega), h2]; simp
    refine ⟨o, e, ho, hei, hd, hdst, k2, by rw [hfp], ?_⟩
    rw [hfp, tS_app e k (by omega), hS_app e k (by omega), ← h3, ← h4]
    exact k1
theorem MemOk.weakU {W : World} {N U U' F : Nat → Prop} {β : Nat → Option Bind} {h : Nat → Chunk} {w : World} (M : MemOk W N U F β h w) (hU : ∀ i, U i → U' i) : MemOk W N U' F β h w := by
 refine ⟨M.size, M.os, M.tape, M.output, M.frame, M.fin, fun id bd hb => hU _ (M.used id bd hb), fun id hd => ?_, M.dis, M.off⟩
 obtain ⟨bd, hb, hc⟩ := M.ch id hd
 exact ⟨bd, hb, hc.mono (E := ⟨hU, fun b hb => ⟨hb, rfl⟩, fun _ _ _ h => ⟨_, h⟩⟩) (fun g _ => rfl)⟩
theorem MemOk.drew {W : World} {N U F : Nat → Prop} {β : Nat → Option Bind} {h : Nat → Chunk} {w w' : World} (M : MemOk W N U F β h w) (hh : w'.heap = w.heap) (ho : w'.os = w.os) (ht : w'.tape = w.tape) (hp : w'.output = w.output) : MemOk W N U F β h w' := by
 have E : Ext U F β w U F β w' := ⟨fun _ h => h, fun b hb => ⟨hb, by rw [hh]⟩, fun _ _ _ h => ⟨_, h⟩⟩
 refine ⟨by rw [hh]; exact M.size, ho.trans M.os, ht.trans M.tape, hp.trans M.output, fun b hb hn => by rw [hh]; exact M.frame b hb hn, fun b hb => by rw [hh]; exact M.fin b hb, M.used, fun id hd => ?_, M.dis, fun i bd b hb hbb => by rw [hh]; exact M.off i bd b hb hbb⟩
 obtain ⟨bd, hb, hc⟩ := M.ch id hd
 exact ⟨bd, hb, hc.mono E (fun g _ => by rw [hh])⟩
structure Mid (H : Hist) (n0 n : Nat) (f : Nat → AV) (h : Nat → Chunk) (ds : List (Option Tmp)) (es : List Eff) (L : Nat → Bool) (a : Act) (w : World) : Prop where
 ok : ∃ F β, MemOk H.W H.N (fun i => i < n0 ∨ ∃ k, k < n ∧ L k = true ∧ n0 + 4 * k ≤ i ∧ i < n0 + 4 * k + 4) F β (hS h es L n) w ∧
  (∀ t, RelA (fun i => i < n0 ∨ ∃ k, k < n ∧ L k = true ∧ n0 + 4 * k ≤ i ∧ i < n0 + 4 * k + 4) w F β (tS f ds es L n t) (a.tmps.getD t undef)) ∧
  (∀ b, H.F b → F b) ∧ (∀ b, F b → H.F b ∨ H.W.heap.size ≤ b ∨ H.N b) ∧ (∀ i bd, i < H.k → β i = some bd → ∃ bs, H.β i = some ⟨bd.v, bd.b, bd.n, bd.sz, bs⟩) ∧ Dfr F H.W.heap.size a.defers w
 nt : a.tmps.size = H.nt
theorem tmps_put {U F : Nat → Prop} {β : Nat → Option Bind} {w : World} {a : Act} {f : Nat → AV} {nt : Nat} (ht : ∀ t, RelA U w F β (f t) (a.tmps.getD t undef)) (hnt : a.tmps.size = nt) {d : Option Tmp} (hd : dstOk nt d) {x : AV} {v : Value} (hx : RelA U w F β x v) (t : Nat) : RelA U w F β (updT f d x t) ((a.put d v).tmps.getD t undef) := by
 cases d with
 | none => simpa [updT, Act.put] using ht t
 | some d =>
  simp only [updT, Act.put, Option.some.injEq]
  by_cases h1 : d = t
  ·subst h1
   rw [if_pos rfl]
   have : d < a.tmps.size := by rw [hnt]; exact hd
   rw [Array.getD_eq_getD_getElem?, Array.getElem?_setIfInBounds_self, if_pos this]
   exact hx
  ·rw [if_neg h1, Array.getD_eq_getD_getElem?, Array.getElem?_setIfInBounds_ne h1, ← Array.getD_eq_getD_getElem?]
   exact ht t
theorem put_size (a : Act) (d : Option Tmp) (v : Value) : (a.put d v).tmps.size = a.tmps.size ∧ (a.put d v).defers = a.defers := by
 cases d <;> simp [Act.put]
theorem draw_any {P : Program} {H : Hist} {s : St} {F : Nat → Prop} {β : Nat → Option Bind} {a : Act} {w : World} {ops : Array Oper} {Q : Exit → St → Prop} (hx : DrawG P H.nt ops (Q .normal) s) (C : Conc H s F β a w) :
 wpAny P .any ops (Post H Q) ops.size (Array.replicate ops.size false) a { w with drawn := w.drawn + 1 } := by
 obtain ⟨es, acc, s', hel, hn, ht, hh, hat, hok, hK⟩ := drawL_out (f := look s.t) (h := lookC s.h) ops.toList 0 s [] [] (by simp) (Nat.zero_le _) rfl rfl rfl rfl (fun k hk => by omega) hx
 -- what the check has shown
 unfold drawOk at hok
 simp only [Bool.and_eq_true] at hok
 obtain ⟨hedge, hpair⟩ := hok
 have edge : ∀ k o, ops[k]? = some o → ∀ e ∈ o.after, Region.binds .any e = true → e.on < k := by
  intro k o ho e he hb
  have hk : k < ops.size := (Array.getElem?_eq_some_iff.1 ho).1
  have := List.all_eq_true.1 hedge k (by simpa using hk)
  rw [ho] at this
  have := List.all_eq_true.1 this e (by simpa using he)
  rw [hb] at this
  simpa using this
 have pair : ∀ i j, i < j → j < ops.size → pairOk ops (masks ops.toList []) acc i j = true := by
  intro i j hij hj
  have := List.all_eq_true.1 hpair j (by simpa using hj)
  exact List.all_eq_true.1 this i (by simpa using hij)
 let n := ops.size
 let ds := ops.toList.map (·.dst)
 -- the induction
 have key : ∀ (fuel : Nat) (listed : Array Bool) (a : Act) (w : World), listed.size = n → Closed ops (fun i => listed.getD i false = true) → ((List.range n).filter fun i => !listed.getD i false).length = fuel →
  Mid H s.n n (look s.t) (lookC s.h) ds es (fun i => listed.getD i false) a w → wpAny P .any ops (Post H Q) fuel listed a w := by
  intro fuel
  have allDone : ∀ (listed : Array Bool) (a : Act) (w : World), (∀ i, i < n → listed.getD i false = true) → Mid H s.n n (look s.t) (lookC s.h) ds es (fun i => listed.getD i false) a w → Post H Q .normal a w := by
   intro listed a w hall M
   obtain ⟨F, β, M1, M2, M3, M4, M5, M6⟩ := M.ok
   have e1 : ∀ t, tS (look s.t) ds es (fun i => listed.getD i false) n t = look s'.t t := by
    intro t
    rw [ht]
    exact tS_agree (fun k hk _ => hall k hk) n (Nat.le_refl _) (fun k h1 h2 => by omega)
   have e2 : hS (lookC s.h) es (fun i => listed.getD i false) n = lookC s'.h := by
    funext t
    rw [hh]
    exact hS_agree (fun k e hk _ _ => hall k hk) n (Nat.le_refl _) (fun k e h1 h2 => by omega)
   rw [e2] at M1
   have hU : ∀ i, (i < s.n ∨ ∃ k, k < n ∧ listed.getD k false = true ∧ s.n + 4 * k ≤ i ∧ i < s.n + 4 * k + 4) → i < s.n + 4 * ops.size := by
    rintro i (h | ⟨k, h1, _, h2, h3⟩)
    ·omega
    ·have : n = ops.size := rfl
     omega
   refine ⟨⟨s'.t, s'.h, s.n + 4 * ops.size⟩, F, β, ⟨fun t => ?_, M1.weakU hU, M.nt, M6, M3, M4, M5, Nat.le_trans C.k (Nat.le_add_right _ _)⟩, hK⟩
   have := M2 t
   rw [e1 t] at this
   exact RelA.mono ⟨hU, fun b hb => ⟨hb, rfl⟩, fun _ _ _ h => ⟨_, h⟩⟩ _ _ this
  induction fuel with
  | zero =>
   intro listed a w hsz hcl hf M
   have hall : ∀ i, i < n → listed.getD i false = true := by
    intro i hi
    have := List.eq_nil_of_length_eq_zero hf
    rw [List.filter_eq_nil_iff] at this
    have := this i (by simpa using hi)
    simpa using this
   refine ⟨?_, allDone listed a w hall M⟩
   apply List.eq_nil_iff_forall_not_mem.2
   intro j hj
   obtain ⟨h1, o, ho, _⟩ := mem_ready.1 hj
   have hjn : j < n := (Array.getElem?_eq_some_iff.1 ho).1
   have := hall j hjn
   rw [Array.getD_eq_getD_getElem?] at this h1
   have hjs : j < listed.size := by omega
   rw [Array.getElem?_eq_getElem hjs] at this h1
   simp only [Option.getD_some] at this h1
   rw [this] at h1; simp at h1
  | succ fuel ih =>
   intro listed a w hsz hcl hf M
   have gd : ∀ i, i < n → listed.getD i true = listed.getD i false := by
    intro i hi
    have hjs : i < listed.size := by omega
    rw [Array.getD_eq_getD_getElem?, Array.getD_eq_getD_getElem?, Array.getElem?_eq_getElem hjs]; rfl
   refine ⟨fun hr => ?_, fun i hi => ?_⟩
   · -- nobody may come up: all are done
    refine allDone listed a w ?_ M
    intro i
    induction i using Nat.strongRecOn with
    | _ i ihi =>
     intro hi
     cases hLi : listed.getD i false with
     | true => rfl
     | false =>
      exfalso
      have ho : ops[i]? = some ops[i] := Array.getElem?_eq_getElem hi
      have hm : i ∈ Region.ready .any ops listed := mem_ready.2 ⟨by rw [gd i hi]; exact hLi, _, ho, fun e he hb => ihi e.on (edge i _ ho e he hb) (by have := edge i _ ho e he hb; omega)⟩
      rw [hr] at hm
      simp at hm
   · -- number i comes up
    obtain ⟨hun, oi, hoi, hpre⟩ := mem_ready.1 hi
    have hin : i < n := (Array.getElem?_eq_some_iff.1 hoi).1
    rw [gd i hin] at hun
    obtain ⟨F, β, M1, M2, M3, M4, M5, M6⟩ := M.ok
    obtain ⟨o, e, q1, q2, q3, q4, q5, q6, q7⟩ := (hat i hin).ok
    rw [hoi] at q1
    cases q1
    -- those that are ordered
    have hcl' : Closed ops (fun k => listed.getD k false = true ∨ k = i) := by
     intro k ok hk hE e' he' hb'
     rcases hE with hE | rfl
     ·exact .inl (hcl k ok hk hE e' he' hb')
     ·rw [hoi] at hk; cases hk
      exact .inl (hpre e' he' hb')
    have before : ∀ k, k < i → ((masks ops.toList []).getD i 0).testBit k = true → listed.getD k false = true := by
     intro k hk hb
     have := masks_spec hcl' ops.toList [] (by simp) (by intro i j h; simp at h) i k hb (.inr rfl)
     rcases this with h | h
     ·exact h
     ·omega
    have after : ∀ k, i < k → listed.getD k false = true → ((masks ops.toList []).getD k 0).testBit i = true → False := by
     intro k hk hL hb
     have := masks_spec hcl ops.toList [] (by simp) (by intro i j h; simp at h) k i hb hL
     rw [hun] at this; simp at this
    have apart_lt : ∀ k ok, k < i → ops[k]? = some ok → listed.getD k false = false → Oper.apart ops ok oi = true ∧ disj (fp acc k).2 ((fp acc i).1 ++ (fp acc i).2) = true := by
     intro k ok hk hok hL
     have := pair k i hk hin
     unfold pairOk at this
     rw [Bool.or_eq_true] at this
     rcases this with h | h
     ·have := before k hk h; rw [hL] at this; simp at this
     ·simp only [hok, hoi, Bool.and_eq_true] at h
      exact ⟨h.1.1, h.1.2⟩
    have apart_gt : ∀ k ok, i < k → k < n → ops[k]? = some ok → listed.getD k false = true → Oper.apart ops oi ok = true ∧ disj (fp acc i).2 ((fp acc k).1 ++ (fp acc k).2) = true ∧ (disj (fp acc i).1 (fp acc k).2 = true ∨ lkOk ops acc i k = true) := by
     intro k ok hk hkn hok hL
     have := pair i k hk hkn
     unfold pairOk at this
     rw [Bool.or_eq_true] at this
     rcases this with h | h
     ·exact (after k hk hL h).elim
     ·simp only [hok, hoi, Bool.and_eq_true, Bool.or_eq_true] at h
      exact ⟨h.1.1, h.1.2, h.2⟩
    have dsk : ∀ k t, ds.getD k none = some t → ∃ ok, ops[k]? = some ok ∧ ok.dst = some t ∧ k < n := by
     intro k t hk
     rw [List.getD_eq_getElem?_getD, List.getElem?_map] at hk
     cases ho : ops.toList[k]? with
     | none => rw [ho] at hk; simp at hk
     | some ok =>
      rw [ho] at hk
      have ho' : ops[k]? = some ok := by simpa using ho
      exact ⟨ok, ho', by simpa using hk, (Array.getElem?_eq_some_iff.1 ho').1⟩
    have fpk : ∀ k e2, k < n → es[k]? = some e2 → (fp acc k).2 = e2.ups.map (·.1) := by
     intro k e2 hk he2
     obtain ⟨_, e3, _, p2, _, _, _, p6, _⟩ := (hat k hk).ok
     rw [he2] at p2; cases p2; exact p6
    have opk : ∀ k, k < n → ∃ ok, ops[k]? = some ok := fun k hk => ⟨_, Array.getElem?_eq_getElem hk⟩
    -- the temporaries that it looks at
    have agT : ∀ t ∈ oi.looksAt ops, tS (look s.t) ds es (fun i => listed.getD i false) n t = tS (look s.t) ds es (fun _ => true) i t := by
     intro t htl
     refine tS_agree (fun k hk hd => ?_) n (Nat.le_of_lt hin) (fun k h1 h2 hd => ?_)
     ·obtain ⟨ok, hok, hdk, _⟩ := dsk k t hd
      cases hL : listed.getD k false with
      | true => rfl
      | false => exact ((Oper.apart_spec (apart_lt k ok hk hok hL).1).1 t hdk htl).elim
     ·obtain ⟨ok, hok, hdk, _⟩ := dsk k t hd
      by_cases hki : k = i
      ·subst hki; exact hun
      ·cases hL : listed.getD k false with
       | false => rfl
       | true => exact ((Oper.apart_spec (apart_gt k ok (by omega) h2 hok hL).1).2.2 t hdk htl).elim
    -- the memory that it looks at
    have agH : ∀ t ∈ (fp acc i).1, hS (lookC s.h) es (fun i => listed.getD i false) n t = hS (lookC s.h) es (fun _ => true) i t ∨ (isLk oi = true ∧ OpenC (hS (lookC s.h) es (fun _ => true) i t) (hS (lookC s.h) es (fun i => listed.getD i false) n t)) := by
     intro t htl
     by_cases hex : ∃ k e2, i < k ∧ k < n ∧ es[k]? = some e2 ∧ t ∈ e2.ups.map (·.1) ∧ listed.getD k false = true
     ·obtain ⟨k, e2, hik, hkn, he2, htk, hLk⟩ := hex
      have lk : ∀ k e2, i < k → k < n → es[k]? = some e2 → t ∈ e2.ups.map (·.1) → listed.getD k false = true → lkOk ops acc i k = true := by
       intro k e2 hik hkn he2 htk hLk
       obtain ⟨ok, hok⟩ := opk k hkn
       rcases (apart_gt k ok hik hkn hok hLk).2.2 with h | h
       ·exact (disj_iff h t htl (by rw [fpk k e2 hkn he2]; exact htk)).elim
       ·exact h
      have lkk := lk k e2 hik hkn he2 htk hLk
      obtain ⟨ok, hok⟩ := opk k hkn
      have mid : ∀ k m e3, lkOk ops acc i k = true → i < m → m < k → m < n → es[m]? = some e3 → t ∉ e3.ups.map (·.1) := by
       intro k m e3 hl h1 h2 h3 h4 h5
       unfold lkOk at hl
       rw [Bool.and_eq_true] at hl
       have := List.all_eq_true.1 hl.2 m (by simpa using h2)
       rw [Bool.or_eq_true] at this
       rcases this with h | h
       ·have := Nat.le_of_ble_eq_true h; omega
       ·exact disj_iff h t htl (by rw [fpk m e3 h3 h4]; exact h5)
      have uniq : ∀ k' e3, i < k' → k' < n → es[k']? = some e3 → t ∈ e3.ups.map (·.1) → listed.getD k' false = true → k' = k := by
       intro k' e3 h1 h2 h3 h4 h5
       rcases Nat.lt_trichotomy k' k with h | h | h
       ·exact (mid k k' e3 lkk h1 h h2 h3 h4).elim
       ·exact h
       ·exact (mid k' k e2 (lk k' e3 h1 h2 h3 h4 h5) hik h hkn he2 htk).elim
      unfold lkOk at lkk
      rw [Bool.and_eq_true, hoi, hok] at lkk
      simp only [Bool.and_eq_true] at lkk
      obtain ⟨⟨isl, isn⟩, _⟩ := lkk
      refine .inr ⟨isl, ?_⟩
      obtain ⟨ok', e3, p1, p2, _, _, _, p6, p7⟩ := (hat k hkn).ok
      rw [hok] at p1; cases p1
      rw [he2] at p2; cases p2
      obtain ⟨id, a', n', es', l, r1, r2⟩ := entry_ups isn p7
      have hti : t = id := by rw [r2] at htk; simpa using htk
      subst hti
      have r3 : hS (lookC s.h) es (fun _ => true) k t = .mp a' n' es' := by
       unfold onlyC at r1
       split at r1
       ·exact r1
       ·simp at r1
      have r4 : hS (lookC s.h) es (fun _ => true) k t = hS (lookC s.h) es (fun _ => true) i t := by
       refine hS_stay k (Nat.le_of_lt hik) (fun m e4 h1 h2 h3 h4 => ?_)
       exfalso
       by_cases hmi : m = i
       ·subst hmi
        have := disj_iff (apart_gt k ok hik hkn hok hLk).2.1 t (by rw [fpk m e4 hin h3]; exact h4)
        exact this (List.mem_append_right _ (by rw [p6]; exact htk))
       ·exact mid k m e4 (lk k e2 hik hkn he2 htk hLk) (by omega) h2 (by omega) h3 h4
      have r5 : hS (lookC s.h) es (fun i => listed.getD i false) n t = hS (lookC s.h) es (fun i => listed.getD i false) (k + 1) t := by
       refine hS_stay n hkn (fun m e4 h1 h2 h3 h4 => ?_)
       cases hLm : listed.getD m false with
       | false => rfl
       | true => have := uniq m e4 (by omega) h2 h3 h4 hLm; omega
      have r6 : hS (lookC s.h) es (fun i => listed.getD i false) (k + 1) t = .mp a' n' (mopen l es') := by
       simp only [hS, hLk, he2, r2, upd, if_true]
      exact .inr ⟨a', n', es', l, r4.symm.trans r3, r5.trans r6⟩
     ·refine .inl (hS_agree (fun k e2 hk he2 hd => ?_) n (Nat.le_of_lt hin) (fun k e2 h1 h2 he2 hd => ?_))
      ·obtain ⟨ok, hok⟩ := opk k (by omega)
       cases hL : listed.getD k false with
       | true => rfl
       | false =>
        have := disj_iff (apart_lt k ok hk hok hL).2 t (by rw [fpk k e2 (by omega) he2]; exact hd)
        exact (this (List.mem_append_left _ htl)).elim
      ·by_cases hki : k = i
       ·subst hki; exact hun
       ·cases hL : listed.getD k false with
        | false => rfl
        | true => exact (hex ⟨k, e2, by omega, h2, he2, hd, hL⟩).elim
    have q7' : opWF P ops oi (tS (look s.t) ds es (fun _ => true) i) (onlyC (fp acc i).1 (hS (lookC s.h) es (fun i => listed.getD i false) n)) (s.n + 4 * i) (· = e) := by
     cases isl : isLk oi with
     | true =>
      refine opWF_open isl (fun t => ?_) q7
      unfold onlyC
      cases hm : memN (fp acc i).1 t with
      | false => exact .inl rfl
      | true =>
       rcases agH t (memN_iff.1 hm) with h | h
       ·exact .inl h
       ·exact h.2
     | false =>
      have : onlyC (fp acc i).1 (hS (lookC s.h) es (fun i => listed.getD i false) n) = onlyC (fp acc i).1 (hS (lookC s.h) es (fun _ => true) i) := by
       funext t
       unfold onlyC
       cases hm : memN (fp acc i).1 t with
       | false => rfl
       | true =>
        rcases agH t (memN_iff.1 hm) with h | h
        ·exact h
        ·rw [isl] at h; simp at h
      rw [this]; exact q7
    have hsub : ∀ id, onlyC (fp acc i).1 (hS (lookC s.h) es (fun i => listed.getD i false) n) id ≠ .dead → onlyC (fp acc i).1 (hS (lookC s.h) es (fun i => listed.getD i false) n) id = hS (lookC s.h) es (fun i => listed.getD i false) n id := by
     intro id hne
     unfold onlyC at hne ⊢
     cases hm : memN (fp acc i).1 id with
     | false => rw [hm] at hne; exact (hne rfl).elim
     | true => rfl
    have hLset : (fun k => (listed.setIfInBounds i true).getD k false) = setL (fun k => listed.getD k false) i := by
     funext k
     unfold setL
     by_cases hki : k = i
     ·subst hki
      have : k < listed.size := by omega
      simp [this]
     ·rw [if_neg hki, getD_set_ne false (Ne.symm hki)]
    have hUnot : ∀ x, s.n + 4 * i ≤ x → x < s.n + 4 * i + 4 → ¬ (x < s.n ∨ ∃ k, k < n ∧ listed.getD k false = true ∧ s.n + 4 * k ≤ x ∧ x < s.n + 4 * k + 4) := by
     rintro x h1 h2 (h | ⟨k, h3, h4, h5, h6⟩)
     ·omega
     ·have : k = i := by omega
      subst this
      rw [hun] at h4; simp at h4
    have fin := opWF_run (a := a) (Q := Post H Q) (next := wpAny P .any ops (Post H Q) fuel (listed.setIfInBounds i true)) (hT := onlyC (fp acc i).1 (hS (lookC s.h) es (fun i => listed.getD i false) n)) M1 hsub (hUnot _ (Nat.le_refl _) (by omega)) (o := oi)
     (f := tS (look s.t) ds es (fun _ => true) i) (fun t htl => by rw [← agT t htl]; exact M2 t) (fun e' he' x h1 h2 => by subst he'; exact hUnot x h1 (by omega)) q7' (by
     rintro e' v w' rfl S
     refine ih _ _ _ (by simpa using hsz) ?_ ?_ ?_
     ·intro k ok hk hE e2 he2 hb2
      rw [congrFun hLset k] at hE
      show (fun k => (listed.setIfInBounds i true).getD k false) e2.on = true
      rw [hLset]
      unfold setL at hE ⊢
      by_cases h1 : e2.on = i
      ·rw [if_pos h1]
      ·rw [if_neg h1]
       by_cases hki : k = i
       ·subst hki
        rw [hoi] at hk; cases hk
        exact hpre e2 he2 hb2
       ·rw [if_neg hki] at hE
        exact hcl k ok hk hE e2 he2 hb2
     ·have cnt : ∀ (l : List Nat), l.Nodup → i ∈ l → (l.filter fun k => !listed.getD k false).length = (l.filter fun k => !(listed.setIfInBounds i true).getD k false).length + 1 := by
       intro l
       induction l with
       | nil => intro _ h; simp at h
       | cons x r ihr =>
        intro hnd hmem
        have hx := congrFun hLset x
        simp only [setL] at hx
        rw [List.nodup_cons] at hnd
        by_cases hxi : x = i
        ·subst hxi
         rw [if_pos rfl] at hx
         rw [List.filter_cons, List.filter_cons, hun, hx]
         simp only [Bool.not_false, Bool.not_true, if_true, Bool.false_eq_true, if_false, List.length_cons]
         congr 2
         apply List.filter_congr
         intro y hy
         have hyx : y ≠ x := fun h => hnd.1 (h ▸ hy)
         have := congrFun hLset y
         simp only [setL, if_neg hyx] at this
         rw [this]
        ·rw [if_neg hxi] at hx
         have := ihr hnd.2 ((List.mem_cons.1 hmem).resolve_left (Ne.symm hxi))
         rw [List.filter_cons, List.filter_cons, hx]
         split
         ·simp only [List.length_cons, this]
         ·exact this
      have := cnt (List.range n) List.nodup_range (by simpa using hin)
      omega
     ·obtain ⟨F', β', S1, S2, S3, S4⟩ := S
      have eT := tS_insert (f := look s.t) (ds := ds) (L := fun k => listed.getD k false) hun q2 n hin (fun k t h1 h2 h3 h4 => by
       obtain ⟨ok, hok, hdk, _⟩ := dsk k t h4
       rw [q4]
       intro h5
       exact (Oper.apart_spec (apart_gt k ok h1 h2 hok h3).1).2.1 t h5 hdk)
      have eH := hS_insert (h := lookC s.h) (L := fun k => listed.getD k false) hun q2 n hin (fun k e2 t h1 h2 h3 h4 h5 h6 => by
       obtain ⟨ok, hok⟩ := opk k h2
       have := disj_iff (apart_gt k ok h1 h2 hok h3).2.1 t (by rw [q6]; exact h6)
       exact this (List.mem_append_right _ (by rw [fpk k e2 h2 h4]; exact h5)))
      have hU' : ∀ x, ((x < s.n ∨ ∃ k, k < n ∧ listed.getD k false = true ∧ s.n + 4 * k ≤ x ∧ x < s.n + 4 * k + 4) ∨ (s.n + 4 * i ≤ x ∧ x < s.n + 4 * i + e'.fresh)) → (x < s.n ∨ ∃ k, k < n ∧ setL (fun k => listed.getD k false) i k = true ∧ s.n + 4 * k ≤ x ∧ x < s.n + 4 * k + 4) := by
       rintro x ((h | ⟨k, h1, h2, h3⟩) | ⟨h1, h2⟩)
       ·exact .inl h
       ·refine .inr ⟨k, h1, ?_, h3⟩
        unfold setL
        by_cases hki : k = i
        ·rw [if_pos hki]
        ·rw [if_neg hki]; exact h2
       ·exact .inr ⟨i, hin, by unfold setL; rw [if_pos rfl], h1, by omega⟩
      have hU'' : ∀ x, ((x < s.n ∨ ∃ k, k < n ∧ listed.getD k false = true ∧ s.n + 4 * k ≤ x ∧ x < s.n + 4 * k + 4) ∨ (s.n + 4 * i ≤ x ∧ x < s.n + 4 * i + e'.fresh)) → (x < s.n ∨ ∃ k, k < n ∧ (listed.setIfInBounds i true).getD k false = true ∧ s.n + 4 * k ≤ x ∧ x < s.n + 4 * k + 4) := by
       intro x hx
       rcases hU' x hx with h | ⟨k, h1, h2, h3⟩
       ·exact .inl h
       ·exact .inr ⟨k, h1, (congrFun hLset k).trans h2, h3⟩
      refine ⟨⟨F', β', ?_, fun t => ?_, fun b hb => (S2.f b (M3 b hb)).1, fun b hb => ?_, fun j bd hj hb => ?_, by rw [(put_size a oi.dst v).2]; exact M6.mono S2.f⟩, by rw [(put_size a oi.dst v).1]; exact M.nt⟩
      ·rw [hLset, eH]
       exact S1.weakU hU''
      ·rw [hLset, eT, q4]
       have := tmps_put (x := e'.val) (v := v) (fun t => RelA.mono S2 _ _ (M2 t)) M.nt q3 S3 t
       exact RelA.mono ⟨hU'', fun b hb => ⟨hb, rfl⟩, fun _ _ _ h => ⟨_, h⟩⟩ _ _ this
      ·rcases S4 b hb with h | h
       ·exact M4 b h
       ·exact .inr h
      ·obtain ⟨bs, h1⟩ := S2.e j bd (.inl (Nat.lt_of_lt_of_le hj C.k)) hb
       exact M5 j ⟨_, _, _, _, bs⟩ hj h1)
    unfold wpOp
    rw [hoi]
    exact fin
 refine key ops.size _ a _ (by simp [n]) ?_ ?_ ?_
 ·intro i o _ hE
  exfalso
  rw [Array.getD_eq_getD_getElem?] at hE
  by_cases hi : i < ops.size
  ·simp [hi] at hE
  ·simp [hi] at hE
 ·have : (List.range n).filter (fun i => !(Array.replicate ops.size false).getD i false) = List.range n := by
   apply List.filter_eq_self.2
   intro i hi
   have hi' : i < ops.size := by simpa using hi
   simp [hi']
  rw [this]; simp [n]
 ·have hL : (fun i => (Array.replicate ops.size false).getD i false) = fun _ => false := by
   funext i
   rw [Array.getD_eq_getD_getElem?]
   by_cases hi : i < ops.size
   ·simp [hi]
   ·simp [hi]
  have t0 : ∀ k, tS (look s.t) ds es (fun _ => false) k = look s.t := by
   intro k
   induction k with
   | zero => rfl
   | succ k ih => simp only [tS]; exact ih
  have h0 : ∀ k, hS (lookC s.h) es (fun _ => false) k = lookC s.h := by
   intro k
   induction k with
   | zero => rfl
   | succ k ih => simp only [hS]; exact ih
  have hU0 : ∀ x, x < s.n → (x < s.n ∨ ∃ k, k < n ∧ (Array.replicate ops.size false).getD k false = true ∧ s.n + 4 * k ≤ x ∧ x < s.n + 4 * k + 4) := fun x hx => .inl hx
  refine ⟨⟨F, β, ?_, fun t => ?_, C.f, C.g, C.e, C.d.mono fun b hb => ⟨hb, rfl⟩⟩, C.nt⟩
  ·rw [hL, h0]
   exact (C.m.drew (w' := { w with drawn := w.drawn + 1 }) rfl rfl rfl rfl).weakU (fun x hx => .inl hx)
  ·rw [hL, t0]
   have E : Ext (· < s.n) F β w (fun i => i < s.n ∨ ∃ k, k < n ∧ (Array.replicate ops.size false).getD k false = true ∧ s.n + 4 * k ≤ i ∧ i < s.n + 4 * k + 4) F β { w with drawn := w.drawn + 1 } := ⟨fun x hx => .inl hx, fun b hb => ⟨hb, rfl⟩, fun _ _ _ h => ⟨_, h⟩⟩
   exact RelA.mono E _ _ (C.t t)
theorem draw_run {P : Program} (hmix : P.follows .mixedOrders = true) {H : Hist} {s : St} {F : Nat → Prop} {β : Nat → Option Bind} {a : Act} {w : World} {ops : Array Oper} {Q : Exit → St → Prop} (id : Nat) (hx : DrawG P H.nt ops (Q .normal) s) (C : Conc H s F β a w) :
 (Code.region id ops true).wp P (Post H Q) a w := wp_region_any hmix (draw_any hx C)
end Go.Proofs.Ytdkmndimmpilaaa
namespace Go.Proofs.Ytdkmndimmpilaaa
set_option linter.all false
open Go.RowKit
theorem spec_am {P : Program} {f : FuncId} {fn : Func} {c : Code} {args : List AV} {hs hs' : List Chunk} {r : AV} (hf : P.funcs[f]? = some fn) (hb : fn.body = some c) (hn : (fn.name == "runtime.NumGoroutine") = false) (hmix : P.follows .mixedOrders = true)
 (nt : Nat) (hnt : nt = args.length + (fn.ntmps - args.length)) (rs : List ResultVar) (hrs : fn.results = rs.toArray) (hle : hs.length ≤ hs'.length)
 (h : awp P nt hs.length c (RetQ P hs.length rs r hs') ⟨argsT 0 args, hsT 0 hs, hs.length⟩) : Spec P f args hs r hs' :=
 spec_of hf hb hn (fun _ _ _ _ _ _ _ _ id hx C => draw_run hmix id hx C) nt hnt rs hrs hle h
section
variable {k : Nat} {b : Bool} {X Y : (Exit → St → Prop) → St → Prop} {Q : Exit → St → Prop} {s : St}
theorem cond_i (h1 : b = true → X Q s) (h2 : b = false → Y Q s) : CondJ k (.c (.v (.bool b))) X Y Q s := .inl ⟨h1, h2⟩
end
theorem joinK_n {α : Type} {k : Nat} {S : α → St} {Pr : α → Prop} {Q : Exit → St → Prop} {s : St} : joinK k S Pr Q .normal s = ∃ y, Pr y ∧ ToK k s (S y) := rfl
theorem joinK_e {α : Type} {k : Nat} {S : α → St} {Pr : α → Prop} {Q : Exit → St → Prop} {s : St} {i : Nat} : joinK k S Pr Q (.exit i) s = Q (.exit i) s := rfl
theorem joinK_r {α : Type} {k : Nat} {S : α → St} {Pr : α → Prop} {Q : Exit → St → Prop} {s : St} : joinK k S Pr Q .ret s = Q .ret s := rfl
section
variable {P : Program} {f : FuncId} {args args' : List AV} {h : Nat → Chunk} {m : Nat} {K : Eff → Prop} {r : AV}
theorem callP (S : Spec P f args' [] r []) (hw : WkL (cvL [] noC args) args') (k : K ⟨up [] m r, [], 0⟩) : CallG P f args h m K :=
 ⟨_, .inl ⟨[], args', [], r, [], List.nodup_nil, hw, rfl, by simp, S, rfl⟩, k⟩
theorem callB (S : Spec P f args' [] r []) (hw : WkL (cvL [] h args) args') (hr : scal r = true) (k : K ⟨r, [], 0⟩) : CallG P f args h m K :=
 ⟨_, .inr ⟨args', r, hr, hw, S, rfl⟩, k⟩
theorem callM {hs hs' : List Chunk} (ids : List Nat) (S : Spec P f args' hs r hs') (hw : WkL (cvL ids noC args) args') (hh : hs = ids.map (fun id => cvC ids noC (h id))) (hnd : ids.Nodup) (hal : ∀ id ∈ ids, h id ≠ .dead) (k : K ⟨up ids m r, upsL ids m 0 hs', hs'.length - ids.length⟩) : CallG P f args h m K :=
 ⟨_, .inl ⟨ids, args', hs, r, hs', hnd, hw, hh, hal, S, rfl⟩, k⟩
variable {c : Bool} {φ : Prop}
theorem gcallP (S : c = true → Spec P f args' [] r []) (hw : WkL (cvL [] noC args) args') (hφ : c = true → φ) (k : K ⟨.opt c (up [] m r), [], 0⟩) : GCall P c f args φ h m K :=
 .inl ⟨_, fun hc => ⟨hφ hc, .inl ⟨[], args', [], r, [], List.nodup_nil, hw, rfl, by simp, S hc, rfl⟩⟩, k⟩
theorem gcallB (S : c = true → Spec P f args' [] r []) (hw : WkL (cvL [] h args) args') (hr : scal r = true) (hφ : c = true → φ) (k : K ⟨.opt c r, [], 0⟩) : GCall P c f args φ h m K :=
 .inl ⟨_, fun hc => ⟨hφ hc, .inr ⟨args', r, hr, hw, S hc, rfl⟩⟩, k⟩
end
def lpK {α : Type} (k : Nat) (S : α → St) (Pr : α → Prop) (μ : α → Nat) (x : α) (Q : Exit → St → Prop) : Exit → St → Prop := fun e s' => match e with
 | .normal => ∃ y, Pr y ∧ μ y < μ x ∧ ToK k s' (S y)
 | e => Q e s'
theorem loopI {k : Nat} {A : (Exit → St → Prop) → St → Prop} {Q : Exit → St → Prop} {s : St} {α : Type} (S : α → St) (Pr : α → Prop) (μ : α → Nat) (x : α) (hx : Pr x) (h0 : ToK k s (S x))
 (hr : ∀ x, Pr x → A (lpK k S Pr μ x Q) (S x)) : LoopG k A Q s := ⟨α, S, Pr, μ, ⟨x, hx, h0⟩, hr⟩
theorem lpK_n {α : Type} {k : Nat} {S : α → St} {Pr : α → Prop} {μ : α → Nat} {x : α} {Q : Exit → St → Prop} {s : St} : lpK k S Pr μ x Q .normal s = ∃ y, Pr y ∧ μ y < μ x ∧ ToK k s (S y) := rfl
theorem lpK_e {α : Type} {k : Nat} {S : α → St} {Pr : α → Prop} {μ : α → Nat} {x : α} {Q : Exit → St → Prop} {s : St} {i : Nat} : lpK k S Pr μ x Q (.exit i) s = Q (.exit i) s := rfl
theorem lpK_r {α : Type} {k : Nat} {S : α → St} {Pr : α → Prop} {μ : α → Nat} {x : α} {Q : Exit → St → Prop} {s : St} : lpK k S Pr μ x Q .ret s = Q .ret s := rfl
theorem ToK.trans {k : Nat} {s s' s'' : St} (h : ToK k s s') (h' : ToK k s' s'') : ToK k s s'' := by
 intro H F β a w hk C
 obtain ⟨F', β', C'⟩ := h H F β a w hk C
 exact h' H F' β' a w hk C'
theorem To.nil {k : Nat} {s : St} (t e sz : Nat) (ht : look s.t t = .c (.v (.slice none 0 0))) : ToK k s ⟨(t, .own s.n) :: s.t, (s.n, .row e sz []) :: s.h, s.n + 1⟩ := by
 intro H F β a w hk C
 have hb0 : ∀ bd, β s.n ≠ some bd := fun bd hb => absurd (C.m.used _ bd hb) (Nat.lt_irrefl _)
 obtain ⟨M, E⟩ := C.m.step (w' := w) (h' := lookC ((s.n, .row e sz []) :: s.h)) (β' := updB β s.n (some ⟨.slice none 0 0, none, 0, sz, []⟩)) (F' := F) (U' := (· < s.n + 1)) (fun i => i = s.n)
  (fun i hi => by simp [updB, Ne.symm hi]) (fun i hi => by simp [lookC, Ne.symm hi]) rfl rfl rfl (Nat.le_refl _) (fun _ _ _ => rfl) (fun i hi => Nat.lt_succ_of_lt hi) (fun b hb => hb)
  (fun b hb => ⟨C.m.fin b hb, .inl hb⟩) (fun i bd' hi hu => by subst hi; exact absurd hu (Nat.lt_irrefl _))
  (fun i bd' hi hb => by
   subst hi
   simp only [updB, if_true, Option.some.injEq] at hb
   subst hb
   exact ⟨Nat.lt_succ_self _, fun b hb => by have := Bind.has_nil hb; simp at this⟩)
  (fun i j _ _ _ hi hj _ _ _ _ => by rw [hi, hj])
  (fun E i hi _ => by
   subst hi
   refine ⟨⟨.slice none 0 0, none, 0, sz, []⟩, by simp [updB], ?_⟩
   simp only [lookC, if_true, ChOk]
   simp)
 refine ⟨F, updB β s.n (some ⟨.slice none 0 0, none, 0, sz, []⟩), fun t' => ?_, M, C.nt, C.d, C.f, C.g, fun i bd' hi hb => ?_, Nat.le_succ_of_le C.k⟩
 ·simp only [look]
  by_cases h : t = t'
  ·subst h
   rw [if_pos rfl]
   have h1 := C.t t
   rw [ht, relC] at h1
   simp only [RelA]
   rw [h1.1]
   refine ⟨Nat.lt_succ_self _, rfl, fun bd hb => ?_⟩
   simp only [updB, if_true, Option.some.injEq] at hb
   subst hb; rfl
  ·rw [if_neg h]; exact RelA.mono E _ _ (C.t t')
 ·refine C.e i bd' hi ?_
  have : s.n ≠ i := by have := C.k; omega
  simpa [updB, this] using hb
theorem ToK.refl (k : Nat) (s : St) : ToK k s s := fun _ F β _ _ _ C => ⟨F, β, C⟩
theorem ret0 {P : Program} {rs : List ResultVar} {r : AV} {s : St} {φ : Prop} {xs : List AV} (h : resAV P (look s.t) (lookC s.h) rs = some (φ, xs)) (hφ : φ) (hw : Wk (cv [] (lookC s.h) (oneV xs)) r) : RetG P 0 rs r [] s := by
 refine ⟨s, ToK.refl _ _, [], rfl, List.nodup_nil, trivial, ?_⟩
 rw [h]
 exact ⟨hφ, hw⟩
theorem retM {P : Program} {k : Nat} {rs : List ResultVar} {r : AV} {s : St} {hs' : List Chunk} {φ : Prop} {xs : List AV} (ids : List Nat) (h : resAV P (look s.t) (lookC s.h) rs = some (φ, xs)) (hk : ids.take k = List.range k) (hnd : ids.Nodup) (hh : hsW ids (lookC s.h) ids hs') (hφ : φ) (hw : Wk (cv ids (lookC s.h) (oneV xs)) r) : RetG P k rs r hs' s := by
 refine ⟨s, ToK.refl _ _, ids, hk, hnd, hh, ?_⟩
 rw [h]
 exact ⟨hφ, hw⟩
theorem retTo {P : Program} {k : Nat} {rs : List ResultVar} {r : AV} {s s' : St} {hs' : List Chunk} (hto : ToK k s s') (h : RetG P k rs r hs' s') : RetG P k rs r hs' s := by
 obtain ⟨s2, h2, h3⟩ := h
 exact ⟨s2, hto.trans h2, h3⟩
theorem cvL_append (ids : List Nat) (h : Nat → Chunk) : ∀ xs ys, cvL ids h (xs ++ ys) = cvL ids h xs ++ cvL ids h ys
 | [], ys => rfl
 | x :: r, ys => by simp [cvL, cvL_append ids h r ys]
theorem getD_map {α : Type} (f : α → List PV) (l : List α) (i : Nat) (h : i < l.length) : (l.map f).getD i [] = f l[i] := by simp [h]
theorem wk_self (x : AV) : Wk x x = True := eq_true (Wk.refl x)
theorem bsel_false (t p : Bool) : bsel t p false = (t && p) := by cases t <;> simp [bsel]
theorem bsel_true (t q : Bool) : bsel t true q = (t || q) := by cases t <;> simp [bsel]
theorem bool_imp (b : Bool) : (b = true → b = true) = True := by simp
theorem wrap_in (n : Int) (h1 : -9223372036854775808 ≤ n) (h2 : n ≤ 9223372036854775807) : IntKind.i64.wrap n = n := by rw [IntKind.wrap_i64]; omega
theorem look_n (i : Nat) : look [] i = .undef := rfl
theorem look_c (k i : Nat) (x : AV) (r : List (Nat × AV)) : look ((k, x) :: r) i = if k = i then x else look r i := rfl
theorem lookC_n (i : Nat) : lookC [] i = .dead := rfl
theorem lookC_c (k i : Nat) (x : Chunk) (r : List (Nat × Chunk)) : lookC ((k, x) :: r) i = if k = i then x else lookC r i := rfl
end Go.Proofs.Ytdkmndimmpilaaa
namespace Go.Proofs.Ytdkmndimmpilaaa
set_option linter.all false
open Go.RowKit
def Els {α : Type} (w : World) (B : Nat) (a : Option Addr) (sz : Nat) (enc : α → List Value) (xs : List α) : Prop :=
 xs = [] ∨ ∃ b o, a = some ⟨b, o, none⟩ ∧ b < B ∧ ∀ i j v, (xs[i]?).bind (fun x => (enc x)[j]?) = some v → w.cell? ⟨b, o + (i * sz + j), none⟩ = some v
theorem Els.nil {α : Type} (w : World) (B : Nat) (a : Option Addr) (sz : Nat) (enc : α → List Value) : Els w B a sz enc [] := .inl rfl
theorem Els.get {α : Type} {w : World} {B : Nat} {a : Option Addr} {sz : Nat} {enc : α → List Value} {xs : List α} (h : Els w B a sz enc xs) (i : Nat) (hi : i < xs.length) :
 ∃ b o, a = some ⟨b, o, none⟩ ∧ b < B ∧ ∀ j v, (enc xs[i])[j]? = some v → w.cell? ⟨b, o + (i * sz + j), none⟩ = some v := by
 rcases h with rfl | ⟨b, o, ha, hb, hc⟩
 ·simp at hi
 ·exact ⟨b, o, ha, hb, fun j v hv => hc i j v (by simp [hi, hv])⟩
theorem Els.mono {α : Type} {w : World} {B B' : Nat} {a : Option Addr} {sz : Nat} {enc : α → List Value} {xs : List α} (h : Els w B a sz enc xs) (hB : B ≤ B') : Els w B' a sz enc xs := by
 rcases h with rfl | ⟨b, o, ha, hlt, hc⟩
 ·exact .inl rfl
 ·exact .inr ⟨b, o, ha, by omega, hc⟩
def e64 (n : Nat) : List Value := [.int .u64 n]
def e32 (n : Nat) : List Value := [.int .u32 n]
def ei64 (n : Int) : List Value := [.int .i64 n]
theorem Els.u64 {w : World} {B : Nat} {a : Option Addr} {xs : List Nat} (h : Els w B a 1 e64 xs) (i : Nat) (hi : i < xs.length) :
 ∃ b o, a = some ⟨b, o, none⟩ ∧ b < B ∧ w.cell? ⟨b, o + i, none⟩ = some (.int .u64 (xs[i] : Nat)) := by
 obtain ⟨b, o, ha, hb, hc⟩ := h.get i hi
 exact ⟨b, o, ha, hb, by simpa using hc 0 _ rfl⟩
theorem Els.i64 {w : World} {B : Nat} {a : Option Addr} {xs : List Int} (h : Els w B a 1 ei64 xs) (i : Nat) (hi : i < xs.length) :
 ∃ b o, a = some ⟨b, o, none⟩ ∧ b < B ∧ w.cell? ⟨b, o + i, none⟩ = some (.int .i64 xs[i]) := by
 obtain ⟨b, o, ha, hb, hc⟩ := h.get i hi
 exact ⟨b, o, ha, hb, by simpa using hc 0 _ rfl⟩
theorem Els.u32 {w : World} {B : Nat} {a : Option Addr} {xs : List Nat} (h : Els w B a 1 e32 xs) (i : Nat) (hi : i < xs.length) :
 ∃ b o, a = some ⟨b, o, none⟩ ∧ b < B ∧ w.cell? ⟨b, o + i, none⟩ = some (.int .u32 (xs[i] : Nat)) := by
 obtain ⟨b, o, ha, hb, hc⟩ := h.get i hi
 exact ⟨b, o, ha, hb, by simpa using hc 0 _ rfl⟩
theorem flatMap_get {α β : Type} (enc : α → List β) (sz : Nat) : ∀ (xs : List α), (∀ x ∈ xs, (enc x).length = sz) → ∀ i j, j < sz → (xs.flatMap enc)[i * sz + j]? = (xs[i]?).bind fun x => (enc x)[j]? := by
 intro xs
 induction xs with
 | nil => intro _ i j _; simp
 | cons x xs ih =>
  intro h i j hj
  have hx := h x (by simp)
  cases i with
  | zero => simp [List.flatMap_cons, List.getElem?_append, hx, hj]
  | succ i =>
   have e : (i + 1) * sz + j = sz + (i * sz + j) := by rw [Nat.add_mul]; omega
   rw [List.flatMap_cons, List.getElem?_append_right (by omega), e, hx, Nat.add_sub_cancel_left, ih (fun y hy => h y (by simp [hy])) i j hj]
   simp
theorem flatMap_len {α β : Type} (enc : α → List β) (sz : Nat) (xs : List α) (h : ∀ x ∈ xs, (enc x).length = sz) : (xs.flatMap enc).length = xs.length * sz := by
 induction xs with
 | nil => simp
 | cons x xs ih => rw [List.flatMap_cons, List.length_append, h x (by simp), ih fun y hy => h y (by simp [hy]), List.length_cons, Nat.add_mul]; omega
theorem mul_div_lt {j sz n : Nat} (h : j < n * sz) : j / sz < n ∧ j / sz * sz + j % sz = j ∧ j % sz < sz := by
 have hs : 0 < sz := by
  rcases Nat.eq_zero_or_pos sz with rfl | h0
  ·simp at h
  ·exact h0
 exact ⟨(Nat.div_lt_iff_lt_mul hs).2 h, by rw [Nat.mul_comm]; exact Nat.div_add_mod j sz, Nat.mod_lt _ hs⟩
theorem Els.news {α : Type} {w : World} {B : Nat} {a : Option Addr} {sz : Nat} {enc : α → List Value} {xs : List α} (h : Els w B a sz enc xs) (he : ∀ x ∈ xs, (enc x).length = sz) :
 ∀ ad, a = some ad → ∀ j u, (xs.flatMap enc)[j]? = some u → w.cell? (ad.add j) = some u := by
 intro ad had j u hu
 rcases h with rfl | ⟨b, o, ha, hb, hc⟩
 ·simp at hu
 ·rw [ha] at had
  obtain rfl := Option.some.inj had
  have hj : j < xs.length * sz := by rw [← flatMap_len enc sz xs he]; exact (List.getElem?_eq_some_iff.1 hu).1
  obtain ⟨h1, h2, h3⟩ := mul_div_lt hj
  have := hc (j / sz) (j % sz) u (by rw [← flatMap_get enc sz xs he _ _ h3, h2]; exact hu)
  rw [h2] at this
  rw [Addr.add_lit]; exact this
theorem Els.take {α : Type} {w : World} {B : Nat} {a : Option Addr} {sz : Nat} {enc : α → List Value} {xs : List α} (h : Els w B a sz enc xs) (m : Nat) : Els w B a sz enc (xs.take m) := by
 rcases h with rfl | ⟨b, o, ha, hb, hc⟩
 ·exact .inl (by simp)
 ·refine .inr ⟨b, o, ha, hb, fun i j v hv => ?_⟩
  rw [List.getElem?_take] at hv
  split at hv
  ·exact hc i j v hv
  ·simp at hv
theorem Els.drop {α : Type} {w : World} {B b o : Nat} {sz : Nat} {enc : α → List Value} {xs : List α} (h : Els w B (some ⟨b, o, none⟩) sz enc xs) (m : Nat) : Els w B (some ⟨b, o + m * sz, none⟩) sz enc (xs.drop m) := by
 rcases h with rfl | ⟨b', o', ha, hb, hc⟩
 ·exact .inl (by simp)
 ·simp only [Option.some.injEq, Addr.mk.injEq, and_true] at ha
  obtain ⟨rfl, rfl⟩ := ha
  refine .inr ⟨b, o + m * sz, rfl, hb, fun i j v hv => ?_⟩
  rw [List.getElem?_drop] at hv
  have := hc (m + i) j v hv
  rwa [Nat.add_mul, show o + (m * sz + i * sz + j) = o + m * sz + (i * sz + j) from by omega] at this
def ixOf {α : Type} (p : α → Bool) (xs : List α) : Int := match xs.findIdx? p with | none => -1 | some i => (i : Int)
theorem ixOf_hit {α : Type} (p : α → Bool) (xs : List α) (k : Nat) (hk : k < xs.length) (h : p xs[k] = true) (h0 : ∀ j (hj : j < xs.length), j < k → p xs[j] = false) : ixOf p xs = k := by
 have : xs.findIdx? p = some k := List.findIdx?_eq_some_iff_getElem.2 ⟨hk, h, fun j hj => by rw [h0 j (by omega) hj]; decide⟩
 rw [ixOf, this]
theorem ixOf_miss {α : Type} (p : α → Bool) (xs : List α) (h0 : ∀ j (hj : j < xs.length), p xs[j] = false) : ixOf p xs = -1 := by
 have : xs.findIdx? p = none := by
  rw [List.findIdx?_eq_none_iff]
  intro x hx
  obtain ⟨j, hj, rfl⟩ := List.mem_iff_getElem.1 hx
  exact h0 j hj
 rw [ixOf, this]
end Go.Proofs.Ytdkmndimmpilaaa
namespace Go.Proofs.Ytdkmndimmpilaaa
set_option linter.all false
open Go.RowKit Go.ChangeShapes Go.WideShapes Go.ChangeAt
def Opens (P : Program) (T sz : Nat) (w : World) {α : Type} (enc : α → List Value) (ok : α → Prop) : Prop :=
 ∀ (H : Type) (eH : TypeId × Value → H) (fuel : Nat) (cs : List Value) (y : DataW H × List MemPlace), DataW.trod eH P w 0 (fun _ => true) true fuel T cs = some y → (∀ n ∈ y.1.weights P T, n ≤ reachBytes) → ∃ x : α, cs = enc x ∧ cs.length = sz ∧ ok x
theorem Opens.int {P : Program} {T : Nat} {w : World} {k : IntKind} (h : P.underlying T = some (.int k)) : Opens P T 1 w (fun n : Int => [.int k n]) (fun n => (Lit.int k n).wf = true) := by
 intro H eH fuel cs y hy _
 obtain ⟨n, rfl, _, hw⟩ := DataW.trod_int h hy
 exact ⟨n, rfl, rfl, hw⟩
theorem wf_i64' {n : Int} (h : (Lit.int .i64 n).wf = true) : -9223372036854775808 ≤ n ∧ n ≤ 9223372036854775807 := by
 simpa [Lit.wf, IntKind.min, IntKind.max, IntKind.signed, IntKind.bits] using h
theorem wf_u64' {n : Int} (h : (Lit.int .u64 n).wf = true) : 0 ≤ n ∧ n ≤ 18446744073709551615 := by
 simpa [Lit.wf, IntKind.min, IntKind.max, IntKind.signed, IntKind.bits] using h
theorem wf_u32' {n : Int} (h : (Lit.int .u32 n).wf = true) : 0 ≤ n ∧ n ≤ 4294967295 := by
 simpa [Lit.wf, IntKind.min, IntKind.max, IntKind.signed, IntKind.bits] using h
theorem Opens.i64 {P : Program} {T : Nat} {w : World} (h : P.underlying T = some (.int .i64)) : Opens P T 1 w ei64 (fun n => -9223372036854775808 ≤ n ∧ n ≤ 9223372036854775807) := by
 intro H eH fuel cs y hy _
 obtain ⟨n, rfl, _, hw⟩ := DataW.trod_int h hy
 exact ⟨n, rfl, rfl, wf_i64' hw⟩
theorem Opens.u64 {P : Program} {T : Nat} {w : World} (h : P.underlying T = some (.int .u64)) : Opens P T 1 w e64 (fun n => n < 18446744073709551616) := by
 intro H eH fuel cs y hy _
 obtain ⟨n, rfl, _, hw⟩ := DataW.trod_int h hy
 have := wf_u64' hw
 exact ⟨n.toNat, by simp only [e64]; congr 2; omega, rfl, by omega⟩
theorem Opens.u32 {P : Program} {T : Nat} {w : World} (h : P.underlying T = some (.int .u32)) : Opens P T 1 w e32 (fun n => n < 4294967296) := by
 intro H eH fuel cs y hy _
 obtain ⟨n, rfl, _, hw⟩ := DataW.trod_int h hy
 have := wf_u32' hw
 exact ⟨n.toNat, by simp only [e32]; congr 2; omega, rfl, by omega⟩
def eBool (b : Bool) : List Value := [.bool b]
theorem Opens.bool {P : Program} {T : Nat} {w : World} (h : P.underlying T = some .bool) : Opens P T 1 w eBool (fun _ => True) := by
 intro H eH fuel cs y hy _
 obtain ⟨b, rfl, _⟩ := DataW.trod_bool h hy
 exact ⟨b, rfl, rfl, trivial⟩
def eStr (s : ByteArray) : List Value := [.string s]
theorem Opens.str {P : Program} {T : Nat} {w : World} (h : P.underlying T = some .string) : Opens P T 1 w eStr (fun s => s.size ≤ 140737488351232) := by
 intro H eH fuel cs y hy hw
 obtain ⟨s, rfl, rfl, hs⟩ := DataW.trod_string h hy
 exact ⟨s, rfl, rfl, (by
  have h := hw s.data.toList.length (List.mem_singleton.2 rfl)
  have e : s.data.toList.length = s.size := Array.length_toList
  rw [e] at h
  exact h)⟩
structure SL (α : Type) where
 a : Option Addr
 c : Nat
 xs : List α
def SL.val {α : Type} (s : SL α) : Value := .slice s.a s.xs.length s.c
def SL.enc {α : Type} (s : SL α) : List Value := [s.val]
structure SLok {α : Type} (w : World) (B : Nat) (sz bts : Nat) (enc : α → List Value) (ok : α → Prop) (s : SL α) : Prop where
 els : Els w B s.a sz enc s.xs
 each : ∀ x ∈ s.xs, ok x ∧ (enc x).length = sz
 cap : s.xs.length ≤ s.c
 max : s.c ≤ maxLen
 reach : s.c * bts ≤ 140737488351232
 nil : s.a = none → s.xs.length = 0 ∧ s.c = 0
theorem Opens.slice {P : Program} {T E sz bts : Nat} {w : World} {α : Type} {enc : α → List Value} {ok : α → Prop} (hT : P.underlying T = some (.slice E)) (hc : P.cellsOf E = sz) (hsz : 0 < sz) (hby : P.bytesOf E = bts) (hE : Opens P E sz w enc ok) :
 Opens P T 1 w (SL.enc (α := α)) (SLok w w.heap.size sz bts enc ok) := by
 intro H eH fuel cs y hy hw
 rcases Deep.open_slice hT hy with ⟨rfl, _⟩ | ⟨a, len, cap, m, n, D, Pl, rfl, _, hl, hm, hmm, hy2, hx⟩
 ·exact ⟨⟨none, 0, []⟩, rfl, rfl, ⟨.inl rfl, by simp, Nat.le_refl _, Nat.zero_le _, by simp, fun _ => ⟨rfl, rfl⟩⟩⟩
 ·simp only [if_true] at hmm
  subst hmm
  subst hy2
  have hreach : m * bts ≤ 140737488351232 := by
   have h := hw ((len + (m - len)) * P.bytesOf E) (by simp [DataW.weights, hT])
   rw [show len + (m - len) = m from by omega, hby] at h
   exact h
  have hwe : ∀ i, i < len → ∀ k ∈ (D i).weights P E, k ≤ reachBytes := by
   intro i hi k hk
   refine hw k ?_
   simp only [DataW.weights, hT, List.mem_cons, List.mem_append]
   refine .inr (.inl ?_)
   have key : ∀ (l : List (DataW H)), D i ∈ l → k ∈ DataW.weightsAll P E l := by
    intro l
    induction l with
    | nil => intro h; simp at h
    | cons d l ih =>
     intro h
     simp only [DataW.weightsAll, List.mem_append]
     rcases List.mem_cons.1 h with rfl | h
     ·exact .inl hk
     ·exact .inr (ih h)
   exact key _ (List.mem_map.2 ⟨i, List.mem_range.2 hi, rfl⟩)
  have hx2 : ∀ i, i < len → ∃ x : α, ok x ∧ (enc x).length = sz ∧ ∀ j, j < sz → w.cell? ((a.add (i * sz)).add j) = (enc x)[j]? := by
   intro i hi
   obtain ⟨cs', h1, h2⟩ := hx i (by omega)
   obtain ⟨x, rfl, hlen, hok⟩ := hE H eH n cs' _ h2 (hwe i hi)
   obtain ⟨_, _, h3⟩ := World.cells?_some h1
   rw [hc] at h3
   exact ⟨x, hok, hlen, h3⟩
  by_cases h0 : len = 0
  ·subst h0
   exact ⟨⟨some a, m, []⟩, rfl, rfl, ⟨.inl rfl, by simp, Nat.zero_le _, hm, hreach, fun h => by simp at h⟩⟩
  ·obtain ⟨x0, _⟩ := hx2 0 (by omega)
   have : Inhabited α := ⟨x0⟩
   obtain ⟨f, hf⟩ := Deep.choose_lt (p := fun i x => ok x ∧ (enc x).length = sz ∧ ∀ j, j < sz → w.cell? ((a.add (i * sz)).add j) = (enc x)[j]?) hx2
   have hlen : ((List.range len).map f).length = len := by simp
   refine ⟨⟨some a, m, (List.range len).map f⟩, by simp [SL.enc, SL.val], rfl, ⟨?_, ?_, by simpa using hl, hm, hreach, fun h => by simp at h⟩⟩
   ·obtain ⟨_, hl0, hc0⟩ := hf 0 (by omega)
    have hcell := hc0 0 hsz
    rw [List.getElem?_eq_getElem (by omega)] at hcell
    simp only [Nat.zero_mul] at hcell
    have hadd0 : ((a.add 0).add 0) = a := by simp [Addr.add]
    rw [hadd0] at hcell
    have hsp := World.cell?_spot hcell
    have hlt := World.block_lt_of_cell? w a hcell
    obtain ⟨b, o, sp⟩ := a
    simp only at hsp
    subst hsp
    refine .inr ⟨b, o, rfl, hlt, fun i j v hv => ?_⟩
    cases hxi : ((List.range len).map f)[i]? with
    | none => rw [hxi] at hv; simp at hv
    | some x =>
     rw [hxi] at hv
     have hi : i < len := by have := (List.getElem?_eq_some_iff.1 hxi).1; simpa using this
     have hfx : f i = x := by simpa [hi] using hxi
     obtain ⟨_, hl1, hc1⟩ := hf i hi
     have hj : j < sz := by
      have hv' : (enc x)[j]? = some v := by simpa using hv
      have := (List.getElem?_eq_some_iff.1 hv').1
      rw [← hfx, hl1] at this; exact this
     have := hc1 j hj
     rw [hfx] at this
     rw [Deep.add_add, Addr.add_lit] at this
     rw [this]; simpa using hv
   ·intro x hx
    simp only [List.mem_map, List.mem_range] at hx
    obtain ⟨i, hi, rfl⟩ := hx
    obtain ⟨h1, h2, _⟩ := hf i hi
    exact ⟨h1, h2⟩
theorem Opens.map {P : Program} {T sz : Nat} {w : World} {α β : Type} {enc : α → List Value} {ok : α → Prop} {enc' : β → List Value} {ok' : β → Prop} (h : Opens P T sz w enc ok) (f : α → β) (hf : ∀ x, enc' (f x) = enc x) (hok : ∀ x, ok x → ok' (f x)) : Opens P T sz w enc' ok' := by
 intro H eH fuel cs y hy hw
 obtain ⟨x, rfl, hl, ho⟩ := h H eH fuel cs y hy hw
 exact ⟨f x, (hf x).symm, hl, hok x ho⟩
def OpensF (P : Program) (w : World) (fs : List Field) (o sz : Nat) {α : Type} (enc : α → List Value) (ok : α → Prop) : Prop :=
 ∀ (H : Type) (eH : TypeId × Value → H) (fuel : Nat) (cs : List Value), cs.length = o + sz →
  (∀ f ∈ fs, ∃ y, DataW.trod eH P w 0 (fun _ => true) true fuel f.type ((cs.drop f.offset).take (P.cellsOf f.type)) = some y ∧ ∀ n ∈ y.1.weights P f.type, n ≤ reachBytes) → ∃ x : α, cs.drop o = enc x ∧ ok x
theorem OpensF.nil {P : Program} {w : World} {o : Nat} : OpensF P w [] o 0 (fun _ : Unit => []) (fun _ => True) := by
 intro H eH fuel cs hl _
 exact ⟨(), List.drop_eq_nil_of_le (by omega), trivial⟩
theorem OpensF.cons {P : Program} {w : World} {f : Field} {fs : List Field} {o n sz : Nat} {α β : Type} {enc : α → List Value} {ok : α → Prop} {enc' : β → List Value} {ok' : β → Prop}
 (ho : f.offset = o) (hn : P.cellsOf f.type = n) (h : Opens P f.type n w enc ok) (h' : OpensF P w fs (o + n) sz enc' ok') :
 OpensF P w (f :: fs) o (n + sz) (fun x : α × β => enc x.1 ++ enc' x.2) (fun x => ok x.1 ∧ ok' x.2) := by
 intro H eH fuel cs hl hall
 obtain ⟨y, hy, hw⟩ := hall f (by simp)
 rw [ho, hn] at hy
 obtain ⟨x, hx, _, hok⟩ := h H eH fuel _ y hy hw
 obtain ⟨x', hx', hok'⟩ := h' H eH fuel cs (by omega) (fun g hg => hall g (by simp [hg]))
 refine ⟨(x, x'), ?_, hok, hok'⟩
 show cs.drop o = enc x ++ enc' x'
 rw [← hx, ← hx', ← List.drop_drop, List.take_append_drop]
theorem Opens.struct {P : Program} {T sz : Nat} {w : World} {fs : Array Field} {α : Type} {enc : α → List Value} {ok : α → Prop} (hT : P.underlying T = some (.struct fs)) (hc : P.cellsOf T = sz) (h : OpensF P w fs.toList 0 sz enc ok) :
 Opens P T sz w enc ok := by
 intro H eH fuel cs y hy hw
 obtain ⟨xs, n, _, rfl, hl, hlen, hfs⟩ := DataW.trod_struct hT hy
 obtain ⟨x, hx, hok⟩ := h H eH n cs (by omega) (fun f hf => by
  obtain ⟨i, hi, he⟩ := List.getElem_of_mem hf
  have hi' : i < fs.size := by simpa using hi
  have hfi : fs[i]? = some f := by rw [Array.getElem?_eq_getElem hi']; simpa using he
  have := hfs i f hfi
  have hx : xs[i]? = some (xs[i]'(by omega)) := List.getElem?_eq_getElem (by omega)
  rw [hx] at this
  refine ⟨_, this, fun k hk => hw k ?_⟩
  simp only [DataW.weights, hT]
  refine DataW.weights_mem_each (j := i) (t := f.type) ?_ ?_ k hk
  ·rw [List.getElem?_map, Array.getElem?_toList, hfi]; rfl
  ·rw [List.getElem?_map, hx]; rfl)
 exact ⟨x, by simpa using hx, by omega, hok⟩
theorem Opens.arg {P : Program} {T sz : Nat} {w : World} {α : Type} {enc : α → List Value} {ok : α → Prop} (h : Opens P T sz w enc ok) {H : Type} {eH : TypeId × Value → H} {v : Value} {d : DataW H} {p : List MemPlace}
 (hT : DataW.Trod eH P w 0 (fun _ => true) true T v d p) {ts : List TypeId} {ds : List (DataW H)} (hz : (DataW.weightsEach P ts ds).all (· ≤ reachBytes) = true) (j : Nat) (h1 : ts[j]? = some T) (h2 : ds[j]? = some d) : ∃ x : α, v.cells.toList = enc x ∧ ok x := by
 obtain ⟨fuel, hf⟩ := hT
 obtain ⟨x, h1, _, h2⟩ := h H eH fuel _ _ hf (fun n hn => by
  have := List.all_eq_true.1 hz n (DataW.weights_mem_each h1 h2 n hn)
  simpa using this)
 exact ⟨x, h1, h2⟩
theorem arg_struct {P : Program} {w : World} {base t : Nat} {v : Value} {cs : List Value} {fs : Array Field} (h : Value.okWide P w .any base t v) (hs : P.underlying t = some (.struct fs)) (hc : v.cells.toList = cs) : v = .agg cs.toArray := by
 simp only [Value.okWide, hs] at h
 obtain ⟨cs', rfl, _⟩ := h
 subst hc
 simp [Value.cells]
end Go.Proofs.Ytdkmndimmpilaaa
namespace Go.Proofs.Ytdkmndimmpilaaa
set_option linter.all false
open Go.RowKit
theorem rel_c {w : World} {F : Nat → Prop} {b : Nat} : ∀ (ps : List PV) (vs : List Value) (o : Nat), vs.length = ps.length → (∀ (j : Nat) v, vs[j]? = some v → w.cell? ⟨b, o + j, none⟩ = some v) → (∀ (j : Nat) p u, ps[j]? = some p → vs[j]? = some u → RelP w F p u) → RelC w F b o ps
 | [], _, _, _, _, _ => by simp only [RelC]
 | p :: ps, [], _, h, _, _ => by simp at h
 | p :: ps, v :: vs, o, h, hc, hr => by
  simp only [RelC]
  refine ⟨⟨v, by have := hc 0 v rfl; simpa using this, hr 0 p v rfl rfl⟩, rel_c ps vs (o + 1) (by simpa using h) (fun j u hu => ?_) (fun j q u h1 h2 => hr (j + 1) q u h1 h2)⟩
  have := hc (j + 1) u hu
  rwa [show o + (j + 1) = o + 1 + j from by omega] at this
theorem rel_e {α : Type} {w : World} {F : Nat → Prop} {b sz : Nat} {enc : α → List Value} {pv : α → List PV} : ∀ (xs : List α) (o : Nat), (∀ i j v, (xs[i]?).bind (fun x => (enc x)[j]?) = some v → w.cell? ⟨b, o + (i * sz + j), none⟩ = some v) →
 (∀ x ∈ xs, (pv x).length = sz ∧ (enc x).length = sz ∧ ∀ (j : Nat) p u, (pv x)[j]? = some p → (enc x)[j]? = some u → RelP w F p u) → RelE w F b sz o (xs.map pv)
 | [], _, _, _ => by simp only [List.map_nil, RelE]
 | x :: xs, o, hc, hp => by
  simp only [List.map_cons, RelE]
  obtain ⟨h1, h2, h3⟩ := hp x (by simp)
  refine ⟨h1, rel_c (pv x) (enc x) o (by rw [h1, h2]) (fun j v hv => ?_) h3, rel_e xs (o + sz) (fun i j v hv => ?_) fun y hy => hp y (List.mem_cons_of_mem _ hy)⟩
  ·have := hc 0 j v (by simpa using hv); simpa using this
  ·have := hc (i + 1) j v (by simpa using hv)
   rwa [show o + ((i + 1) * sz + j) = o + sz + (i * sz + j) from by rw [Nat.succ_mul]; omega] at this
theorem rel_sl {α : Type} {w : World} {B sz bts : Nat} {enc : α → List Value} {ok : α → Prop} {s : SL α} {pv : α → List PV} (h : SLok w B sz bts enc ok s)
 (hp : ∀ x ∈ s.xs, ok x → (pv x).length = sz ∧ ∀ (j : Nat) p u, (pv x)[j]? = some p → (enc x)[j]? = some u → RelP w (· < B) p u) : RelP w (· < B) (.sl sz (s.xs.map pv)) s.val := by
 simp only [RelP]
 refine ⟨s.a, s.c, by simp [SL.val], by simpa using h.cap, h.max, ?_⟩
 rcases h.els with h1 | ⟨b, o, ha, hb, hc⟩
 ·exact .inl (by rw [h1]; rfl)
 ·refine .inr ⟨b, o, ha, hb, rel_e s.xs o hc fun x hx => ?_⟩
  obtain ⟨h1, h2⟩ := h.each x hx
  obtain ⟨h3, h4⟩ := hp x hx h1
  exact ⟨h3, h2, h4⟩
theorem spec_law {P : Program} {f : FuncId} {args : List AV} (S : Spec P f args [] (B true) []) {w : World} {vs : List Value} (hr : RelL (· < 0) w (· < w.heap.size) (fun _ => none) args vs) :
 Calls P f vs.toArray w fun e w' => e = .returned (.bool true) ∧ Below w.heap.size w w' := by
 have M : MemOk w (inB fun _ => none) (· < ([] : List Chunk).length) (· < w.heap.size) (fun _ => none) (nth []) w :=
  ⟨Nat.le_refl _, rfl, rfl, rfl, fun _ _ _ => rfl, fun _ h => h, fun _ _ h => by simp at h, fun _ h => absurd rfl h, fun _ _ _ _ _ h => by simp at h, fun _ _ _ h => by simp at h⟩
 refine (S.2.2 w (· < w.heap.size) (fun _ => none) vs M hr).mono ?_
 rintro e w' ⟨v, F', β', rfl, M', hv, _⟩
 refine ⟨by rw [relB.1 hv], M'.os, M'.tape, M'.output, M'.size, fun b hb => M'.frame b hb ?_⟩
 rintro ⟨i, bd, h, _⟩
 simp at h
theorem relL_nil {U F : Nat → Prop} {β : Nat → Option Bind} {w : World} : RelL U w F β [] [] := by simp only [RelL]
theorem relL_cons {U F : Nat → Prop} {β : Nat → Option Bind} {w : World} {x : AV} {xs : List AV} {v : Value} {vs : List Value} (h1 : RelA U w F β x v) (h2 : RelL U w F β xs vs) : RelL U w F β (x :: xs) (v :: vs) := by
 simp only [RelL]; exact ⟨v, vs, rfl, h1, h2⟩
theorem relA_agg {U F : Nat → Prop} {β : Nat → Option Bind} {w : World} {xs : List AV} {vs : List Value} (h : RelL U w F β xs vs) (h1 : ∀ x ∈ vs, x.oneCell' = true) : RelA U w F β (.agg xs) (.agg vs.toArray) := by
 simp only [RelA]; exact ⟨vs.toArray, rfl, by simpa using h, by simpa using h1⟩
theorem relA_c {U F : Nat → Prop} {β : Nat → Option Bind} {w : World} {p : PV} {v : Value} (h : RelP w F p v) : RelA U w F β (.c p) v := by simp only [RelA]; exact h
theorem relP_v {F : Nat → Prop} {w : World} {v : Value} (h : v.oneCell' = true) : RelP w F (.v v) v := by simp [RelP, h]
end Go.Proofs.Ytdkmndimmpilaaa
namespace Go.Proofs.Ytdkmndimmpilaaa
set_option linter.all false
open Go.RowKit
theorem Conc.ghost {H : Hist} {s : St} {F F' : Nat → Prop} {β β' : Nat → Option Bind} {a : Act} {w : World} (C : Conc H s F β a w) {h' : List (Nat × Chunk)} {n' : Nat} (hn : s.n ≤ n') (M : MemOk H.W H.N (· < n') F' β' (lookC h') w) (E : Ext (· < s.n) F β w (· < n') F' β' w)
 (hg : ∀ b, F' b → F b ∨ ∃ i bd, β i = some bd ∧ bd.has b) : Conc H ⟨s.t, h', n'⟩ F' β' a w := by
 refine ⟨fun t => RelA.mono E _ _ (C.t t), M, C.nt, C.d.mono E.f, fun b hb => (E.f b (C.f b hb)).1, fun b hb => ?_, fun i bd hi hb => ?_, Nat.le_trans C.k hn⟩
 ·rcases hg b hb with h | ⟨i, bd, h1, h2⟩
  ·exact C.g b h
  ·exact .inr (C.m.off i bd b h1 h2).2.2
 ·obtain ⟨bs, h1⟩ := E.e i bd (Nat.lt_of_lt_of_le hi C.k) hb
  exact C.e i ⟨_, _, _, _, bs⟩ hi h1
theorem MemOk.here' {W : World} {N U F : Nat → Prop} {β : Nat → Option Bind} {h : Nat → Chunk} {w : World} (M : MemOk W N U F β h w) {id : Nat} {c : Chunk} (hc : h id = c) (hd : c ≠ .dead) : ∃ bd, β id = some bd ∧ ChOk U w F β bd c := M.get (fun _ _ => rfl) hc hd
theorem To.nst {k : Nat} {s : St} (id e sz c e2 sz2 : Nat) (xs : List (List PV)) (hc : lookC s.h id = .row e sz xs) (hcs : c < sz) (hx : ∀ x ∈ xs, x[c]? = some (.v (.slice none 0 0))) :
 ToK k s ⟨s.t, (id, .nst e sz c e2 sz2 xs (List.replicate xs.length []) none) :: s.h, s.n⟩ := by
 intro H F β a w hk C
 obtain ⟨bd, hb, q1, q2, q3, q4⟩ := C.m.here' hc (by simp)
 have hU := C.m.used _ _ hb
 obtain ⟨S1, S2⟩ := C.m.step (w' := w) (h' := lookC ((id, .nst e sz c e2 sz2 xs (List.replicate xs.length []) none) :: s.h)) (β' := β) (F' := F) (U' := (· < s.n)) (fun i => i = id)
  (fun i hi => rfl) (fun i hi => by simp only [lookC, if_neg (Ne.symm hi)]) rfl rfl rfl (Nat.le_refl _) (fun _ _ _ => rfl) (fun _ h => h) (fun _ h => h) (fun b hb => ⟨C.m.fin b hb, .inl hb⟩)
  (fun i bd' _ _ hb' => ⟨_, hb'⟩)
  (fun i bd' hi hb' => by
   subst hi
   refine ⟨hU, fun b hbb => ?_⟩
   have := C.m.off _ _ b hb' hbb
   exact ⟨this.2.1, this.1, .inr ⟨i, bd', rfl, hb', hbb⟩⟩)
  (fun i j _ _ _ hi hj _ _ _ _ => by rw [hi, hj])
  (fun E i hi _ => by
   subst hi
   refine ⟨bd, hb, ?_⟩
   simp only [lookC, if_true]
   refine ⟨⟨q1.1, by rw [q1.2]; simp⟩, q2, by simp, hcs, q3, ?_⟩
   rcases q4 with ⟨h1, h2, h3⟩ | ⟨g, cap, cur, h5, h6, h7, h8, h9, h10, hE⟩
   ·exact .inl ⟨h1, h2, h3, rfl⟩
   ·refine .inr ⟨g, cap, cur, h5, h6, h7, h8, h9, h10, by rw [q1.2]; simp, ?_⟩
    have cel : ∀ i x, xs[i]? = some x → w.cell? ⟨g, i * sz + c, none⟩ = some (.slice none 0 0) := by
     intro i x hxi
     obtain ⟨_, hC⟩ := hE.at i x hxi
     obtain ⟨u, hu, hr⟩ := hC.at c _ (hx x (List.mem_of_getElem? hxi))
     simp only [RelP] at hr
     rw [Nat.zero_add] at hu
     rw [hu, hr.1]
    refine ⟨fun i x y hxi hyi j p hp => ?_, fun i i' b o o' n n' k1 k2 l1 l2 _ _ c1 _ => ?_, fun i id' ho => by simp at ho⟩
    ·obtain ⟨_, hC⟩ := hE.at i x hxi
     obtain ⟨u, hu, hr⟩ := hC.at j p hp
     refine ⟨u, by simpa using hu, ?_⟩
     unfold NCell
     simp only [opAt]
     split
     ·rename_i hj
      subst hj
      have := cel i x hxi
      rw [Nat.zero_add, this] at hu
      cases hu
      exact .inl ⟨rfl, (List.eq_of_mem_replicate (List.mem_of_getElem? hyi))⟩
     ·exact hr
    ·rw [cel i xs[i] (by simp [l1])] at c1
     simp at c1)
 exact ⟨F, β, C.ghost (Nat.le_refl _) S1 S2 fun b hb => .inl hb⟩
theorem To.open {k : Nat} {s : St} (id i e sz c e2 sz2 : Nat) (xs : List (List PV)) (ys : List (List (List PV))) (hc : lookC s.h id = .nst e sz c e2 sz2 xs ys none) (hi : i < xs.length) :
 ToK k s ⟨s.t, (id, .nst e sz c e2 sz2 xs ys (some (i, s.n))) :: (s.n, .row e2 sz2 (ys.getD i [])) :: s.h, s.n + 1⟩ := by
 intro H F β a w hk C
 obtain ⟨bd, hb, q1, q2, q3, q4, q5, q6⟩ := C.m.here' hc (by simp)
 have hU := C.m.used _ _ hb
 have hne : id ≠ s.n := Nat.ne_of_lt hU
 have hb0 : ∀ bd, β s.n ≠ some bd := fun bd hb => absurd (C.m.used _ bd hb) (Nat.lt_irrefl _)
 rcases q6 with ⟨_, rfl, _⟩ | ⟨g, cap, cur, h5, h6, h7, h8, h9, h10, h11, h12⟩
 ·simp at hi
 have hyi : i < ys.length := by rw [q3]; exact hi
 have hxi : xs[i]? = some xs[i] := by simp [hi]
 have hyd : ys[i]? = some (ys.getD i []) := by simp [hyi]
 have hxl : xs[i].length = sz := q5 _ (List.getElem_mem hi)
 obtain ⟨u, hu, hn⟩ := h12.cells i _ _ hxi hyd c (xs[i][c]'(by rw [hxl]; exact q4)) (by simp)
 have hn : InnOk w F bd.bs e2 sz2 (ys.getD i []) u := by
  unfold NCell at hn
  simpa only [opAt, if_true] using hn
 -- the new piece
 obtain ⟨bn, rest, e1, e2', e3, e4, e5, e6⟩ : ∃ (bn : Bind) (rest : List Nat), bn.v = u ∧ ChOk (· < s.n + 1) w F (updB (updB β id (some ⟨bd.v, bd.b, bd.n, bd.sz, rest⟩)) s.n (some bn)) bn (.row e2 sz2 (ys.getD i [])) ∧ (∀ b, bn.has b → b ∈ bd.bs ∧ b ∉ rest) ∧ (∀ b, b ∈ rest → b ∈ bd.bs) ∧
  (∀ b, b ∈ bd.bs → (∀ o n q, u ≠ .slice (some ⟨b, o, none⟩) n q) → b ∈ rest) ∧ bn.bs = [] := by
  rcases hn with ⟨rfl, hy⟩ | ⟨g2, cap2, cur2, rfl, k2, k3, k4, k5, k6, k7⟩
  ·refine ⟨⟨.slice none 0 0, none, 0, sz2, []⟩, bd.bs, rfl, ?_, fun b hbb => by have := Bind.has_nil hbb; simp at this, fun b h => h, fun b h _ => h, rfl⟩
   rw [hy]
   exact ⟨⟨rfl, rfl⟩, rfl, by simp, .inl ⟨rfl, rfl, rfl⟩⟩
  ·refine ⟨⟨.slice (some ⟨g2, 0, none⟩) (ys.getD i []).length cap2, some g2, (ys.getD i []).length, sz2, []⟩, bd.bs.filter (fun b => !(b == g2)), rfl, ?_, fun b hbb => ?_, fun b h => (List.mem_filter.1 h).1, fun b h hno => ?_, rfl⟩
   ·refine ⟨⟨rfl, rfl⟩, rfl, fun cs hcs => ?_, .inr ⟨g2, cap2, cur2, rfl, rfl, k3, k4, k5, k6, k7⟩⟩
    obtain ⟨q, hq⟩ := List.getElem?_of_mem hcs
    exact (k7.at q cs hq).1
   ·have := Bind.has_nil hbb
    cases this
    exact ⟨k2, by simp⟩
   ·refine List.mem_filter.2 ⟨h, ?_⟩
    simp only [Bool.not_eq_true', beq_eq_false_iff_ne, ne_eq]
    rintro rfl
    exact hno _ _ _ rfl
 obtain ⟨S1, S2⟩ := C.m.step (w' := w) (h' := lookC ((id, .nst e sz c e2 sz2 xs ys (some (i, s.n))) :: (s.n, .row e2 sz2 (ys.getD i [])) :: s.h)) (β' := updB (updB β id (some ⟨bd.v, bd.b, bd.n, bd.sz, rest⟩)) s.n (some bn)) (F' := F) (U' := (· < s.n + 1)) (fun i => i = id ∨ i = s.n)
  (fun j hj => by simp only [not_or] at hj; simp only [updB, if_neg (Ne.symm hj.1), if_neg (Ne.symm hj.2)])
  (fun j hj => by simp only [not_or] at hj; simp only [lookC, if_neg (Ne.symm hj.1), if_neg (Ne.symm hj.2)])
  rfl rfl rfl (Nat.le_refl _) (fun _ _ _ => rfl) (fun _ h => Nat.lt_succ_of_lt h) (fun _ h => h) (fun b hb => ⟨C.m.fin b hb, .inl hb⟩)
  (fun j bd' hj hu hb' => by
   rcases hj with rfl | rfl
   ·simp only [updB, if_neg (Ne.symm hne), if_true, Option.some.injEq] at hb'
    subst hb'
    exact ⟨bd.bs, hb⟩
   ·exact absurd hu (Nat.lt_irrefl _))
  (fun j bd' hj hb' => by
   rcases hj with rfl | rfl
   ·simp only [updB, if_neg (Ne.symm hne), if_true, Option.some.injEq] at hb'
    subst hb'
    refine ⟨Nat.lt_succ_of_lt hU, fun b hbb => ?_⟩
    have hbb' : bd.has b := hbb.imp id (e4 b)
    have := C.m.off _ _ b hb hbb'
    exact ⟨this.2.1, this.1, .inr ⟨j, bd, .inl rfl, hb, hbb'⟩⟩
   ·simp only [updB, if_true, Option.some.injEq] at hb'
    subst hb'
    refine ⟨Nat.lt_succ_self _, fun b hbb => ?_⟩
    have hbb' : bd.has b := .inr (e3 b hbb).1
    have := C.m.off _ _ b hb hbb'
    exact ⟨this.2.1, this.1, .inr ⟨id, bd, .inl rfl, hb, hbb'⟩⟩)
  (fun j j' bj bj' b hj hj' hbj hbj' h1 h2 => by
   have key : ∀ b, (⟨bd.v, bd.b, bd.n, bd.sz, rest⟩ : Bind).has b → bn.has b → False := by
    intro b h1 h2
    obtain ⟨m1, m2⟩ := e3 b h2
    rcases h1 with h1 | h1
    ·rw [h5] at h1; cases h1; exact h11 m1
    ·exact m2 h1
   rcases hj with rfl | rfl <;> rcases hj' with rfl | rfl
   ·rfl
   ·simp only [updB, if_neg (Ne.symm hne), if_true, Option.some.injEq] at hbj hbj'
    subst hbj hbj'
    exact (key b h1 h2).elim
   ·simp only [updB, if_neg (Ne.symm hne), if_true, Option.some.injEq] at hbj hbj'
    subst hbj hbj'
    exact (key b h2 h1).elim
   ·rfl)
  (fun E j hj _ => by
   rcases hj with rfl | rfl
   ·refine ⟨⟨bd.v, bd.b, bd.n, bd.sz, rest⟩, by simp [updB, Ne.symm hne], ?_⟩
    simp only [lookC, if_true]
    refine ⟨⟨q1.1, fun b hbb => q1.2 b (e4 b hbb)⟩, q2, q3, q4, q5, .inr ⟨g, cap, cur, h5, h6, h7, h8, h9, h10, fun h => h11 (e4 g h), ?_⟩⟩
    refine ⟨fun i' x y hx hy j' p hp => ?_, fun i1 i2 b o1 o2 n1 n2 k1 k2 l1 l2 m1 m2 c1 c2 => h12.inj i1 i2 b o1 o2 n1 n2 k1 k2 l1 l2 rfl rfl c1 c2, fun i' id' ho => ?_⟩
    ·obtain ⟨u', hu', hn'⟩ := h12.cells i' x y hx hy j' p hp
     refine ⟨u', hu', ?_⟩
     unfold NCell at hn' ⊢
     split
     ·rename_i hj'
      subst hj'
      simp only [if_true, opAt] at hn' ⊢
      by_cases hii : i = i'
      ·subst hii
       rw [hu'] at hu
       cases hu
       rw [if_pos rfl]
       refine ⟨Nat.lt_succ_self _, hn'.one, fun bd' hbd' => ?_⟩
       simp only [updB, if_true, Option.some.injEq] at hbd'
       subst hbd'
       exact e1.symm
      ·rw [if_neg hii]
       rcases hn' with h | ⟨g3, cap3, cur3, rfl, k2, k3⟩
       ·exact .inl h
       ·refine .inr ⟨g3, cap3, cur3, rfl, e5 g3 k2 fun o n q hq => hii ?_, k3⟩
        subst hq
        exact h12.inj i i' g3 _ _ _ _ _ _ hi (List.getElem?_eq_some_iff.1 hx).1 rfl rfl hu hu'
     ·rename_i hj'
      rw [if_neg hj'] at hn'
      exact hn'
    ·simp only [Option.some.injEq, Prod.mk.injEq] at ho
     obtain ⟨rfl, rfl⟩ := ho
     exact ⟨Nat.lt_succ_self _, hi⟩
   ·refine ⟨bn, by simp [updB], ?_⟩
    simp only [lookC, if_neg hne, if_true]
    exact e2')
 exact ⟨F, _, C.ghost (Nat.le_succ _) S1 S2 fun b hb => .inl hb⟩
theorem To.close {k : Nat} {s : St} (id i j e sz c e2 sz2 : Nat) (xs : List (List PV)) (ys : List (List (List PV))) (zs : List (List PV)) (hc : lookC s.h id = .nst e sz c e2 sz2 xs ys (some (i, j))) (hj : lookC s.h j = .row e2 sz2 zs) :
 ToK k s ⟨s.t, (id, .nst e sz c e2 sz2 xs (ys.set i zs) none) :: (j, .dead) :: s.h, s.n⟩ := by
 intro H F β a w hk C
 obtain ⟨bd, hb, q1, q2, q3, q4, q5, q6⟩ := C.m.here' hc (by simp)
 obtain ⟨bj, hbj, z1, z2, z3, z4⟩ := C.m.here' hj (by simp)
 have hU := C.m.used _ _ hb
 have hUj := C.m.used _ _ hbj
 have hne : id ≠ j := by rintro rfl; rw [hc] at hj; simp at hj
 rcases q6 with ⟨_, _, _, h⟩ | ⟨g, cap, cur, h5, h6, h7, h8, h9, h10, h11, h12⟩
 ·simp at h
 have hi := (h12.opu _ _ rfl).2
 have hoth : ∀ i', opAt (some (i, j)) i' = none → ¬ i = i' := fun i' h hh => by simp [opAt, hh] at h
 have jb : ∀ b, bj.b = some b → b ∉ bd.bs ∧ b ≠ g := fun b hbb => ⟨fun h => hne (C.m.dis id j bd bj b hb hbj (.inr h) (.inl hbb)), fun h => hne (C.m.dis id j bd bj b hb hbj (.inl (h ▸ h5)) (.inl hbb))⟩
 let bd' : Bind := ⟨bd.v, bd.b, bd.n, bd.sz, bj.b.toList ++ bd.bs⟩
 have hin : ∀ b, b ∈ bj.b.toList → bj.b = some b := fun q hq => by
  cases hb : bj.b with
  | none => rw [hb] at hq; simp at hq
  | some q' => rw [hb] at hq; simp at hq; rw [hq]
 have hhas : ∀ b, bd'.has b → bd.has b ∨ bj.has b := by
  intro b hb
  rcases hb with hb | hb
  ·exact .inl (.inl hb)
  ·rcases List.mem_append.1 hb with hb | hb
   ·exact .inr (.inl (hin b hb))
   ·exact .inl (.inr hb)
 obtain ⟨S1, S2⟩ := C.m.step (w' := w) (h' := lookC ((id, .nst e sz c e2 sz2 xs (ys.set i zs) none) :: (j, .dead) :: s.h)) (β' := updB (updB β id (some bd')) j none) (F' := F) (U' := (· < s.n)) (fun i => i = id ∨ i = j)
  (fun j' hj => by simp only [not_or] at hj; simp only [updB, if_neg (Ne.symm hj.1), if_neg (Ne.symm hj.2)])
  (fun j' hj => by simp only [not_or] at hj; simp only [lookC, if_neg (Ne.symm hj.1), if_neg (Ne.symm hj.2)])
  rfl rfl rfl (Nat.le_refl _) (fun _ _ _ => rfl) (fun _ h => h) (fun _ h => h) (fun b hb => ⟨C.m.fin b hb, .inl hb⟩)
  (fun j' bd0 hj hu hb' => by
   rcases hj with rfl | rfl
   ·simp only [updB, if_neg (Ne.symm hne), if_true, Option.some.injEq] at hb'
    subst hb'
    exact ⟨bd.bs, hb⟩
   ·simp [updB] at hb')
  (fun j' bd0 hj hb' => by
   rcases hj with rfl | rfl
   ·simp only [updB, if_neg (Ne.symm hne), if_true, Option.some.injEq] at hb'
    subst hb'
    refine ⟨hU, fun b hbb => ?_⟩
    rcases hhas b hbb with h | h
    ·have := C.m.off _ _ b hb h
     exact ⟨this.2.1, this.1, .inr ⟨j', bd, .inl rfl, hb, h⟩⟩
    ·have := C.m.off _ _ b hbj h
     exact ⟨this.2.1, this.1, .inr ⟨j, bj, .inr rfl, hbj, h⟩⟩
   ·simp [updB] at hb')
  (fun j1 j2 b1 b2 b h1 h2 hb1 hb2 _ _ => by
   have only : ∀ i bi, (i = id ∨ i = j) → updB (updB β id (some bd')) j none i = some bi → i = id := by
    intro i bi hi hb
    rcases hi with rfl | rfl
    ·rfl
    ·simp [updB] at hb
   rw [only j1 b1 h1 hb1, only j2 b2 h2 hb2])
  (fun E j' hj' hd => by
   rcases hj' with rfl | rfl
   ·refine ⟨bd', by simp [updB, Ne.symm hne], ?_⟩
    simp only [lookC, if_true]
    have cin : InnOk w F bd'.bs e2 sz2 zs bj.v := by
     rcases z4 with ⟨_, m2, m3⟩ | ⟨g2, cap2, cur2, m1, m2, m3, m4, m5, m6, m7⟩
     ·exact .inl ⟨m3, m2⟩
     ·exact .inr ⟨g2, cap2, cur2, m2, by simp [bd', m1], m3, m4, m5, m6, m7⟩
    refine ⟨⟨q1.1, fun b hbb => ?_⟩, q2, by simp [q3], q4, q5, .inr ⟨g, cap, cur, h5, h6, h7, h8, h9, h10, fun h => ?_, ?_⟩⟩
    ·rcases List.mem_append.1 hbb with hbb | hbb
     ·have hbb := hin b hbb
      rcases z4 with ⟨m1, _⟩ | ⟨g2, cap2, cur2, m1, m2, m3, _⟩
      ·rw [hbb] at m1; simp at m1
      ·rw [hbb] at m1; cases m1; exact ⟨cur2, m3⟩
     ·exact q1.2 b hbb
    ·rcases List.mem_append.1 h with h | h
     ·exact (jb g (hin g h)).2 rfl
     ·exact h11 h
    ·have cellc : ∀ i', i' < xs.length → ∃ u, w.cell? ⟨g, i' * sz + c, none⟩ = some u ∧ ((i' = i ∧ u = bj.v) ∨ (¬ i = i' ∧ ∃ y, ys[i']? = some y ∧ InnOk w F bd.bs e2 sz2 y u)) := by
      intro i' hi'
      have hxl : xs[i'].length = sz := q5 _ (List.getElem_mem hi')
      have hyi : i' < ys.length := by rw [q3]; exact hi'
      obtain ⟨u, hu, hn⟩ := h12.cells i' _ _ (List.getElem?_eq_getElem hi') (List.getElem?_eq_getElem hyi) c (xs[i'][c]'(by rw [hxl]; exact q4)) (by simp)
      refine ⟨u, hu, ?_⟩
      unfold NCell at hn
      simp only [if_true, opAt] at hn
      by_cases hii : i = i'
      ·rw [if_pos hii] at hn
       exact .inl ⟨hii.symm, hn.2.2 bj hbj⟩
      ·rw [if_neg hii] at hn
       exact .inr ⟨hii, _, List.getElem?_eq_getElem hyi, hn⟩
     have hold : ∀ b o n q, bj.v = .slice (some ⟨b, o, none⟩) n q → bj.b = some b := by
      intro b o n q h
      rcases z4 with ⟨_, _, m3⟩ | ⟨g2, cap2, cur2, m1, m2, _⟩
      ·rw [m3] at h; simp at h
      ·rw [m2] at h
       simp only [Value.slice.injEq, Option.some.injEq, Addr.mk.injEq] at h
       rw [m1, h.1.1]
     refine ⟨fun i' x y hx hy j' p hp => ?_, fun i1 i2 b o1 o2 n1 n2 k1 k2 l1 l2 _ _ c1 c2 => ?_, fun i' id' ho => by simp at ho⟩
     ·have hi' : i' < xs.length := (List.getElem?_eq_some_iff.1 hx).1
      by_cases hjc : j' = c
      ·subst hjc
       obtain ⟨u, hu, hn⟩ := cellc i' hi'
       refine ⟨u, hu, ?_⟩
       unfold NCell
       simp only [if_true, opAt]
       rcases hn with ⟨rfl, rfl⟩ | ⟨hii, y', hy', hn⟩
       ·rw [List.getElem?_set_self (by rw [q3]; exact hi')] at hy
        cases hy
        exact cin
       ·rw [List.getElem?_set_ne hii, hy'] at hy
        cases hy
        exact hn.wide (fun b hb => ⟨hb, rfl⟩) fun q hq => ⟨List.mem_append.2 (.inr hq), rfl⟩
      ·have hyi : i' < ys.length := by rw [q3]; exact hi'
       obtain ⟨u, hu, hn⟩ := h12.cells i' x _ hx (List.getElem?_eq_getElem hyi) j' p hp
       refine ⟨u, hu, ?_⟩
       unfold NCell at hn ⊢
       rw [if_neg hjc] at hn ⊢
       exact hn
     ·obtain ⟨u1, hu1, hn1⟩ := cellc i1 l1
      obtain ⟨u2, hu2, hn2⟩ := cellc i2 l2
      rw [c1] at hu1; cases hu1
      rw [c2] at hu2; cases hu2
      rcases hn1 with ⟨rfl, e1⟩ | ⟨m1, y1, _, e1⟩ <;> rcases hn2 with ⟨rfl, e2'⟩ | ⟨m2, y2, _, e2'⟩
      ·rfl
      ·exact ((jb b (hold b _ _ _ e1.symm)).1 e2'.blk).elim
      ·exact ((jb b (hold b _ _ _ e2'.symm)).1 e1.blk).elim
      ·have o1' : opAt (some (i, j)) i1 = none := by simp [opAt, m1]
       have o2' : opAt (some (i, j)) i2 = none := by simp [opAt, m2]
       exact h12.inj i1 i2 b o1 o2 n1 n2 k1 k2 l1 l2 o1' o2' c1 c2
   ·exact (hd (by simp [lookC, hne])).elim)
 exact ⟨F, _, C.ghost (Nat.le_refl _) S1 S2 fun b hb => .inl hb⟩
def unN (c sz2 : Nat) (xs : List (List PV)) (ys : List (List (List PV))) : List (List PV) := List.zipWith (fun x y => x.set c (.sl sz2 y)) xs ys
theorem To.frzN {k : Nat} {s : St} (id e sz c e2 sz2 : Nat) (xs : List (List PV)) (ys : List (List (List PV))) (hc : lookC s.h id = .nst e sz c e2 sz2 xs ys none) :
 ToK k s ⟨s.t, (id, .row e sz (unN c sz2 xs ys)) :: s.h, s.n⟩ := by
 intro H F β a w hk C
 obtain ⟨bd, hb, q1, q2, q3, q4, q5, q6⟩ := C.m.here' hc (by simp)
 have hU := C.m.used _ _ hb
 let bd' : Bind := ⟨bd.v, bd.b, bd.n, bd.sz, []⟩
 have hF : ∀ b, b ∈ bd.bs → bd.b ≠ some b := by
  intro b hbb h
  rcases q6 with ⟨h1, _⟩ | ⟨g, cap, cur, h5, _, _, _, _, _, h11, _⟩
  ·rw [h] at h1; simp at h1
  ·rw [h] at h5; cases h5; exact h11 hbb
 obtain ⟨S1, S2⟩ := C.m.step (w' := w) (h' := lookC ((id, .row e sz (unN c sz2 xs ys)) :: s.h)) (β' := updB β id (some bd')) (F' := fun b => F b ∨ b ∈ bd.bs) (U' := (· < s.n)) (fun i => i = id)
  (fun i hi => by simp only [updB, if_neg (Ne.symm hi)]) (fun i hi => by simp only [lookC, if_neg (Ne.symm hi)]) rfl rfl rfl (Nat.le_refl _) (fun _ _ _ => rfl) (fun _ h => h) (fun _ h => .inl h)
  (fun b hbb => by
   rcases hbb with hbb | hbb
   ·exact ⟨C.m.fin b hbb, .inl hbb⟩
   ·exact ⟨(C.m.off _ _ b hb (.inr hbb)).2.1, .inr (.inr ⟨id, bd, rfl, hb, .inr hbb⟩)⟩)
  (fun i bd0 hi _ hb' => by
   subst hi
   simp only [updB, if_true, Option.some.injEq] at hb'
   subst hb'
   exact ⟨bd.bs, hb⟩)
  (fun i bd0 hi hb' => by
   subst hi
   simp only [updB, if_true, Option.some.injEq] at hb'
   subst hb'
   refine ⟨hU, fun b hbb => ?_⟩
   have hbb := Bind.has_nil hbb
   have := C.m.off _ _ b hb (.inl hbb)
   exact ⟨this.2.1, fun h => h.elim this.1 fun h => hF b h hbb, .inr ⟨i, bd, rfl, hb, .inl hbb⟩⟩)
  (fun i j _ _ _ hi hj _ _ _ _ => by rw [hi, hj])
  (fun E i hi _ => by
   subst hi
   refine ⟨bd', by simp [updB], ?_⟩
   simp only [lookC, if_true]
   have hl : (unN c sz2 xs ys).length = xs.length := by simp [unN, q3]
   refine ⟨⟨q1.1, rfl⟩, by rw [hl]; exact q2, fun cs hcs => ?_, ?_⟩
   ·obtain ⟨q, hq⟩ := List.getElem?_of_mem hcs
    unfold unN at hq
    rw [List.getElem?_zipWith] at hq
    cases h1 : xs[q]? with
    | none => rw [h1] at hq; simp at hq
    | some x => cases h2 : ys[q]? with
     | none => rw [h1, h2] at hq; simp at hq
     | some y =>
      rw [h1, h2] at hq
      simp only [Option.some.injEq] at hq
      subst hq
      rw [List.length_set]; exact q5 x (List.mem_of_getElem? h1)
   ·rcases q6 with ⟨h1, h2, h3, _⟩ | ⟨g, cap, cur, h5, h6, h7, h8, h9, h10, h11, h12⟩
    ·refine .inl ⟨h1, ?_, h3⟩
     exact List.eq_nil_of_length_eq_zero (by rw [hl, h2]; rfl)
    ·refine .inr ⟨g, cap, cur, h5, by rw [hl]; exact h6, h7, by rw [hl]; exact h8, h9, h10, RelE.of fun q cs hq => ?_⟩
     unfold unN at hq
     rw [List.getElem?_zipWith] at hq
     cases h1 : xs[q]? with
     | none => rw [h1] at hq; simp at hq
     | some x => cases h2 : ys[q]? with
      | none => rw [h1, h2] at hq; simp at hq
      | some y =>
       rw [h1, h2] at hq
       simp only [Option.some.injEq] at hq
       subst hq
       have hxl := q5 x (List.mem_of_getElem? h1)
       refine ⟨by rw [List.length_set]; exact hxl, RelC.of fun j p hp => ?_⟩
       have hjl : j < x.length := by have := (List.getElem?_eq_some_iff.1 hp).1; simpa using this
       obtain ⟨u, hu, hn⟩ := h12.cells q x y h1 h2 j x[j] (List.getElem?_eq_getElem hjl)
       refine ⟨u, by simpa using hu, ?_⟩
       unfold NCell at hn
       by_cases hj : j = c
       ·subst hj
        rw [List.getElem?_set_self hjl] at hp
        cases hp
        simp only [if_true, opAt] at hn
        simp only [RelP]
        rcases hn with ⟨rfl, rfl⟩ | ⟨g2, cap2, cur2, rfl, k2, k3, k4, k5, k6, k7⟩
        ·exact ⟨none, 0, rfl, Nat.le_refl _, Nat.zero_le _, .inl rfl⟩
        ·exact ⟨_, cap2, rfl, k4, k5, .inr ⟨g2, 0, rfl, .inr k2, RelE.mono E.f rfl _ _ _ k7⟩⟩
       ·rw [List.getElem?_set_ne (fun h => hj h.symm), List.getElem?_eq_getElem hjl] at hp
        cases hp
        rw [if_neg hj] at hn
        exact RelP.mono E.f _ _ hn)
 exact ⟨_, _, C.ghost (Nat.le_refl _) S1 S2 fun b hbb => hbb.imp (fun h => h) fun h => ⟨id, bd, hb, .inr h⟩⟩
theorem MemOk.wkc {W : World} {N U F : Nat → Prop} {β : Nat → Option Bind} {h h' : Nat → Chunk} {w : World} (M : MemOk W N U F β h w) (hw : ∀ id, WkC (h id) (h' id)) : MemOk W N U F β h' w := by
 refine ⟨M.size, M.os, M.tape, M.output, M.frame, M.fin, M.used, fun id hd => ?_, M.dis, M.off⟩
 have hn : h id ≠ .dead := by
  intro e
  have := hw id
  rw [e] at this
  cases hc : h' id <;> rw [hc] at this <;> first | exact hd hc | exact this
 obtain ⟨bd, hb, hk⟩ := M.ch id hn
 exact ⟨bd, hb, (hw id).run hk⟩
theorem Spec.keep {P : Program} {f : FuncId} {args : List AV} {r : AV} {e sz : Nat} {xs : List (List PV)} (S : Spec P f args [] r [.row e sz xs]) : Spec P f args [] r [.keep e sz xs] := by
 refine ⟨S.1, S.2.1, fun w F β vs M hv => (S.2.2 w F β vs M hv).mono ?_⟩
 rintro en w' ⟨v, F', β', h1, h2, h3⟩
 refine ⟨v, F', β', h1, h2.wkc fun id => ?_, h3⟩
 cases id with
 | zero => exact ⟨rfl, rfl, rfl⟩
 | succ n => exact trivial
end Go.Proofs.Ytdkmndimmpilaaa
namespace Go.Proofs.Ytdkmndimmpilaaa
set_option linter.all false
open Go.RowKit
theorem Spec.hand {P : Program} {f : FuncId} {args args' : List AV} {hs hs1 hs1' : List Chunk} {r : AV} (k : Nat) (S : Spec P f args' hs1 r hs1') (hk : k ≤ hs.length) (hk1 : hs1'.length = k) (hw : WkL (cvL (List.range k) (nth hs) args) args') (hh : hs1 = (List.range k).map fun id => cvC (List.range k) (nth hs) (nth hs id)) :
 Spec P f args hs r (hs1' ++ List.replicate (hs.length - k) .dead) := by
 obtain ⟨S0, _, S⟩ := S
 refine ⟨S0, by simp; omega, fun w F β vs M hv => ?_⟩
 have hl1 : hs1.length = k := by rw [hh]; simp
 have M1 := (cv_mem M (hT := nth hs) (fun _ _ => rfl) (List.range k) List.nodup_range).here
 have hv1 := hw.run (cvL_run M (hT := nth hs) (fun _ _ => rfl) (List.range k) args vs hv)
 rw [← hh] at M1
 rw [List.length_range] at M1 hv1
 rw [hl1] at S
 have sel : ∀ {i : Nat} {bd : Bind}, selB (List.range k) β i = some bd → i < k ∧ β i = some bd := by
  intro i bd h
  obtain ⟨id, h1, h2⟩ := selB_some h
  have hik : i < k := by have := (List.getElem?_eq_some_iff.1 h1).1; simpa using this
  rw [List.getElem?_range hik] at h1
  obtain rfl := Option.some.inj h1
  exact ⟨hik, h2⟩
 have hin : ∀ b, inB (selB (List.range k) β) b → inB β b := by
  rintro b ⟨i, bd, h1, h2⟩
  exact ⟨i, bd, (sel h1).2, h2⟩
 refine (S w _ _ vs M1 hv1).mono ?_
 rintro e w' ⟨v, F', β', rfl, M2, hr, hF, hF', hβ⟩
 rw [hk1] at M2 hr
 have E : Ext (· < k) F' β' w' (· < (hs1' ++ List.replicate (hs.length - k) Chunk.dead).length) F' (fun i => if i < k then β' i else none) w' :=
  ⟨fun i hi => by simp only [List.length_append, List.length_replicate]; omega, fun b hb => ⟨hb, rfl⟩, fun i bd hi hb => ⟨_, by simpa [hi] using hb⟩⟩
 have low : ∀ {i : Nat} {bd : Bind}, (if i < k then β' i else none) = some bd → i < k ∧ β' i = some bd := by
  intro i bd h
  by_cases hi : i < k
  ·rw [if_pos hi] at h; exact ⟨hi, h⟩
  ·rw [if_neg hi] at h; simp at h
 refine ⟨v, F', fun i => if i < k then β' i else none, rfl, ⟨M2.size, M2.os, M2.tape, M2.output, fun b hb hn => M2.frame b hb (fun h => hn (hin b h)), M2.fin, fun i bd hb => ?_, fun i hd => ?_, fun i j bi bj b hi hj h1 h2 => M2.dis i j bi bj b (low hi).2 (low hj).2 h1 h2, fun i bd b hb hbb => ?_⟩, RelA.mono E _ _ hr, fun b hb => hF b (.inl hb), fun b hb => ?_, fun i bd hi hb => ?_⟩
 ·exact E.u i (low hb).1
 ·have hik : i < k := by
   rcases Nat.lt_or_ge i k with h | h
   ·exact h
   ·exfalso
    apply hd
    unfold nth
    rw [List.getD_eq_getElem?_getD, List.getElem?_append_right (by omega), List.getElem?_replicate]
    split <;> rfl
  have e0 : nth (hs1' ++ List.replicate (hs.length - k) Chunk.dead) i = nth hs1' i := by
   unfold nth
   rw [List.getD_eq_getElem?_getD, List.getElem?_append_left (by omega), List.getD_eq_getElem?_getD]
  rw [e0] at hd ⊢
  obtain ⟨bd, h1, h2⟩ := M2.ch i hd
  exact ⟨bd, by rw [if_pos hik]; exact h1, ChOk.mono E (fun _ _ => rfl) h2⟩
 ·obtain ⟨k1, k2, k3⟩ := M2.off i bd b (low hb).2 hbb
  exact ⟨k1, k2, k3.imp id (hin b)⟩
 ·rcases hF' b hb with h1 | h1 | h1
  ·rcases h1 with h1 | ⟨id, bd, _, _, h2, h3⟩
   ·exact .inl h1
   ·exact .inr (.inr ⟨id, bd, h2, .inl h3⟩)
  ·exact .inr (.inl h1)
  ·exact .inr (.inr (hin b h1))
 ·obtain ⟨h1, h2⟩ := low hb
  obtain ⟨bs, h3⟩ := hβ i bd h1 h2
  exact ⟨bs, (sel h3).2⟩
theorem gcallT {P : Program} {c : Bool} {f : FuncId} {args : List AV} {φ : Prop} {h : Nat → Chunk} {m : Nat} {K : Eff → Prop} (hc : c = true) (hφ : φ) (k : CallG P f args h m K) : GCall P c f args φ h m K := .inr ⟨fun _ => ⟨hφ, k⟩, fun h => absurd (hc.symm.trans h) (by decide)⟩
theorem look_fz (Z : List Nat) (h : Nat → Chunk) : ∀ (l : List (Nat × AV)) (t : Nat), look (l.map fun p => (p.1, fz Z h p.2)) t = fz Z h (look l t)
 | [], t => by simp only [List.map_nil, look, fz]
 | (k, x) :: r, t => by
  simp only [List.map_cons, look]
  by_cases e : k = t
  ·rw [if_pos e, if_pos e]
  ·rw [if_neg e, if_neg e]; exact look_fz Z h r t
theorem To.frz {k : Nat} {s : St} (Z : List Nat) : ToK k s ⟨s.t.map fun p => (p.1, fz Z (lookC s.h) p.2), deadsOf Z ++ s.h, s.n⟩ := by
 intro H F β a w hk C
 have M := fz_mem C.m Z
 have e : lookC (deadsOf Z ++ s.h) = fzH Z (lookC s.h) := by
  rw [← upd_look, upd_deads]
 refine ⟨fzF Z F β, fzB Z β, fun t => ?_, by rw [e]; exact M, C.nt, C.d.more fun _ hb => .inl hb, fun b hb => .inl (C.f b hb), fun b hb => ?_, fun i bd hi hb => C.e i bd hi (fzB_some hb).2, C.k⟩
 ·simp only [look_fz]
  exact fz_run C.m (fun _ _ => rfl) Z _ _ (C.t t)
 ·rcases hb with h1 | ⟨id, bd, _, h2, h3⟩
  ·exact C.g b h1
  ·exact .inr (C.m.off id bd b h2 (.inl h3)).2.2
end Go.Proofs.Ytdkmndimmpilaaa
namespace Go.Proofs.Ytdkmndimmpilaaa
set_option linter.all false
open Go.RowKit
theorem retA {P : Program} {rs : List ResultVar} {r : AV} {s : St} {φ : Prop} {xs : List AV} (h : resAV P (look s.t) (lookC s.h) rs = some (φ, xs)) (hw : Wk (cv [] (lookC s.h) (oneV xs)) r) (hφ : φ := by repeat' (first | exact trivial | exact rfl | refine ⟨?_, ?_⟩)) : RetG P 0 rs r [] s := ret0 h hφ hw
theorem wkc {x y : AV} (h : Wk x y := by first | exact Wk.refl _ | exact Wk.nil _ | (refine Wk.tup ?_; repeat' (first | exact trivial | exact Wk.refl _ | exact Wk.nil _ | refine ⟨?_, ?_⟩ | (refine Wk.agg ?_)))) : Wk x y := h
theorem obA {a b : Prop} (h : b) (ha : a := by first | omega | decide | (simp; done) | (simp; omega) | (intro hh; refine ⟨hh, ?_⟩; omega) | (simp [mhas, mfind]; done) | (simp +contextual; done) | fail) : a ∧ b := ⟨ha, h⟩
theorem tdv {a b : Int} (h : 0 ≤ a) : a.tdiv b = a / b := Int.tdiv_eq_ediv_of_nonneg h
theorem tmd {a b : Int} (h : 0 ≤ a) : a.tmod b = a % b := Int.tmod_eq_emod_of_nonneg h
theorem xa {p : Prop} [Decidable p] : (decide p = true) = p := decide_eq_true_eq
theorem xb {p : Prop} [Decidable p] : decide p = false ↔ ¬ p := decide_eq_false_iff_not
theorem xc {b : Bool} : ((!b) = true) ↔ b = false := by cases b <;> simp
theorem xd {b : Bool} : ((!b) = false) ↔ b = true := by cases b <;> simp
theorem xe {a b : Bool} : (a || b) = true ↔ a = true ∨ b = true := by cases a <;> simp
theorem xf {a b : Bool} : (a && b) = true ↔ a = true ∧ b = true := by cases a <;> simp
theorem xg {a b : Bool} : (a || b) = false ↔ a = false ∧ b = false := by cases a <;> simp
theorem xh {a b : Bool} : (a && b) = false ↔ a = false ∨ b = false := by cases a <;> simp
theorem xi {a b : Int} : ¬ a < b ↔ b ≤ a := Int.not_lt
theorem xj {a b : Int} : ¬ a ≤ b ↔ b < a := Int.not_le
theorem xk {p q : Prop} : ¬ (p ∧ q) ↔ (p → ¬ q) := not_and
theorem xl {p q : Prop} : ¬ (p ∨ q) ↔ ¬ p ∧ ¬ q := not_or
attribute [push_cast] clearAV copyAV partOf invA awp awpL opW opWF opX opG ex4 ex3 nstEx nIdxAV nLenAV nLoadAV nStoreAV nAppAV nLitAV nsplit fz fzL inZ fzH deadsOf rowsA rowsL fzEff mapAV kty keyA intsA ex2 ex1 loadAV cellsAt valOf addO fieldAddrAV partAV fieldAV indexAddrAV indexAV bound sliceAV convAV lenAV minInts maxInts isPtr pickAV bsel_false bsel_true binAV intBin strBin eqAV eqCells eqVal nilP unAV slOf cellsOf toPV toPVs splice fillA plFs buildAV chunks sameO makeAV sliceLitAV storeAV rowOf appAV dstOk dstV gcond strip stripsT St.app putO look_n look_c lookC_n lookC_c getO ofV seqK blkK scoK nilCmp xorB opK drK lpK_n lpK_e lpK_r joinK_n joinK_e joinK_r argsT hsT RetQ I B S Op.operands Call.operands cv cvL ix ix.go cellP cvC up upL upC upsL upI drawL touch touch2 cellIds idsA idsL memN onlyC wk_self bool_imp cvT cvH hsW resAV oneV WkL WkC List.map_cons List.map_nil Option.toArray List.getElem?_cons_zero List.getElem?_cons_succ List.getElem?_nil List.drop_succ_cons List.drop_zero List.drop_nil List.take_succ_cons List.take_zero List.take_nil List.append_nil List.nil_append List.cons_append List.getElem?_toArray List.length_cons List.length_nil List.all_cons List.all_nil Bool.and_true Bool.true_and Bool.and_self Bool.and_false Bool.false_and Bool.or_false Bool.or_true Bool.true_or Bool.false_or Option.map_some Option.map_none Option.bind_some Option.bind_none if_true if_false true_and and_true List.getD_cons_zero List.getD_cons_succ Bool.not_true Bool.not_false Bool.false_eq_true not_false_eq_true not_true_eq_false Option.isSome_some List.isEmpty_cons Nat.add_zero Nat.zero_add List.length_map List.replicate_succ List.replicate_zero Nat.sub_zero and_self implies_true forall_const Value.oneCell' imp_self Int.toNat_zero Int.toNat_one Int.toNat_natCast true_or or_true or_false false_or Array.toList_append List.size_toArray decide_true decide_false Nat.ble_eq Nat.beq_eq Bool.and_eq_true Int.natCast_add Int.cast_ofNat_Int Int.natCast_zero Int.natCast_one decide_eq_true_eq decide_eq_false_iff_not Bool.not_eq_true' Bool.not_eq_false' Bool.or_eq_true Bool.or_eq_false_iff Bool.and_eq_false_iff beq_self_eq_true
theorem xtI : True := True.intro
structure XHid (p : Prop) : Prop where
 x : p
theorem xst {G G' : Prop} (k : G') (h : XHid G' → G := by intro h0; first | ((try simp (etaStruct := .none) only [push_cast, DrawG, Int.cast_ofNat_Int, seval]); (try simp (disch := omega) only [wrap_in, wk_self, tdv, tmd]); (repeat with_reducible refine obA ?_); exact h0.x) | (have _h : XHid True := h0; (try simp (etaStruct := .none) only [push_cast, DrawG, Int.cast_ofNat_Int, seval]); (try simp (disch := omega) only [wrap_in, wk_self, tdv, tmd]); (repeat with_reducible refine obA ?_))) : G := h ⟨k⟩
theorem xsu {G G' : Prop} (k : G') (h : XHid G' → G := by intro h0; first | ((try simp (disch := omega) only [wrap_in, wk_self, tdv, tmd]); (repeat with_reducible refine obA ?_); exact h0.x) | (have _h : XHid True := h0; (try simp (disch := omega) only [wrap_in, wk_self, tdv, tmd]); (repeat with_reducible refine obA ?_))) : G := h ⟨k⟩
theorem xhh {p q : Prop} (x : p) (h : p → q := by intro h0; (simp only [xa, xb, xc, xd, xe, xf, xg, xh, xi, xj, Bool.not_true, Bool.not_false, xk, xl] at h0); exact h0) : q := h x
theorem xrz {P : Program} {rs : List ResultVar} {r : AV} {s : St} {φ : Prop} {xs : List AV} (h : resAV P (look s.t) (lookC s.h) rs = some (φ, xs)) (hw : Wk (cv [] (lookC s.h) (oneV xs)) r := by first | (refine Wk.of ?_; (try simp (etaStruct := .none) only [push_cast, DrawG, Int.cast_ofNat_Int, seval]); first | done | (simp [*]; done) | (simp_all; done) | fail) | ((try simp (etaStruct := .none) only [push_cast, DrawG, Int.cast_ofNat_Int, seval]); (try simp [*]); (try exact wkc))) (hφ : φ := by repeat' (first | exact trivial | exact rfl | refine ⟨?_, ?_⟩)) : RetG P 0 rs r [] s := ret0 h hφ hw
section
variable {P : Program} {f : FuncId} {args args' : List AV} {h : Nat → Chunk} {m : Nat} {K : Eff → Prop} {r : AV} {c : Bool} {φ : Prop}
theorem caP (S : Spec P f args' [] r []) (k : K ⟨up [] m r, [], 0⟩) (hw : WkL (cvL [] noC args) args' := by exact WkL.refl _) : CallG P f args h m K := callP S hw k
theorem gcP (S : c = true → Spec P f args' [] r []) (k : K ⟨.opt c (up [] m r), [], 0⟩) (hw : WkL (cvL [] noC args) args' := by exact WkL.refl _) (hφ : c = true → φ := by intro hc; (try simp (etaStruct := .none) only [push_cast, DrawG, Int.cast_ofNat_Int, seval]); (try simp_all)) : GCall P c f args φ h m K := gcallP S hw hφ k
theorem caM {hs hs' : List Chunk} (ids : List Nat) (S : Spec P f args' hs r hs') (k : K ⟨up ids m r, upsL ids m 0 hs', hs'.length - ids.length⟩) (hw : WkL (cvL ids noC args) args' := by exact WkL.refl _) (hh : hs = ids.map (fun id => cvC ids noC (h id)) := by rfl) (hnd : ids.Nodup := by decide) (hal : ∀ id ∈ ids, h id ≠ .dead := by simp [lookC_c]) : CallG P f args h m K := callM ids S hw hh hnd hal k
end
end Go.Proofs.Ytdkmndimmpilaaa
namespace Go.Proofs.Ytdkmndimmpilaaa
set_option linter.all false
theorem mix : Try.prog.follows .mixedOrders = true := by kernel_rfl
theorem it3 : intTy Try.prog 3 = true := by kernel_rfl
theorem ty3 : ty Try.prog 3 = some ⟨.int .i64, false, 1, 8, [.int .i64 0]⟩ := by kernel_rfl
theorem ty4 : ty Try.prog 4 = some ⟨.bool, false, 1, 1, [.bool false]⟩ := by kernel_rfl
theorem ty5 : ty Try.prog 5 = some ⟨.int .u8, false, 1, 1, [.int .u8 0]⟩ := by kernel_rfl
theorem ty9 : ty Try.prog 9 = some ⟨.str, false, 1, 16, [.string ByteArray.empty]⟩ := by kernel_rfl
theorem ty23 : ty Try.prog 23 = some ⟨.sl 38, false, 1, 24, [.slice none 0 0]⟩ := by kernel_rfl
theorem ty25 : ty Try.prog 25 = some ⟨.st [some (0, 1, false), some (1, 1, false)], true, 2, 16, [.int .i64 0, .int .i64 0]⟩ := by kernel_rfl
theorem ty27 : ty Try.prog 27 = some ⟨.st [some (0, 1, false), some (1, 1, false), some (2, 1, false), some (3, 2, true), some (5, 1, false)], true, 6, 48, [.int .i64 0, .int .i64 0, .int .i64 0, .int .i64 0, .int .i64 0, .int .i64 0]⟩ := by kernel_rfl
theorem it28 : intTy Try.prog 28 = true := by kernel_rfl
theorem ty28 : ty Try.prog 28 = some ⟨.int .i64, false, 1, 8, [.int .i64 0]⟩ := by kernel_rfl
theorem ty36 : ty Try.prog 36 = some ⟨.sl 27, false, 1, 24, [.slice none 0 0]⟩ := by kernel_rfl
theorem ty38 : ty Try.prog 38 = some ⟨.st [some (0, 1, false), some (1, 1, false), some (2, 1, false)], true, 3, 40, [.slice none 0 0, .int .i64 0, .bool false]⟩ := by kernel_rfl
theorem ty48 : ty Try.prog 48 = some ⟨.int .u64, false, 1, 8, [.int .u64 0]⟩ := by kernel_rfl
theorem ty49 : ty Try.prog 49 = some ⟨.sl 48, false, 1, 24, [.slice none 0 0]⟩ := by kernel_rfl
theorem ty54 : ty Try.prog 54 = some ⟨.sl 9, false, 1, 24, [.slice none 0 0]⟩ := by kernel_rfl
theorem ty55 : ty Try.prog 55 = some ⟨.sl 3, false, 1, 24, [.slice none 0 0]⟩ := by kernel_rfl
theorem ty57 : ty Try.prog 57 = some ⟨.st [some (0, 1, false), some (1, 1, false), some (2, 1, false), some (3, 1, false), some (4, 1, false), some (5, 1, false), some (6, 1, false), some (7, 1, false)], true, 8, 144, [.int .i64 0, .slice none 0 0, .int .i64 0, .int .i64 0, .slice none 0 0, .slice none 0 0, .slice none 0 0, .slice none 0 0]⟩ := by kernel_rfl
theorem ty59 : ty Try.prog 59 = some ⟨.st [some (0, 1, false), some (1, 1, false), some (2, 1, false), some (3, 1, false)], true, 4, 40, [.int .i64 0, .int .i64 0, .bool false, .string ByteArray.empty]⟩ := by kernel_rfl
theorem ty66 : ty Try.prog 66 = some ⟨.sl 59, false, 1, 24, [.slice none 0 0]⟩ := by kernel_rfl
theorem ty67 : ty Try.prog 67 = some ⟨.sl 28, false, 1, 24, [.slice none 0 0]⟩ := by kernel_rfl
theorem ty74 : ty Try.prog 74 = some ⟨.other, false, 1, 8, [.nilFunc]⟩ := by kernel_rfl
theorem ty76 : ty Try.prog 76 = some ⟨.other, false, 1, 8, [.nilFunc]⟩ := by kernel_rfl
theorem ty98 : ty Try.prog 98 = some ⟨.ptr 57, false, 1, 8, [.pointer none]⟩ := by kernel_rfl
theorem ty104 : ty Try.prog 104 = some ⟨.other, false, 1, 8, [.nilFunc]⟩ := by kernel_rfl
theorem ty109 : ty Try.prog 109 = some ⟨.other, false, 1, 8, [.nilFunc]⟩ := by kernel_rfl
theorem ty110 : ty Try.prog 110 = some ⟨.ptr 113, false, 1, 8, [.pointer none]⟩ := by kernel_rfl
theorem ty111 : ty Try.prog 111 = some ⟨.sl 5, false, 1, 24, [.slice none 0 0]⟩ := by kernel_rfl
theorem ty113 : ty Try.prog 113 = some ⟨.st [some (0, 1, false), some (1, 1, false)], true, 2, 32, [.pointer none, .slice none 0 0]⟩ := by kernel_rfl
theorem ty119 : ty Try.prog 119 = some ⟨.int .u32, false, 1, 4, [.int .u32 0]⟩ := by kernel_rfl
theorem ty121 : ty Try.prog 121 = some ⟨.int .u64, false, 1, 8, [.int .u64 0]⟩ := by kernel_rfl
theorem ty134 : ty Try.prog 134 = some ⟨.ptr 55, false, 1, 8, [.pointer none]⟩ := by kernel_rfl
theorem ty139 : ty Try.prog 139 = some ⟨.ptr 5, false, 1, 8, [.pointer none]⟩ := by kernel_rfl
theorem fl27 : flatN Try.prog 9 27 = some [0, 0, 0, 0, 0, 0] := by kernel_rfl
theorem ag27 : aggT Try.prog 27 = true := by kernel_rfl
attribute [push_cast] it3 ty3 ty4 ty5 ty9 ty23 ty25 ty27 it28 ty28 ty36 ty38 ty48 ty49 ty54 ty55 ty57 ty59 ty66 ty67 ty74 ty76 ty98 ty104 ty109 ty110 ty111 ty113 ty119 ty121 ty134 ty139 fl27 ag27
end Go.Proofs.Ytdkmndimmpilaaa
namespace Go.Proofs.Ytdkmndimmpilaaa
set_option linter.all false
open Go.RowKit
abbrev In64 (n : Int) : Prop := -9223372036854775808 ≤ n ∧ n ≤ 9223372036854775807
abbrev pI (n : Int) : PV := .v (.int .i64 n)
abbrev pB (b : Bool) : PV := .v (.bool b)
def i64P (n : Int) : List PV := [pI n]
def u64P (n : Nat) : List PV := [.v (.int .u64 n)]
def boolP (b : Bool) : List PV := [pB b]
def strP (s : ByteArray) : List PV := [.v (.string s)]
structure Cel where
 x : Int
 y : Int
 deriving DecidableEq, Inhabited
def celP (c : Cel) : List PV := [pI c.x, pI c.y]
abbrev celA (c : Cel) : AV := .agg [I .i64 c.x, I .i64 c.y]
structure Fld where
 w : Int
 h : Int
 p : List Int
 deriving DecidableEq, Inhabited
structure Trp where
 id : Int
 owner : Int
 kind : Int
 c : Cel
 life : Int
 load : Int
 deriving DecidableEq, Inhabited
structure Wld where
 f : Fld
 bases : List Cel
 stocks : List Int
 mines : List Int
 troops : List Trp
 next : Int
 now : Int
 deriving DecidableEq, Inhabited
structure Ord where
 by_ : Int
 kind : Int
 who : Int
 c : Cel
 what : Int
 deriving DecidableEq, Inhabited
def ordP (o : Ord) : List PV := [pI o.by_, pI o.kind, pI o.who, pI o.c.x, pI o.c.y, pI o.what]
abbrev ordA (o : Ord) : AV := .agg [I .i64 o.by_, I .i64 o.kind, I .i64 o.who, I .i64 o.c.x, I .i64 o.c.y, I .i64 o.what]
theorem getD_in {α : Type} [Inhabited α] (f : α → List PV) (l : List α) (i : Nat) (h : i < l.length) : (l.map f).getD i [] = f (l.getD i default) := by
 simp [h]
theorem getD_at {α : Type} [Inhabited α] (l : List α) (i : Nat) (h : i < l.length) : l.getD i default = l[i] := by simp [h]
theorem take_snoc {α : Type} [Inhabited α] (l : List α) (k : Nat) (h : k < l.length) : l.take (k + 1) = l.take k ++ [l.getD k default] := by rw [List.take_succ_eq_append_getElem h, getD_at _ _ h]
theorem getD_mem {α : Type} [Inhabited α] (l : List α) (i : Nat) (h : i < l.length) : l.getD i default ∈ l := by rw [getD_at _ _ h]; exact List.getElem_mem h
end Go.Proofs.Ytdkmndimmpilaaa
namespace Go.Proofs.Ytdkmndimmpilaaa
set_option linter.all false
open Go.RowKit
def nearB (c : Cel) : Bool := decide (-1000 ≤ c.x ∧ c.x ≤ 1000 ∧ -1000 ≤ c.y ∧ c.y ≤ 1000)
end Go.Proofs.Ytdkmndimmpilaaa
namespace Go.Proofs.Ytdkmndimmpilaaa
set_option linter.all false
open Go.RowKit
set_option maxRecDepth 100000
theorem ixOf_any {α : Type} (p : α → Bool) (l : List α) : decide (0 ≤ ixOf p l) = l.any p := by
 unfold ixOf
 cases h : l.findIdx? p with
 | none =>
  have := List.findIdx?_eq_none_iff.1 h
  simp only [show ¬ (0 : Int) ≤ -1 by omega, decide_false]
  symm; rw [List.any_eq_false]; intro x hx; simp [this x hx]
 | some i =>
  obtain ⟨hi, h1, _⟩ := List.findIdx?_eq_some_iff_getElem.1 h
  simp only [Int.natCast_nonneg, decide_true]
  symm; rw [List.any_eq_true]; exact ⟨_, List.getElem_mem hi, h1⟩
end Go.Proofs.Ytdkmndimmpilaaa
namespace Go.Proofs.Ytdkmndimmpilaaa
set_option linter.all false
open Go.RowKit
set_option maxRecDepth 100000
def within (n a b : Int) : Bool := decide (a ≤ n) && decide (n ≤ b)
theorem within_iff {n a b : Int} : within n a b = true ↔ a ≤ n ∧ n ≤ b := by unfold within; simp
theorem within_f {n a b : Int} : within n a b = false ↔ ¬ (a ≤ n ∧ n ≤ b) := by unfold within; simp
theorem between_s (n a b : Int) : Spec Try.prog 12 [I .i64 n, I .i64 a, I .i64 b] [] (B (within n a b)) [] := by
 refine spec_am Try.func12 rfl rfl mix 15 rfl [.tmp 6] Try.results12 (Nat.le_of_ble_eq_true rfl) ?_
 (try (refine xst ?_; try exact xtI))
 exact ret0 rfl trivial (Wk.of (congrArg B (by unfold within; first | rfl | simp)))
end Go.Proofs.Ytdkmndimmpilaaa
namespace Go.Proofs.Ytdkmndimmpilaaa
set_option linter.all false
open Go.RowKit
set_option maxRecDepth 100000
set_option maxHeartbeats 2000000
theorem cellNear_s (c : Cel) : Spec Try.prog 55 [celA c] [] (B (nearB c)) [] := by
 refine spec_am Try.func55 rfl rfl mix 11 rfl [.tmp 2] Try.results55 (Nat.le_of_ble_eq_true rfl) ?_
 (try (refine xst ?_; try exact xtI))
 refine caP (between_s c.x (-1000) 1000) ?_
 (try (refine xst ?_; try exact xtI))
 refine gcP (fun hcc => between_s c.y (-1000) 1000) ?_
 (try (refine xst ?_; try exact xtI))
 exact ret0 rfl trivial (Wk.of (congrArg B (by unfold nearB within; rw [Bool.eq_iff_iff]; simp; omega)))
end Go.Proofs.Ytdkmndimmpilaaa
namespace Go.Proofs.Ytdkmndimmpilaaa
set_option linter.all false
open Go.RowKit
set_option maxRecDepth 100000
set_option maxHeartbeats 2000000
def ordBad (o : Ord) : Bool := !within o.by_ 0 7 || !within o.kind 1 5 || !within o.who 0 1000000 || !nearB o.c || !within o.what 0 1000000
def ordForm (o : Ord) : Bool := decide (o.kind = 5 ∧ o.who ≠ 0) || decide (o.kind ≠ 2 ∧ o.kind ≠ 3 ∧ ¬ (o.c.x = 0 ∧ o.c.y = 0)) || decide (o.kind ≠ 1 ∧ o.kind ≠ 5 ∧ o.what ≠ 0)
def ordE (o : Ord) : Int := if ordBad o then 1 else if ordForm o then 4 else 0
theorem ordE_ok {o : Ord} (h : ordE o = 0) : (0 ≤ o.by_ ∧ o.by_ ≤ 7) ∧ (1 ≤ o.kind ∧ o.kind ≤ 5) ∧ (0 ≤ o.who ∧ o.who ≤ 1000000) ∧ (-1000 ≤ o.c.x ∧ o.c.x ≤ 1000 ∧ -1000 ≤ o.c.y ∧ o.c.y ≤ 1000) ∧ (0 ≤ o.what ∧ o.what ≤ 1000000) ∧
 (o.kind = 5 → o.who = 0) ∧ (o.kind ≠ 2 → o.kind ≠ 3 → o.c = ⟨0, 0⟩) ∧ (o.kind ≠ 1 → o.kind ≠ 5 → o.what = 0) := by
 unfold ordE at h
 split at h
 ·simp at h
 ·rename_i h1
  split at h
  ·simp at h
  ·rename_i h2
   simp only [ordBad, Bool.or_eq_true, Bool.not_eq_true', not_or, Bool.not_eq_false, within_iff, nearB, decide_eq_true_eq] at h1
   simp only [ordForm, Bool.or_eq_true, decide_eq_true_eq, not_or] at h2
   obtain ⟨⟨⟨⟨a1, a2⟩, a3⟩, a4⟩, a5⟩ := h1
   refine ⟨a1, a2, a3, a4, a5, fun h => by omega, fun h h' => ?_, fun h h' => by omega⟩
   have : o.c.x = 0 ∧ o.c.y = 0 := by omega
   cases hc : o.c; rw [hc] at this; simp at this; rw [this.1, this.2]
def bareV (o : Ord) : Ord := ⟨o.by_, o.kind, if o.kind = 5 then 0 else o.who, if o.kind ≠ 2 ∧ o.kind ≠ 3 then ⟨0, 0⟩ else o.c, if o.kind ≠ 1 ∧ o.kind ≠ 5 then 0 else o.what⟩
theorem ord_dec (a b : Ord) : (decide (a.by_ = b.by_) && (decide (a.kind = b.kind) && (decide (a.who = b.who) && (decide (a.c.x = b.c.x) && (decide (a.c.y = b.c.y) && decide (a.what = b.what)))))) = decide (a = b) := by
 rw [Bool.eq_iff_iff]; obtain ⟨_, _, _, ⟨_, _⟩, _⟩ := a; obtain ⟨_, _, _, ⟨_, _⟩, _⟩ := b; simp [and_assoc]
theorem bare_form (o : Ord) : decide (bareV o = o) = !ordForm o := by
 obtain ⟨b, k, w, ⟨x, y⟩, t⟩ := o
 unfold bareV ordForm
 rw [Bool.eq_iff_iff]
 simp only [decide_eq_true_eq, Bool.not_eq_true', Bool.or_eq_false_iff, decide_eq_false_iff_not, Ord.mk.injEq, true_and]
 constructor
 ·rintro ⟨h1, h2, h3⟩
  refine ⟨⟨fun h => ?_, fun h => ?_⟩, fun h => ?_⟩
  ·rw [if_pos h.1] at h1; omega
  ·rw [if_pos ⟨h.1, h.2.1⟩] at h2; simp at h2; omega
  ·rw [if_pos ⟨h.1, h.2.1⟩] at h3; omega
 ·rintro ⟨⟨h1, h2⟩, h3⟩
  refine ⟨?_, ?_, ?_⟩
  ·split <;> omega
  ·split
   ·simp; omega
   ·rfl
  ·split <;> omega
theorem near_within (c : Cel) : (!within c.x (-1000) 1000 || !within c.y (-1000) 1000) = !nearB c := by
 unfold within nearB
 rw [Bool.eq_iff_iff]; simp; omega
theorem owithin_s (n a b : Int) : Spec Try.prog 53 [I .i64 n, I .i64 a, I .i64 b] [] (B (within n a b)) [] := by
 refine spec_am Try.func53 rfl rfl mix 15 rfl [.tmp 6] Try.results53 (Nat.le_of_ble_eq_true rfl) ?_
 (try (refine xst ?_; try exact xtI))
 exact ret0 rfl trivial (Wk.of (congrArg B (by unfold within; first | rfl | simp)))
theorem bare_o (o : Ord) : Spec Try.prog 54 [ordA o] [] (ordA (bareV o)) [] := by
 refine spec_am Try.func54 rfl rfl mix 27 rfl [.cell 2 27] Try.results54 (Nat.le_of_ble_eq_true rfl) ?_
 (try (refine xst ?_; try exact xtI))
 refine cond_i (fun h1 => ?_) (fun h1 => ?_)
 ·(try replace h1 := xhh h1)
  (try (refine xst ?_; try exact xtI))
  refine cond_i (fun h2 => ?_) (fun h2 => ?_)
  ·(try replace h2 := xhh h2)
   (try (refine xst ?_; try exact xtI))
   refine cond_i (fun h3 => ?_) (fun h3 => ?_)
   ·(try replace h3 := xhh h3)
    (try (refine xst ?_; try exact xtI))
    (first | (refine retA rfl (Wk.of ?_); (try simp (etaStruct := .none) only [push_cast, DrawG, Int.cast_ofNat_Int, seval]); first | done | (simp [bareV, *]; done) | (simp_all [bareV]; done)) | (refine retA rfl ?_; (try simp (etaStruct := .none) only [push_cast, DrawG, Int.cast_ofNat_Int, seval]); (try simp [bareV, *]); (try exact wkc)))
   ·(try replace h3 := xhh h3)
    have e2 : ¬ (o.kind ≠ 1 ∧ o.kind ≠ 5) := by omega
    (try (refine xst ?_; try exact xtI))
    (first | (refine retA rfl (Wk.of ?_); (try simp (etaStruct := .none) only [push_cast, DrawG, Int.cast_ofNat_Int, seval]); first | done | (simp [bareV, *]; done) | (simp_all [bareV]; done)) | (refine retA rfl ?_; (try simp (etaStruct := .none) only [push_cast, DrawG, Int.cast_ofNat_Int, seval]); (try simp [bareV, *]); (try exact wkc)))
  ·(try replace h2 := xhh h2)
   have e1 : ¬ (o.kind ≠ 2 ∧ o.kind ≠ 3) := by omega
   (try (refine xst ?_; try exact xtI))
   refine cond_i (fun h4 => ?_) (fun h4 => ?_)
   ·(try replace h4 := xhh h4)
    (try (refine xst ?_; try exact xtI))
    (first | (refine retA rfl (Wk.of ?_); (try simp (etaStruct := .none) only [push_cast, DrawG, Int.cast_ofNat_Int, seval]); first | done | (simp [bareV, *]; done) | (simp_all [bareV]; done)) | (refine retA rfl ?_; (try simp (etaStruct := .none) only [push_cast, DrawG, Int.cast_ofNat_Int, seval]); (try simp [bareV, *]); (try exact wkc)))
   ·(try replace h4 := xhh h4)
    have e2 : ¬ (o.kind ≠ 1 ∧ o.kind ≠ 5) := by omega
    (try (refine xst ?_; try exact xtI))
    (first | (refine retA rfl (Wk.of ?_); (try simp (etaStruct := .none) only [push_cast, DrawG, Int.cast_ofNat_Int, seval]); first | done | (simp [bareV, *]; done) | (simp_all [bareV]; done)) | (refine retA rfl ?_; (try simp (etaStruct := .none) only [push_cast, DrawG, Int.cast_ofNat_Int, seval]); (try simp [bareV, *]); (try exact wkc)))
 ·(try replace h1 := xhh h1)
  (try (refine xst ?_; try exact xtI))
  refine cond_i (fun h5 => ?_) (fun h5 => ?_)
  ·(try replace h5 := xhh h5)
   (try (refine xst ?_; try exact xtI))
   refine cond_i (fun h6 => ?_) (fun h6 => ?_)
   ·(try replace h6 := xhh h6)
    (try (refine xst ?_; try exact xtI))
    (first | (refine retA rfl (Wk.of ?_); (try simp (etaStruct := .none) only [push_cast, DrawG, Int.cast_ofNat_Int, seval]); first | done | (simp [bareV, *]; done) | (simp_all [bareV]; done)) | (refine retA rfl ?_; (try simp (etaStruct := .none) only [push_cast, DrawG, Int.cast_ofNat_Int, seval]); (try simp [bareV, *]); (try exact wkc)))
   ·(try replace h6 := xhh h6)
    have e2 : o.kind = 1 := by omega
    (try (refine xst ?_; try exact xtI))
    (first | (refine retA rfl (Wk.of ?_); (try simp (etaStruct := .none) only [push_cast, DrawG, Int.cast_ofNat_Int, seval]); first | done | (simp [bareV, *]; done) | (simp_all [bareV]; done)) | (refine retA rfl ?_; (try simp (etaStruct := .none) only [push_cast, DrawG, Int.cast_ofNat_Int, seval]); (try simp [bareV, *]); (try exact wkc)))
  ·(try replace h5 := xhh h5)
   have e1 : ¬ (o.kind ≠ 2 ∧ o.kind ≠ 3) := by omega
   (try (refine xst ?_; try exact xtI))
   refine cond_i (fun h7 => ?_) (fun h7 => ?_)
   ·(try replace h7 := xhh h7)
    (try (refine xst ?_; try exact xtI))
    (first | (refine retA rfl (Wk.of ?_); (try simp (etaStruct := .none) only [push_cast, DrawG, Int.cast_ofNat_Int, seval]); first | done | (simp [bareV, *]; done) | (simp_all [bareV]; done)) | (refine retA rfl ?_; (try simp (etaStruct := .none) only [push_cast, DrawG, Int.cast_ofNat_Int, seval]); (try simp [bareV, *]); (try exact wkc)))
   ·(try replace h7 := xhh h7)
    have e2 : ¬ (o.kind ≠ 1 ∧ o.kind ≠ 5) := by omega
    (try (refine xst ?_; try exact xtI))
    (first | (refine retA rfl (Wk.of ?_); (try simp (etaStruct := .none) only [push_cast, DrawG, Int.cast_ofNat_Int, seval]); first | done | (simp [bareV, *]; done) | (simp_all [bareV]; done)) | (refine retA rfl ?_; (try simp (etaStruct := .none) only [push_cast, DrawG, Int.cast_ofNat_Int, seval]); (try simp [bareV, *]); (try exact wkc)))
theorem ocheck_s (o : Ord) : Spec Try.prog 21 [ordA o] [] (I .i64 (ordE o)) [] := by
 refine spec_am Try.func21 rfl rfl mix 43 rfl [.tmp 2] Try.results21 (Nat.le_of_ble_eq_true rfl) ?_
 (iterate 2 ((try simp (etaStruct := .none) only [push_cast, DrawG, Int.cast_ofNat_Int, seval, ord_dec (bareV o) o, bare_form o]); (try (refine xsu ?_; try exact xtI))))
 refine caP (owithin_s o.by_ 0 7) ?_
 (iterate 2 ((try simp (etaStruct := .none) only [push_cast, DrawG, Int.cast_ofNat_Int, seval, ord_dec (bareV o) o, bare_form o]); (try (refine xsu ?_; try exact xtI))))
 refine gcP (fun hcc => owithin_s o.kind 1 5) ?_
 (iterate 2 ((try simp (etaStruct := .none) only [push_cast, DrawG, Int.cast_ofNat_Int, seval, ord_dec (bareV o) o, bare_form o]); (try (refine xsu ?_; try exact xtI))))
 refine gcP (fun hcc => owithin_s o.who 0 1000000) ?_
 (iterate 2 ((try simp (etaStruct := .none) only [push_cast, DrawG, Int.cast_ofNat_Int, seval, ord_dec (bareV o) o, bare_form o]); (try (refine xsu ?_; try exact xtI))))
 refine gcP (fun hcc => owithin_s o.c.x (-1000) 1000) ?_
 (iterate 2 ((try simp (etaStruct := .none) only [push_cast, DrawG, Int.cast_ofNat_Int, seval, ord_dec (bareV o) o, bare_form o]); (try (refine xsu ?_; try exact xtI))))
 refine gcP (fun hcc => owithin_s o.c.y (-1000) 1000) ?_
 (iterate 2 ((try simp (etaStruct := .none) only [push_cast, DrawG, Int.cast_ofNat_Int, seval, ord_dec (bareV o) o, bare_form o]); (try (refine xsu ?_; try exact xtI))))
 refine gcP (fun hcc => owithin_s o.what 0 1000000) ?_
 (iterate 2 ((try simp (etaStruct := .none) only [push_cast, DrawG, Int.cast_ofNat_Int, seval, ord_dec (bareV o) o, bare_form o]); (try (refine xsu ?_; try exact xtI))))
 refine cond_i (fun h1 => ?_) (fun h1 => ?_)
 ·(try replace h1 := xhh h1)
  have hb : ordBad o = true := by unfold ordBad; rw [← near_within]; simpa [or_assoc] using h1
  (iterate 2 ((try simp (etaStruct := .none) only [push_cast, DrawG, Int.cast_ofNat_Int, seval, ord_dec (bareV o) o, bare_form o]); (try (refine xsu ?_; try exact xtI))))
  (first | (refine retA rfl (Wk.of ?_); (try simp (etaStruct := .none) only [push_cast, DrawG, Int.cast_ofNat_Int, seval]); first | done | (simp [ordE, hb, *]; done) | (simp_all [ordE, hb]; done)) | (refine retA rfl ?_; (try simp (etaStruct := .none) only [push_cast, DrawG, Int.cast_ofNat_Int, seval]); (try simp [ordE, hb, *]); (try exact wkc)))
 ·(try replace h1 := xhh h1)
  have hb : ordBad o = false := by unfold ordBad; rw [← near_within]; simpa [and_assoc] using h1
  (iterate 2 ((try simp (etaStruct := .none) only [push_cast, DrawG, Int.cast_ofNat_Int, seval, ord_dec (bareV o) o, bare_form o]); (try (refine xsu ?_; try exact xtI))))
  refine caP (bare_o o) ?_
  (iterate 2 ((try simp (etaStruct := .none) only [push_cast, DrawG, Int.cast_ofNat_Int, seval, ord_dec (bareV o) o, bare_form o]); (try (refine xsu ?_; try exact xtI))))
  (try (refine ⟨by kernel_rfl, ?_⟩))
  (iterate 2 ((try simp (etaStruct := .none) only [push_cast, DrawG, Int.cast_ofNat_Int, seval, ord_dec (bareV o) o, bare_form o]); (try (refine xsu ?_; try exact xtI))))
  refine cond_i (fun h2 => ?_) (fun h2 => ?_)
  ·(try replace h2 := xhh h2)
   (iterate 2 ((try simp (etaStruct := .none) only [push_cast, DrawG, Int.cast_ofNat_Int, seval, ord_dec (bareV o) o, bare_form o]); (try (refine xsu ?_; try exact xtI))))
   (first | (refine retA rfl (Wk.of ?_); (try simp (etaStruct := .none) only [push_cast, DrawG, Int.cast_ofNat_Int, seval]); first | done | (simp [ordE, hb, *]; done) | (simp_all [ordE, hb]; done)) | (refine retA rfl ?_; (try simp (etaStruct := .none) only [push_cast, DrawG, Int.cast_ofNat_Int, seval]); (try simp [ordE, hb, *]); (try exact wkc)))
  ·(try replace h2 := xhh h2)
   (iterate 2 ((try simp (etaStruct := .none) only [push_cast, DrawG, Int.cast_ofNat_Int, seval, ord_dec (bareV o) o, bare_form o]); (try (refine xsu ?_; try exact xtI))))
   (first | (refine retA rfl (Wk.of ?_); (try simp (etaStruct := .none) only [push_cast, DrawG, Int.cast_ofNat_Int, seval]); first | done | (simp [ordE, hb, *]; done) | (simp_all [ordE, hb]; done)) | (refine retA rfl ?_; (try simp (etaStruct := .none) only [push_cast, DrawG, Int.cast_ofNat_Int, seval]); (try simp [ordE, hb, *]); (try exact wkc)))
theorem oright_s (o : Ord) : Spec Try.prog 22 [ordA o] [] (I .i64 (ordE o)) [] := by
 refine spec_am Try.func22 rfl rfl mix 85 rfl [.tmp 2] Try.results22 (Nat.le_of_ble_eq_true rfl) ?_
 (try (refine xst ?_; try exact xtI))
 refine caP (between_s o.by_ 0 7) ?_
 (try (refine xst ?_; try exact xtI))
 refine gcP (fun hcc => between_s o.kind 1 5) ?_
 (try (refine xst ?_; try exact xtI))
 refine gcP (fun hcc => between_s o.who 0 1000000) ?_
 (try (refine xst ?_; try exact xtI))
 refine gcP (fun hcc => cellNear_s o.c) ?_
 (try (refine xst ?_; try exact xtI))
 refine gcP (fun hcc => between_s o.what 0 1000000) ?_
 (try (refine xst ?_; try exact xtI))
 refine cond_i (fun h1 => ?_) (fun h1 => ?_)
 ·(try replace h1 := xhh h1)
  have hb : ordBad o = true := by unfold ordBad; simpa [or_assoc] using h1
  (try (refine xst ?_; try exact xtI))
  (first | (refine retA rfl (Wk.of ?_); (try simp (etaStruct := .none) only [push_cast, DrawG, Int.cast_ofNat_Int, seval]); first | done | (simp [ordE, hb, *]; done) | (simp_all [ordE, hb]; done)) | (refine retA rfl ?_; (try simp (etaStruct := .none) only [push_cast, DrawG, Int.cast_ofNat_Int, seval]); (try simp [ordE, hb, *]); (try exact wkc)))
 ·(try replace h1 := xhh h1)
  have hb : ordBad o = false := by unfold ordBad; simpa [and_assoc] using h1
  (try (refine xst ?_; try exact xtI))
  refine cond_i (fun h2 => ?_) (fun h2 => ?_)
  ·(try replace h2 := xhh h2)
   have hc : ordForm o = true := by unfold ordForm; simp; omega
   (try (refine xst ?_; try exact xtI))
   (first | (refine retA rfl (Wk.of ?_); (try simp (etaStruct := .none) only [push_cast, DrawG, Int.cast_ofNat_Int, seval]); first | done | (simp [ordE, hb, *]; done) | (simp_all [ordE, hb]; done)) | (refine retA rfl ?_; (try simp (etaStruct := .none) only [push_cast, DrawG, Int.cast_ofNat_Int, seval]); (try simp [ordE, hb, *]); (try exact wkc)))
  ·(try replace h2 := xhh h2)
   have hc : ordForm o = false := by unfold ordForm; simp; omega
   (try (refine xst ?_; try exact xtI))
   (first | (refine retA rfl (Wk.of ?_); (try simp (etaStruct := .none) only [push_cast, DrawG, Int.cast_ofNat_Int, seval]); first | done | (simp [ordE, hb, *]; done) | (simp_all [ordE, hb]; done)) | (refine retA rfl ?_; (try simp (etaStruct := .none) only [push_cast, DrawG, Int.cast_ofNat_Int, seval]); (try simp [ordE, hb, *]); (try exact wkc)))
end Go.Proofs.Ytdkmndimmpilaaa
namespace Go.Proofs.Ytdkmndimmpilaaa
set_option linter.all false
open Go.RowKit
set_option maxRecDepth 100000
theorem ord_clone (l : List Ord) (hl : l.length ≤ 2932031007402) : Spec Try.prog 34 [.c (.sl 6 (l.map ordP))] [] (.own 0) [.row 27 6 (l.map ordP)] := by
 refine spec_am Try.func34 rfl rfl mix 8 rfl [.tmp 2] Try.results34 (Nat.le_of_ble_eq_true rfl) ?_
 (try (refine xst ?_; try exact xtI))
 intro b hb
 (try (refine xst ?_; try exact xtI))
 refine cond_i (fun h => ?_) (fun h => ?_)
 ·(try (refine xst ?_; try exact xtI))
  have e := hb h
  refine retTo (To.nil 2 27 6 rfl) (retM [0] rfl rfl (by decide) ⟨?_, trivial⟩ trivial ?_)
  ·simp (etaStruct := .none) only [push_cast, DrawG, Int.cast_ofNat_Int, seval, e]
  ·simp (etaStruct := .none) only [push_cast, DrawG, Int.cast_ofNat_Int, seval]
 ·(try (refine xst ?_; try exact xtI))
  refine retM [1] rfl rfl (by decide) ⟨?_, trivial⟩ trivial ?_
  ·simp (etaStruct := .none) only [push_cast, DrawG, Int.cast_ofNat_Int, seval]
  ·simp (etaStruct := .none) only [push_cast, DrawG, Int.cast_ofNat_Int, seval]
theorem ord_copy (l : List Ord) (hl : l.length ≤ 2932031007402) : Spec Try.prog 34 [.c (.sl 6 (l.map ordP))] [] (.c (.sl 6 (l.map ordP))) [] := by
 refine spec_am Try.func34 rfl rfl mix 8 rfl [.tmp 2] Try.results34 (Nat.le_of_ble_eq_true rfl) ?_
 (try (refine xst ?_; try exact xtI))
 intro b hb
 (try (refine xst ?_; try exact xtI))
 refine cond_i (fun h => ?_) (fun h => ?_)
 ·(try (refine xst ?_; try exact xtI))
  exact ret0 rfl trivial (by rw [hb h]; exact Wk.nil _)
 ·(try (refine xst ?_; try exact xtI))
  exact ret0 rfl trivial (Wk.refl _)
end Go.Proofs.Ytdkmndimmpilaaa
namespace Go.Proofs.Ytdkmndimmpilaaa
set_option linter.all false
open Go.RowKit
set_option maxRecDepth 100000
set_option maxHeartbeats 2000000
structure Sea where
 waits : List Ord
 late : Int
 gone : Bool
 deriving DecidableEq, Inhabited
def seaP (s : Sea) : List PV := [.sl 6 (s.waits.map ordP), pI s.late, pB s.gone]
abbrev seaA (s : Sea) : AV := .agg [.c (.sl 6 (s.waits.map ordP)), I .i64 s.late, B s.gone]
def seaL (s : Sea) : Prop := s.waits.length ≤ 2932031007402
def ordNot (i : Int) (o : Ord) : Bool := !decide (o.by_ = i) || !decide (ordE o = 0)
def seaBad (s : Sea) : Bool := !within s.late 0 1000000 || (s.gone && (!decide (s.late = 0) || decide (0 < s.waits.length)))
def seaR (s : Sea) (i : Int) : Bool := !seaBad s && !s.waits.any (ordNot i)
def seasE (l : List Sea) : Int :=
 if l.length < 1 ∨ 8 < l.length then 1 else if l.any (fun s => decide (50 < s.waits.length)) then 2 else
 if (List.range l.length).all (fun i => seaR (l.getD i default) i) then 0 else 4
theorem ord_ix (F : FuncId) (a b : List AV) (l : List Ord) (p : Ord → Bool) (hl : l.length ≤ 9223372036854775807) (hp : ∀ n ∈ l, Spec Try.prog F (a ++ [ordA n] ++ b) [] (B (p n)) []) (ha : ∀ h, cvL [] h a = a) (hb : ∀ h, cvL [] h b = b) :
 Spec Try.prog 95 [.c (.sl 6 (l.map ordP)), .clo (.func F) a b] [] (I .i64 (ixOf p l)) [] := by
 refine spec_am Try.func95 rfl rfl mix 19 rfl [.tmp 4] Try.results95 (Nat.le_of_ble_eq_true rfl) ?_
 simp (etaStruct := .none) only [push_cast, DrawG, Int.cast_ofNat_Int, seval]
 refine loopI (fun k : Nat => ⟨[(8, I .i64 k), (7, I .i64 l.length), (0, .c (.sl 6 (l.map ordP))), (1, .clo (.func F) a b)], [], 0⟩) (fun k => k ≤ l.length ∧ ∀ j (hj : j < l.length), j < k → p l[j] = false) (fun k => l.length - k) 0 ⟨Nat.zero_le _, fun j _ h => by omega⟩ (To.mk [] rfl rfl List.nodup_nil trivial ?_) ?_
 ·simp (etaStruct := .none) only [push_cast, DrawG, Int.cast_ofNat_Int, seval, ha, hb]
 ·rintro k ⟨hk, hn⟩
  simp (etaStruct := .none) only [push_cast, DrawG, Int.cast_ofNat_Int, seval]
  refine cond_i (fun h => ?_) (fun h => ?_)
  ·have hlt : k < l.length := by simpa using h
   simp (etaStruct := .none) only [push_cast, DrawG, Int.cast_ofNat_Int, seval, getD_map _ _ _ hlt, ordP]
   repeat with_reducible refine obA ?_
   refine callP (hp _ (List.getElem_mem hlt)) (by simp only [cvL_append, ha, hb, cvL, cv]; exact WkL.refl _) ?_
   simp (etaStruct := .none) only [push_cast, DrawG, Int.cast_ofNat_Int, seval]
   refine cond_i (fun h => ?_) (fun h => ?_)
   ·simp (etaStruct := .none) only [push_cast, DrawG, Int.cast_ofNat_Int, seval]
    exact ret0 rfl trivial (Wk.of (by rw [ixOf_hit p l k hlt h hn]; rfl))
   ·simp (etaStruct := .none) only [push_cast, DrawG, Int.cast_ofNat_Int, seval]
    refine ⟨k + 1, ⟨by omega, fun j hj hjk => ?_⟩, by omega, To.mk [] rfl rfl List.nodup_nil trivial ?_⟩
    ·by_cases e : j = k
     ·subst e; exact h
     ·exact hn j hj (by omega)
    ·simp (etaStruct := .none) only [push_cast, DrawG, Int.cast_ofNat_Int, seval, ha, hb]
     simp (disch := omega) only [wrap_in, wk_self, tdv, tmd]
  ·have hge : k = l.length := by simp at h; omega
   subst hge
   simp (etaStruct := .none) only [push_cast, DrawG, Int.cast_ofNat_Int, seval]
   exact ret0 rfl trivial (Wk.of (by rw [ixOf_miss p l (fun j hj => hn j hj hj)]; rfl))
theorem ord_any (F : FuncId) (a b : List AV) (l : List Ord) (p : Ord → Bool) (hl : l.length ≤ 9223372036854775807) (hp : ∀ n ∈ l, Spec Try.prog F (a ++ [ordA n] ++ b) [] (B (p n)) []) (ha : ∀ h, cvL [] h a = a) (hb : ∀ h, cvL [] h b = b) :
 Spec Try.prog 72 [.c (.sl 6 (l.map ordP)), .clo (.func F) a b] [] (B (l.any p)) [] := by
 refine spec_am Try.func72 rfl rfl mix 9 rfl [.tmp 4] Try.results72 (Nat.le_of_ble_eq_true rfl) ?_
 simp (etaStruct := .none) only [push_cast, DrawG, Int.cast_ofNat_Int, seval]
 refine callP (ord_ix F a b l p hl hp ha hb) (by simp only [ha, hb, cvL, cv]; exact WkL.refl _) ?_
 simp (etaStruct := .none) only [push_cast, DrawG, Int.cast_ofNat_Int, seval]
 exact ret0 rfl trivial (Wk.of (by rw [ixOf_any]; rfl))
theorem sea_ix (F : FuncId) (a b : List AV) (l : List Sea) (p : Sea → Bool) (hl : l.length ≤ 9223372036854775807) (hp : ∀ n ∈ l, Spec Try.prog F (a ++ [seaA n] ++ b) [] (B (p n)) []) (ha : ∀ h, cvL [] h a = a) (hb : ∀ h, cvL [] h b = b) :
 Spec Try.prog 71 [.c (.sl 3 (l.map seaP)), .clo (.func F) a b] [] (I .i64 (ixOf p l)) [] := by
 refine spec_am Try.func71 rfl rfl mix 19 rfl [.tmp 4] Try.results71 (Nat.le_of_ble_eq_true rfl) ?_
 simp (etaStruct := .none) only [push_cast, DrawG, Int.cast_ofNat_Int, seval]
 refine loopI (fun k : Nat => ⟨[(8, I .i64 k), (7, I .i64 l.length), (0, .c (.sl 3 (l.map seaP))), (1, .clo (.func F) a b)], [], 0⟩) (fun k => k ≤ l.length ∧ ∀ j (hj : j < l.length), j < k → p l[j] = false) (fun k => l.length - k) 0 ⟨Nat.zero_le _, fun j _ h => by omega⟩ (To.mk [] rfl rfl List.nodup_nil trivial ?_) ?_
 ·simp (etaStruct := .none) only [push_cast, DrawG, Int.cast_ofNat_Int, seval, ha, hb]
 ·rintro k ⟨hk, hn⟩
  simp (etaStruct := .none) only [push_cast, DrawG, Int.cast_ofNat_Int, seval]
  refine cond_i (fun h => ?_) (fun h => ?_)
  ·have hlt : k < l.length := by simpa using h
   simp (etaStruct := .none) only [push_cast, DrawG, Int.cast_ofNat_Int, seval, getD_map _ _ _ hlt, seaP]
   repeat with_reducible refine obA ?_
   refine callP (hp _ (List.getElem_mem hlt)) (by simp only [cvL_append, ha, hb, cvL, cv]; exact WkL.refl _) ?_
   simp (etaStruct := .none) only [push_cast, DrawG, Int.cast_ofNat_Int, seval]
   refine cond_i (fun h => ?_) (fun h => ?_)
   ·simp (etaStruct := .none) only [push_cast, DrawG, Int.cast_ofNat_Int, seval]
    exact ret0 rfl trivial (Wk.of (by rw [ixOf_hit p l k hlt h hn]; rfl))
   ·simp (etaStruct := .none) only [push_cast, DrawG, Int.cast_ofNat_Int, seval]
    refine ⟨k + 1, ⟨by omega, fun j hj hjk => ?_⟩, by omega, To.mk [] rfl rfl List.nodup_nil trivial ?_⟩
    ·by_cases e : j = k
     ·subst e; exact h
     ·exact hn j hj (by omega)
    ·simp (etaStruct := .none) only [push_cast, DrawG, Int.cast_ofNat_Int, seval, ha, hb]
     simp (disch := omega) only [wrap_in, wk_self, tdv, tmd]
  ·have hge : k = l.length := by simp at h; omega
   subst hge
   simp (etaStruct := .none) only [push_cast, DrawG, Int.cast_ofNat_Int, seval]
   exact ret0 rfl trivial (Wk.of (by rw [ixOf_miss p l (fun j hj => hn j hj hj)]; rfl))
theorem sea_any (F : FuncId) (a b : List AV) (l : List Sea) (p : Sea → Bool) (hl : l.length ≤ 9223372036854775807) (hp : ∀ n ∈ l, Spec Try.prog F (a ++ [seaA n] ++ b) [] (B (p n)) []) (ha : ∀ h, cvL [] h a = a) (hb : ∀ h, cvL [] h b = b) :
 Spec Try.prog 38 [.c (.sl 3 (l.map seaP)), .clo (.func F) a b] [] (B (l.any p)) [] := by
 refine spec_am Try.func38 rfl rfl mix 9 rfl [.tmp 4] Try.results38 (Nat.le_of_ble_eq_true rfl) ?_
 simp (etaStruct := .none) only [push_cast, DrawG, Int.cast_ofNat_Int, seval]
 refine callP (sea_ix F a b l p hl hp ha hb) (by simp only [ha, hb, cvL, cv]; exact WkL.refl _) ?_
 simp (etaStruct := .none) only [push_cast, DrawG, Int.cast_ofNat_Int, seval]
 exact ret0 rfl trivial (Wk.of (by rw [ixOf_any]; rfl))
theorem rclo_s (o : Ord) (i : Int) : Spec Try.prog 73 ([] ++ [ordA o] ++ [.fel 1 [[.v (.int .i64 i)]] 0 0]) [] (B (ordNot i o)) [] := by
 refine spec_am Try.func73 rfl rfl mix 13 rfl [.tmp 3] Try.results73 (Nat.le_of_ble_eq_true rfl) ?_
 (try (refine xst ?_; try exact xtI))
 refine gcP (fun hcc => ocheck_s o) ?_
 (try (refine xst ?_; try exact xtI))
 (first | (refine retA rfl (Wk.of ?_); (try simp (etaStruct := .none) only [push_cast, DrawG, Int.cast_ofNat_Int, seval]); first | done | (simp [ordNot, *]; done) | (simp_all [ordNot]; done)) | (refine retA rfl ?_; (try simp (etaStruct := .none) only [push_cast, DrawG, Int.cast_ofNat_Int, seval]); (try simp [ordNot, *]); (try exact wkc)))
theorem seaBad_eq (s : Sea) : (decide (s.late < 0) || decide (1000000 < s.late) || (s.gone && (!decide (s.late = 0) || decide (0 < (s.waits.length : Int))))) = seaBad s := by
 unfold seaBad within
 rw [Bool.eq_iff_iff]; simp
theorem sright_s (s : Sea) (i : Int) (hl : seaL s) : Spec Try.prog 40 [seaA s, I .i64 i] [] (B (seaR s i)) [] := by
 unfold seaL at hl
 refine spec_am Try.func40 rfl rfl mix 33 rfl [.tmp 4] Try.results40 (Nat.le_of_ble_eq_true rfl) ?_
 (iterate 2 ((try simp (etaStruct := .none) only [push_cast, DrawG, Int.cast_ofNat_Int, seval, seaBad_eq s]); (try (refine xsu ?_; try exact xtI))))
 refine cond_i (fun h1 => ?_) (fun h1 => ?_)
 ·(try replace h1 := xhh h1)
  (iterate 2 ((try simp (etaStruct := .none) only [push_cast, DrawG, Int.cast_ofNat_Int, seval, seaBad_eq s]); (try (refine xsu ?_; try exact xtI))))
  (first | (refine retA rfl (Wk.of ?_); (try simp (etaStruct := .none) only [push_cast, DrawG, Int.cast_ofNat_Int, seval]); first | done | (simp [seaR, *]; done) | (simp_all [seaR]; done)) | (refine retA rfl ?_; (try simp (etaStruct := .none) only [push_cast, DrawG, Int.cast_ofNat_Int, seval]); (try simp [seaR, *]); (try exact wkc)))
 ·(try replace h1 := xhh h1)
  (iterate 2 ((try simp (etaStruct := .none) only [push_cast, DrawG, Int.cast_ofNat_Int, seval, seaBad_eq s]); (try (refine xsu ?_; try exact xtI))))
  refine callB (ord_any _ [] [.fel 1 [[.v (.int .i64 i)]] 0 0] s.waits (ordNot i) (by omega) (fun o _ => rclo_s o i) (fun _ => rfl) (fun _ => rfl)) (WkL.refl _) rfl ?_
  (iterate 2 ((try simp (etaStruct := .none) only [push_cast, DrawG, Int.cast_ofNat_Int, seval, seaBad_eq s]); (try (refine xsu ?_; try exact xtI))))
  (first | (refine retA rfl (Wk.of ?_); (try simp (etaStruct := .none) only [push_cast, DrawG, Int.cast_ofNat_Int, seval]); first | done | (simp [seaR, *]; done) | (simp_all [seaR]; done)) | (refine retA rfl ?_; (try simp (etaStruct := .none) only [push_cast, DrawG, Int.cast_ofNat_Int, seval]); (try simp [seaR, *]); (try exact wkc)))
theorem sclo_s (s : Sea) (hl : seaL s) : Spec Try.prog 39 ([] ++ [seaA s] ++ []) [] (B (decide (50 < s.waits.length))) [] := by
 unfold seaL at hl
 refine spec_am Try.func39 rfl rfl mix 7 rfl [.tmp 2] Try.results39 (Nat.le_of_ble_eq_true rfl) ?_
 (try (refine xst ?_; try exact xtI))
 exact ret0 rfl trivial (Wk.of (congrArg B (by rw [Bool.eq_iff_iff]; simp; omega)))
theorem scheck_s (l : List Sea) (hl : l.length ≤ 9223372036854775807) (hs : ∀ s ∈ l, seaL s) : Spec Try.prog 16 [.c (.sl 3 (l.map seaP))] [] (I .i64 (seasE l)) [] := by
 refine spec_am Try.func16 rfl rfl mix 27 rfl [.tmp 2] Try.results16 (Nat.le_of_ble_eq_true rfl) ?_
 (try (refine xst ?_; try exact xtI))
 refine cond_i (fun h1 => ?_) (fun h1 => ?_)
 ·(try replace h1 := xhh h1)
  have e : seasE l = 1 := by unfold seasE; rw [if_pos (by omega)]
  (try (refine xst ?_; try exact xtI))
  (first | (refine retA rfl (Wk.of ?_); (try simp (etaStruct := .none) only [push_cast, DrawG, Int.cast_ofNat_Int, seval]); first | done | (simp [e, *]; done) | (simp_all [e]; done)) | (refine retA rfl ?_; (try simp (etaStruct := .none) only [push_cast, DrawG, Int.cast_ofNat_Int, seval]); (try simp [e, *]); (try exact wkc)))
 ·(try replace h1 := xhh h1)
  (try (refine xst ?_; try exact xtI))
  refine caP (sea_any _ [] [] l (fun s => decide (50 < s.waits.length)) hl (fun s hh => sclo_s s (hs s hh)) (fun _ => rfl) (fun _ => rfl)) ?_
  (try (refine xst ?_; try exact xtI))
  refine cond_i (fun h2 => ?_) (fun h2 => ?_)
  ·(try replace h2 := xhh h2)
   have e : seasE l = 2 := by unfold seasE; rw [if_neg (by omega), if_pos h2]
   (try (refine xst ?_; try exact xtI))
   (first | (refine retA rfl (Wk.of ?_); (try simp (etaStruct := .none) only [push_cast, DrawG, Int.cast_ofNat_Int, seval]); first | done | (simp [e, *]; done) | (simp_all [e]; done)) | (refine retA rfl ?_; (try simp (etaStruct := .none) only [push_cast, DrawG, Int.cast_ofNat_Int, seval]); (try simp [e, *]); (try exact wkc)))
  ·(try replace h2 := xhh h2)
   (try (refine xst ?_; try exact xtI))
   refine loopI (fun k : Nat => ⟨[(17, I .i64 k), (16, I .i64 l.length), (15, .c (.sl 3 (l.map seaP)))], [], 0⟩) (fun k : Nat => k ≤ l.length ∧ ∀ j, j < k → seaR (l.getD j default) j = true) (fun k : Nat => l.length - k) (0) (⟨Nat.zero_le _, fun j h => by omega⟩) (To.mk [] rfl rfl List.nodup_nil trivial ?_) ?_
   ·simp (etaStruct := .none) only [push_cast, DrawG, Int.cast_ofNat_Int, seval]
   rintro k ⟨hk, hn⟩
   (try (refine xst ?_; try exact xtI))
   refine cond_i (fun h3 => ?_) (fun h3 => ?_)
   ·(try replace h3 := xhh h3)
    have hlt : k < l.length := by omega
    (iterate 2 ((try simp (etaStruct := .none) only [push_cast, DrawG, Int.cast_ofNat_Int, seval, getD_in _ _ _ hlt, seaP]); (try (refine xsu ?_; try exact xtI))))
    refine caP (sright_s (l.getD k default) k (hs _ (by rw [getD_at _ _ hlt]; exact List.getElem_mem hlt))) ?_
    (iterate 2 ((try simp (etaStruct := .none) only [push_cast, DrawG, Int.cast_ofNat_Int, seval, getD_in _ _ _ hlt, seaP]); (try (refine xsu ?_; try exact xtI))))
    refine cond_i (fun h4 => ?_) (fun h4 => ?_)
    ·(try replace h4 := xhh h4)
     have e : seasE l = 4 := by
      unfold seasE
      rw [if_neg (by omega), if_neg (by rw [h2]; simp), if_neg]
      rw [List.all_eq_true]
      intro hh
      have := hh k (by simp; omega)
      rw [h4] at this; simp at this
     (iterate 2 ((try simp (etaStruct := .none) only [push_cast, DrawG, Int.cast_ofNat_Int, seval, getD_in _ _ _ hlt, seaP]); (try (refine xsu ?_; try exact xtI))))
     (first | (refine retA rfl (Wk.of ?_); (try simp (etaStruct := .none) only [push_cast, DrawG, Int.cast_ofNat_Int, seval]); first | done | (simp [e, *]; done) | (simp_all [e]; done)) | (refine retA rfl ?_; (try simp (etaStruct := .none) only [push_cast, DrawG, Int.cast_ofNat_Int, seval]); (try simp [e, *]); (try exact wkc)))
    ·(try replace h4 := xhh h4)
     (iterate 2 ((try simp (etaStruct := .none) only [push_cast, DrawG, Int.cast_ofNat_Int, seval, getD_in _ _ _ hlt, seaP]); (try (refine xsu ?_; try exact xtI))))
     refine ⟨k + 1, ⟨by omega, fun j hj => by rcases Nat.lt_or_ge j k with h | h; exact hn j h; rw [show j = k by omega]; exact h4⟩, by omega, To.mk [] rfl rfl List.nodup_nil trivial ?_⟩
     ·(iterate 2 ((try simp (etaStruct := .none) only [push_cast, DrawG, Int.cast_ofNat_Int, seval, getD_in _ _ _ hlt, seaP]); (try (refine xsu ?_; try exact xtI))))
   ·(try replace h3 := xhh h3)
    have e : seasE l = 0 := by
     unfold seasE
     rw [if_neg (by omega), if_neg (by rw [h2]; simp), if_pos]
     rw [List.all_eq_true]
     intro i hi
     exact hn i (by simp at hi; omega)
    (try (refine xst ?_; try exact xtI))
    (first | (refine retA rfl (Wk.of ?_); (try simp (etaStruct := .none) only [push_cast, DrawG, Int.cast_ofNat_Int, seval]); first | done | (simp [e, *]; done) | (simp_all [e]; done)) | (refine retA rfl ?_; (try simp (etaStruct := .none) only [push_cast, DrawG, Int.cast_ofNat_Int, seval]); (try simp [e, *]); (try exact wkc)))
theorem sown_s (l : List Sea) (hl : l.length ≤ 100000) (hs : ∀ s ∈ l, seaL s) : Spec Try.prog 33 [.c (.sl 3 (l.map seaP))] [] (.own 0) [.row 38 3 (l.map seaP)] := by
 refine spec_am Try.func33 rfl rfl mix 25 rfl [.tmp 2] Try.results33 (Nat.le_of_ble_eq_true rfl) ?_
 (iterate 2 ((try simp (etaStruct := .none) only [push_cast, DrawG, Int.cast_ofNat_Int, seval, List.length_take, List.length_map]); (try (refine xsu ?_; try exact xtI))))
 refine loopI (fun k : Nat => ⟨[(11, I .i64 k), (10, I .i64 l.length), (9, .c (.sl 3 (l.map seaP))), (3, .own 0)], [(0, .row 38 3 ((l.take k).map seaP))], 1⟩) (fun k : Nat => k ≤ l.length) (fun k : Nat => l.length - k) (0) (Nat.zero_le _) (To.mk [0] rfl rfl (by decide) ?_ ?_) ?_
 ·simp (etaStruct := .none) only [push_cast, DrawG, Int.cast_ofNat_Int, seval]
 ·simp (etaStruct := .none) only [push_cast, DrawG, Int.cast_ofNat_Int, seval]
 rintro k hk
 (iterate 2 ((try simp (etaStruct := .none) only [push_cast, DrawG, Int.cast_ofNat_Int, seval, List.length_take, List.length_map]); (try (refine xsu ?_; try exact xtI))))
 refine cond_i (fun h1 => ?_) (fun h1 => ?_)
 ·(try replace h1 := xhh h1)
  have hlt : k < l.length := by omega
  (iterate 2 ((try simp (etaStruct := .none) only [push_cast, DrawG, Int.cast_ofNat_Int, seval, List.length_take, List.length_map, getD_in _ _ _ hlt, seaP]); (try (refine xsu ?_; try exact xtI))))
  have ts := take_snoc l k hlt
  refine caP (ord_copy (l.getD k default).waits (hs _ (by rw [getD_at _ _ hlt]; exact List.getElem_mem hlt))) ?_
  (iterate 2 ((try simp (etaStruct := .none) only [push_cast, DrawG, Int.cast_ofNat_Int, seval, List.length_take, List.length_map, getD_in _ _ _ hlt, seaP]); (try (refine xsu ?_; try exact xtI))))
  refine ⟨k + 1, by omega, by omega, To.mk [3] rfl rfl (by decide) ?_ ?_⟩
  ·(iterate 2 ((try simp (etaStruct := .none) only [push_cast, DrawG, Int.cast_ofNat_Int, seval, ts, List.map_append, seaP]); (try (refine xsu ?_; try exact xtI))))
  ·(iterate 2 ((try simp (etaStruct := .none) only [push_cast, DrawG, Int.cast_ofNat_Int, seval, List.length_take, List.length_map, getD_in _ _ _ hlt, seaP]); (try (refine xsu ?_; try exact xtI))))
 ·(try replace h1 := xhh h1)
  obtain rfl : k = l.length := by omega
  (iterate 2 ((try simp (etaStruct := .none) only [push_cast, DrawG, Int.cast_ofNat_Int, seval, List.length_take, List.length_map]); (try (refine xsu ?_; try exact xtI))))
  refine retM [0] rfl rfl (by decide) ⟨?_, trivial⟩ trivial ?_
  ·simp (etaStruct := .none) only [push_cast, DrawG, Int.cast_ofNat_Int, seval, List.take_length]
  ·simp (etaStruct := .none) only [push_cast, DrawG, Int.cast_ofNat_Int, seval]
end Go.Proofs.Ytdkmndimmpilaaa
namespace Go.Proofs.Ytdkmndimmpilaaa
set_option linter.all false
open Go.RowKit
set_option maxRecDepth 100000
set_option maxHeartbeats 1000000
def seaU (s : Sea) : List PV := [.undef, pI s.late, pB s.gone]
def waP (s : Sea) : List (List PV) := s.waits.map ordP
theorem waP_at (l : List Sea) (i : Nat) (hi : i < l.length) : (l.map waP).getD i [] = (l.getD i default).waits.map ordP := by simp [waP, hi]
theorem unN_sea (l : List Sea) (i : Nat) (w : List Ord) (hi : i < l.length) : unN 0 6 (l.map seaU) ((l.map waP).set i (w.map ordP)) = (l.set i ⟨w, (l.getD i default).late, (l.getD i default).gone⟩).map seaP := by
 apply List.ext_getElem?
 intro j
 unfold unN
 rw [List.getElem?_zipWith, List.getElem?_map, List.getElem?_map, List.getElem?_set, List.getElem?_set]
 by_cases hij : i = j
 ·subst hij
  simp [hi, seaU, seaP]
 ·rw [if_neg hij, if_neg hij, List.getElem?_map]
  cases l[j]? <;> simp [seaU, seaP, waP]
def sayE (l : List Sea) (o : Ord) : Int :=
 if seasE l ≠ 0 then seasE l else if ordE o ≠ 0 then ordE o else if (l.length : Int) ≤ o.by_ then 7 else if (l.getD o.by_.toNat default).gone = true then 9 else if (l.getD o.by_.toNat default).waits.length = 50 then 6 else 0
def sayV (l : List Sea) (o : Ord) : List Sea := l.set o.by_.toNat ⟨(l.getD o.by_.toNat default).waits ++ [o], (l.getD o.by_.toNat default).late, (l.getD o.by_.toNat default).gone⟩
def leaveE (l : List Sea) (p : Int) : Int :=
 if seasE l ≠ 0 then seasE l else if p < 0 ∨ (l.length : Int) ≤ p then 7 else if (l.getD p.toNat default).gone = true then 8 else 0
def leaveV (l : List Sea) (p : Int) : List Sea := l.set p.toNat ⟨[], 0, true⟩
def PvLe (p q : PV) : Prop := p = q ∨ (p = .v (.slice none 0 0) ∧ ∃ s, q = .sl s [])
inductive RowLe : List PV → List PV → Prop where
 | nil : RowLe [] []
 | cons {p q : PV} {r s : List PV} : PvLe p q → RowLe r s → RowLe (p :: r) (q :: s)
inductive RowsLe : List (List PV) → List (List PV) → Prop where
 | nil : RowsLe [] []
 | cons {p q : List PV} {r s : List (List PV)} : RowLe p q → RowsLe r s → RowsLe (p :: r) (q :: s)
theorem RowLe.len {a b : List PV} (h : RowLe a b) : a.length = b.length := by
 induction h with
 | nil => rfl
 | cons _ _ ih => simp [ih]
theorem RowsLe.len {a b : List (List PV)} (h : RowsLe a b) : a.length = b.length := by
 induction h with
 | nil => rfl
 | cons _ _ ih => simp [ih]
theorem PvLe.run {w : World} {F : Nat → Prop} {p q : PV} {u : Value} (h : PvLe p q) (hr : RelP w F p u) : RelP w F q u := by
 rcases h with rfl | ⟨rfl, s, rfl⟩
 ·exact hr
 ·simp only [RelP] at hr ⊢
  exact ⟨none, 0, hr.1, Nat.le_refl _, Nat.zero_le _, .inl trivial⟩
theorem RowLe.run {w : World} {F : Nat → Prop} {b : Nat} {xs ys : List PV} (h : RowLe xs ys) : ∀ {o : Nat}, RelC w F b o xs → RelC w F b o ys := by
 induction h with
 | nil => intro o hr; exact hr
 | cons hp _ ih =>
  intro o hr
  simp only [RelC] at hr ⊢
  obtain ⟨⟨u, h1, h2⟩, h3⟩ := hr
  exact ⟨⟨u, h1, hp.run h2⟩, ih h3⟩
theorem RowsLe.run {w : World} {F : Nat → Prop} {b sz : Nat} {xs ys : List (List PV)} (h : RowsLe xs ys) : ∀ {o : Nat}, RelE w F b sz o xs → RelE w F b sz o ys := by
 induction h with
 | nil => intro o hr; exact hr
 | cons hp _ ih =>
  intro o hr
  simp only [RelE] at hr ⊢
  exact ⟨by rw [← hp.len]; exact hr.1, hp.run hr.2.1, ih hr.2.2⟩
theorem Wk.rows {sz : Nat} {xs ys : List (List PV)} (h : RowsLe xs ys) : Wk (.c (.sl sz xs)) (.c (.sl sz ys)) := fun _ _ _ _ v hv => by
 simp only [RelA, RelP] at hv ⊢
 obtain ⟨a, c, rfl, h1, h2, h3⟩ := hv
 rw [h.len] at h1 ⊢
 refine ⟨a, c, rfl, h1, h2, ?_⟩
 rcases h3 with rfl | ⟨b, o, rfl, hb, hE⟩
 ·exact .inl (List.eq_nil_of_length_eq_zero h.len.symm)
 ·exact .inr ⟨b, o, rfl, hb, h.run hE⟩
theorem RowsLe.rep {x y : List PV} (h : RowLe x y) : ∀ n, RowsLe (List.replicate n x) (List.replicate n y)
 | 0 => .nil
 | n + 1 => by rw [List.replicate_succ, List.replicate_succ]; exact .cons h (RowsLe.rep h n)
theorem sea_zero : RowLe [.v (.slice none 0 0), .v (.int .i64 0), .v (.bool false)] (seaP ⟨[], 0, false⟩) := .cons (.inr ⟨rfl, 6, rfl⟩) (.cons (.inl rfl) (.cons (.inl rfl) .nil))
theorem RowLe.refl : ∀ a : List PV, RowLe a a
 | [] => .nil
 | _ :: r => .cons (.inl rfl) (RowLe.refl r)
theorem RowsLe.refl : ∀ a : List (List PV), RowsLe a a
 | [] => .nil
 | _ :: r => .cons (RowLe.refl _) (RowsLe.refl r)
theorem RowsLe.set {x y : List PV} (h : RowLe x y) : ∀ (l : List (List PV)) (i : Nat), RowsLe (l.set i x) (l.set i y)
 | [], _ => .nil
 | _ :: r, 0 => .cons h (RowsLe.refl r)
 | _ :: r, i + 1 => .cons (RowLe.refl _) (RowsLe.set h r i)
theorem sea_gone : RowLe [.v (.slice none 0 0), .v (.int .i64 0), .v (.bool true)] (seaP ⟨[], 0, true⟩) := .cons (.inr ⟨rfl, 6, rfl⟩) (.cons (.inl rfl) (.cons (.inl rfl) .nil))
theorem leaveV_map (l : List Sea) (p : Int) : (leaveV l p).map seaP = (l.map seaP).set p.toNat (seaP ⟨[], 0, true⟩) := by unfold leaveV; rw [List.map_set]
end Go.Proofs.Ytdkmndimmpilaaa
namespace Go.Proofs.Ytdkmndimmpilaaa
set_option linter.all false
open Go.RowKit
def lateS (s : Sea) : Sea := ⟨s.waits, if 0 < s.waits.length then 0 else if s.gone then s.late else min (s.late + 1) 1000000, s.gone⟩
theorem seasE_ok {l : List Sea} (h : seasE l = 0) : 1 ≤ l.length ∧ l.length ≤ 8 ∧ (∀ s ∈ l, s.waits.length ≤ 50) ∧ ∀ k, k < l.length → seaR (l.getD k default) k = true := by
 unfold seasE at h
 split at h
 ·simp at h
 ·split at h
  ·simp at h
  ·rename_i h1 h2
   split at h
   ·rename_i h3
    refine ⟨by omega, by omega, fun s hs => ?_, fun k hk => ?_⟩
    ·simp only [List.any_eq_true, decide_eq_true_eq, not_exists, not_and] at h2
     have := h2 s hs; omega
    ·exact List.all_eq_true.1 h3 k (by simpa using hk)
   ·simp at h
end Go.Proofs.Ytdkmndimmpilaaa
