/- The abstract machine, part L: less is known; a function's contract out of its code. -/
import Derived.Test.YtibknlfadoeglaaAmK
namespace Go.Proofs.Ytibknlfadoeglaa
set_option linter.all false
open Go.RowKit
def cvT (ids : List Nat) (h : Nat → Chunk) (f : Nat → AV) : List (Nat × AV) → Prop
  | [] => True
  | (t, x) :: r => Wk (cv ids h (f t)) x ∧ cvT ids h f r
def cvH (all : List Nat) (h : Nat → Chunk) : Nat → List Nat → List (Nat × Chunk) → Prop
  | _, [], [] => True
  | j, id :: r, (k, c) :: r' => k = j ∧ WkC (cvC all h (h id)) c ∧ cvH all h (j + 1) r r'
  | _, _, _ => False
def hsW (all : List Nat) (h : Nat → Chunk) : List Nat → List Chunk → Prop
  | [], [] => True
  | id :: r, c :: r' => WkC (cvC all h (h id)) c ∧ hsW all h r r'
  | _, _ => False
theorem hsW_at {all : List Nat} {h : Nat → Chunk} : ∀ {ids : List Nat} {hs : List Chunk}, hsW all h ids hs → ids.length = hs.length ∧ ∀ (j : Nat) (c : Chunk), hs[j]? = some c → ∃ id : Nat, ids[j]? = some id ∧ WkC (cvC all h (h id)) c
  | [], [], _ => ⟨rfl, fun j c h => by simp at h⟩
  | [], _ :: _, h => h.elim
  | _ :: _, [], h => h.elim
  | id :: r, c :: r', h => by
    obtain ⟨h1, h2⟩ := h
    obtain ⟨k1, k2⟩ := hsW_at h2
    refine ⟨by simp [k1], fun j d hd => ?_⟩
    cases j with
    | zero => simp at hd; subst hd; exact ⟨id, by simp, h1⟩
    | succ j => obtain ⟨x, e1, e2⟩ := k2 j d (by simpa using hd); exact ⟨x, by simpa using e1, e2⟩
theorem cvH_hs {all : List Nat} {h : Nat → Chunk} : ∀ {j : Nat} {ids : List Nat} {l : List (Nat × Chunk)}, cvH all h j ids l → hsW all h ids (l.map (·.2)) ∧ ∀ i, j ≤ i → lookC l i = nth (l.map (·.2)) (i - j)
  | _, [], [], _ => ⟨trivial, fun i _ => by simp [lookC, nth]⟩
  | _, [], _ :: _, h => h.elim
  | _, _ :: _, [], h => h.elim
  | j, id :: r, (k, c) :: r', h => by
    obtain ⟨rfl, h1, h2⟩ := h
    obtain ⟨k1, k2⟩ := cvH_hs h2
    refine ⟨⟨h1, k1⟩, fun i hi => ?_⟩
    simp only [lookC]
    by_cases e : k = i
    · subst e; simp [nth]
    · rw [if_neg e, k2 i (by omega)]
      unfold nth
      rw [show i - k = (i - (k + 1)) + 1 from by omega]
      simp
theorem cvT_at {ids : List Nat} {h : Nat → Chunk} {f : Nat → AV} : ∀ {l : List (Nat × AV)}, cvT ids h f l → ∀ t, Wk (cv ids h (f t)) (look l t)
  | [], _, t => by simp only [look]; exact Wk.undef _
  | (k, x) :: r, h, t => by
    simp only [look]
    by_cases e : k = t
    · subst e; rw [if_pos rfl]; exact h.1
    · rw [if_neg e]; exact cvT_at h.2 t
section
variable {P : Program} {W : World} {N U F : Nat → Prop} {β : Nat → Option Bind} {h hT : Nat → Chunk} {w : World}
/-- The memory where the pieces ids alone are owned, said of hs. -/
theorem reshape_mem (M : MemOk W N U F β h w) {ids : List Nat} (hnd : ids.Nodup) {hs : List Chunk} (hh : hsW ids h ids hs) : MemOk W N (· < ids.length) (frzF ids h F β) (selB ids β) (nth hs) w := by
  have M1 := cv_mem (hT := h) M (fun _ _ => rfl) ids hnd
  obtain ⟨hl, hat⟩ := hsW_at hh
  refine ⟨M1.size, M1.os, M1.tape, M1.output, M1.frame, M1.fin, M1.used, fun j hj => ?_, M1.dis, M1.off⟩
  unfold nth at hj
  rw [List.getD_eq_getElem?_getD] at hj
  cases hc : hs[j]? with
  | none => rw [hc] at hj; simp at hj
  | some c =>
    rw [hc] at hj
    simp only [Option.getD_some] at hj
    obtain ⟨id, e1, e2⟩ := hat j c hc
    have hn : nth (ids.map fun id => cvC ids h (h id)) j = cvC ids h (h id) := by
      unfold nth; rw [List.getD_eq_getElem?_getD, List.getElem?_map, e1]; rfl
    have hne : nth (ids.map fun id => cvC ids h (h id)) j ≠ .dead := by
      rw [hn]
      intro he
      rw [he] at e2
      cases c with
      | dead => exact hj rfl
      | row _ _ _ => exact e2.elim
      | blk _ _ => exact e2.elim
      | mp _ _ _ => exact e2.elim
    obtain ⟨bd, hb, hk⟩ := M1.ch j hne
    refine ⟨bd, hb, ?_⟩
    rw [hn] at hk
    unfold nth
    rw [List.getD_eq_getElem?_getD, hc]
    exact e2.run hk
theorem frzF_g (M : MemOk W N U F β h w) {ids : List Nat} {b : Nat} (hb : frzF ids h F β b) : F b ∨ W.heap.size ≤ b ∨ N b := by
  rcases hb with hb | ⟨id, bd, _, _, h1, h2⟩
  · exact .inl hb
  · exact .inr (M.off id bd b h1 h2).2.2
end
theorem range_at {ids : List Nat} {k : Nat} (h : ids.take k = List.range k) {j : Nat} (hj : j < k) : ids[j]? = some j := by
  have : (ids.take k)[j]? = some j := by rw [h]; simp [hj]
  rwa [List.getElem?_take, if_pos hj] at this
theorem To.mk {k : Nat} {s s' : St} (ids : List Nat) (hk : ids.take k = List.range k) (hn : s'.n = ids.length) (hnd : ids.Nodup) (hh : cvH ids (lookC s.h) 0 ids s'.h) (ht : cvT ids (lookC s.h) (look s.t) s'.t) : ToK k s s' := by
  intro H F β a w hHk C
  obtain ⟨h1, h2⟩ := cvH_hs hh
  have M := reshape_mem C.m hnd h1
  refine ⟨frzF ids (lookC s.h) F β, selB ids β, ?_, ?_, C.nt, C.d, fun b hb => .inl (C.f b hb), fun b hb => ?_, fun i bd hi hb => ?_, ?_⟩
  · intro t
    rw [hn]
    exact cvT_at ht t _ _ _ _ _ (cv_run C.m (fun _ _ => rfl) ids _ _ (C.t t))
  · have e : lookC s'.h = nth (s'.h.map (·.2)) := by funext i; simpa using h2 i (Nat.zero_le _)
    rw [hn, e]; exact M
  · rcases frzF_g C.m hb with h | h
    · exact C.g b h
    · exact .inr h
  · rw [hHk] at hi
    have := range_at hk hi
    simp only [selB, this] at hb
    exact C.e i bd (by rw [hHk]; exact hi) hb
  · rw [hn, hHk]
    have : (ids.take k).length = k := by rw [hk]; simp
    rw [List.length_take] at this
    omega
def resAV (P : Program) (f : Nat → AV) (h : Nat → Chunk) : List ResultVar → Option (Prop × List AV)
  | [] => some (True, [])
  | .tmp t :: r => match resAV P f h r with
    | some (φ, xs) => some (φ, f t :: xs)
    | none => none
  | .cell a t :: r => match loadAV P h t (f a), resAV P f h r with
    | some (ψ, x), some (φ, xs) => some (ψ ∧ φ, x :: xs)
    | _, _ => none
def oneV : List AV → AV
  | [x] => x
  | xs => .tup xs
/-- What a function leaves. -/
def RetG0 (P : Program) (k : Nat) (rs : List ResultVar) (r : AV) (hs' : List Chunk) (s : St) : Prop :=
  ∃ ids : List Nat, ids.take k = List.range k ∧ ids.Nodup ∧ hsW ids (lookC s.h) ids hs' ∧ match resAV P (look s.t) (lookC s.h) rs with
    | some (φ, xs) => φ ∧ Wk (cv ids (lookC s.h) (oneV xs)) r
    | none => False
/-- The same, of a state that tells less. -/
def RetG (P : Program) (k : Nat) (rs : List ResultVar) (r : AV) (hs' : List Chunk) (s : St) : Prop := ∃ s', ToK k s s' ∧ RetG0 P k rs r hs' s'
def RetQ (P : Program) (k : Nat) (rs : List ResultVar) (r : AV) (hs' : List Chunk) : Exit → St → Prop
  | .normal, s => RetG P k rs r hs' s
  | .ret, s => RetG P k rs r hs' s
  | _, _ => False
def argsT : Nat → List AV → List (Nat × AV)
  | _, [] => []
  | k, x :: r => (k, x) :: argsT (k + 1) r
def hsT : Nat → List Chunk → List (Nat × Chunk)
  | _, [] => []
  | k, c :: r => (k, c) :: hsT (k + 1) r
theorem look_argsT : ∀ (k : Nat) (xs : List AV) (t : Nat), look (argsT k xs) t = if k ≤ t then (xs[t - k]?).getD .undef else .undef
  | _, [], t => by simp [argsT, look]
  | k, x :: r, t => by
    simp only [argsT, look]
    by_cases h : k = t
    · subst h; simp
    · rw [if_neg h, look_argsT (k + 1) r t]
      by_cases h2 : k ≤ t
      · rw [if_pos (by omega), if_pos h2, show t - k = (t - (k + 1)) + 1 from by omega, List.getElem?_cons_succ]
      · rw [if_neg (by omega), if_neg h2]
theorem look_hsT : ∀ (k : Nat) (xs : List Chunk) (t : Nat), lookC (hsT k xs) t = if k ≤ t then nth xs (t - k) else .dead
  | _, [], t => by simp [hsT, lookC, nth]
  | k, x :: r, t => by
    simp only [hsT, lookC]
    by_cases h : k = t
    · subst h; simp [nth]
    · rw [if_neg h, look_hsT (k + 1) r t]
      by_cases h2 : k ≤ t
      · rw [if_pos (by omega), if_pos h2]
        unfold nth
        rw [show t - k = (t - (k + 1)) + 1 from by omega]; simp
      · rw [if_neg (by omega), if_neg h2]
def resOf (tmps : Array Value) : ResultVar → Sem Value
  | .tmp t => pure (tmps.getD t undef)
  | .cell a t => do loadVar t (← asAddr (tmps.getD a undef))
theorem results_eq (fn : Func) (tmps : Array Value) : results fn tmps = (do let vs ← fn.results.mapM (resOf tmps); pure (if h : vs.size = 1 then vs[0] else .tuple vs)) := rfl
theorem res_run {P : Program} {H : Hist} {s : St} {F : Nat → Prop} {β : Nat → Option Bind} {a : Act} {w : World} (C : Conc H s F β a w) : ∀ (rs : List ResultVar) (φ : Prop) (xs : List AV), resAV P (look s.t) (lookC s.h) rs = some (φ, xs) → φ →
    ∃ vs, (rs.mapM (resOf a.tmps)).run P w = .ok vs w ∧ RelL (· < s.n) w F β xs vs
  | [], φ, xs, h, _ => by
    simp only [resAV, Option.some.injEq, Prod.mk.injEq] at h
    obtain ⟨_, rfl⟩ := h
    exact ⟨[], by simp, by simp [RelL]⟩
  | .tmp t :: r, φ, xs, h, hφ => by
    unfold resAV at h
    split at h
    · rename_i φ' ys hr
      simp only [Option.some.injEq, Prod.mk.injEq] at h
      obtain ⟨rfl, rfl⟩ := h
      obtain ⟨vs, h1, h2⟩ := res_run C r _ _ hr hφ
      refine ⟨a.tmps.getD t undef :: vs, ?_, by simp only [RelL]; exact ⟨_, _, rfl, C.t t, h2⟩⟩
      simp only [List.mapM_cons, resOf, Sem.run_bind, Sem.run_pure, Result.andThen_ok, h1]
    · simp at h
  | .cell x t :: r, φ, xs, h, hφ => by
    unfold resAV at h
    split at h
    · rename_i ψ y φ' ys hl hr
      simp only [Option.some.injEq, Prod.mk.injEq] at h
      obtain ⟨rfl, rfl⟩ := h
      obtain ⟨vs, h1, h2⟩ := res_run C r _ _ hr hφ.2
      obtain ⟨z, h3, h4⟩ := load_run C.m (fun _ _ => rfl) hl hφ.1 (C.t x)
      have hp : ∃ ad, a.tmps.getD x undef = .pointer (some ad) := by
        cases hv : a.tmps.getD x undef with
        | pointer ad =>
          cases ad with
          | some ad => exact ⟨ad, rfl⟩
          | none => rw [hv] at h3; simp [Instr.loadAt, Instr.sureAddr] at h3
        | _ => rw [hv] at h3; simp [Instr.loadAt, Instr.sureAddr] at h3
      obtain ⟨ad, hp⟩ := hp
      rw [hp] at h3
      simp only [Instr.loadAt, Instr.sureAddr, Sem.run_bind, Sem.run_pure, Result.andThen_ok] at h3
      refine ⟨z :: vs, ?_, by simp only [RelL]; exact ⟨_, _, rfl, h4, h2⟩⟩
      simp only [List.mapM_cons, resOf, Sem.run_bind, hp, asAddr, Sem.run_pure, Result.andThen_ok, h3, h1]
    · simp at h
theorem spec_of {P : Program} {f : FuncId} {fn : Func} {c : Code} {args : List AV} {hs hs' : List Chunk} {r : AV} (hf : P.funcs[f]? = some fn) (hb : fn.body = some c) (hn : (fn.name == "runtime.NumGoroutine") = false)
    (hd : ∀ (H : Hist) (ops : Array Oper) (Q : Exit → St → Prop) (s : St) (F : Nat → Prop) (β : Nat → Option Bind) (a : Act) (w : World) (id : Nat), DrawG P H.nt ops (Q .normal) s → Conc H s F β a w → (Code.region id ops true).wp P (Post H Q) a w)
    (nt : Nat) (hnt : nt = args.length + (fn.ntmps - args.length)) (rs : List ResultVar) (hrs : fn.results = rs.toArray) (hle : hs.length ≤ hs'.length)
    (h : awp P nt hs.length c (RetQ P hs.length rs r hs') ⟨argsT 0 args, hsT 0 hs, hs.length⟩) : Spec P f args hs r hs' := by
  refine ⟨⟨fn, hf, by rw [hb]; rfl, hn⟩, hle, ?_⟩
  intro w F β vs M hv
  have hvl := hv.len
  refine calls_of_wp hf hb ?_
  have C : Conc ⟨w, inB β, F, β, hs.length, nt⟩ ⟨argsT 0 args, hsT 0 hs, hs.length⟩ F β { tmps := vs.toArray ++ Array.replicate (fn.ntmps - vs.toArray.size) undef, defers := [] } w := by
    refine ⟨fun t => ?_, ?_, ?_, rfl, fun b hb => hb, fun b hb => .inl hb, fun i bd _ hb => hb, Nat.le_refl _⟩
    · rw [look_argsT]
      simp only [Nat.zero_le, if_true, Nat.sub_zero]
      cases hx : args[t]? with
      | none => simp only [Option.getD_none, RelA]
      | some x =>
        obtain ⟨u, hu, hr⟩ := hv.at t x hx
        have ht : t < vs.length := (List.getElem?_eq_some_iff.1 hu).1
        have e1 : (vs.toArray ++ Array.replicate (fn.ntmps - vs.toArray.size) undef).getD t undef = u := by
          rw [Array.getD_eq_getD_getElem?, Array.getElem?_append_left (by simpa using ht)]
          simp [hu]
        simp only [Option.getD_some]
        rw [e1]; exact hr
    · have e : lookC (hsT 0 hs) = nth hs := by funext i; rw [look_hsT]; simp
      simp only [e]; exact M
    · simp [hvl, hnt]
  refine wp_mono (awp_run (hd _) c _ _ F β _ w h C) ?_
  rintro e a' w' ⟨s', F', β', C', hq⟩
  have fin : RetG P hs.length rs r hs' s' → a'.defers = [] ∧ ∃ v, (results fn a'.tmps).run P w' = .ok v w' ∧ ∃ v_1 F'_1 β'_1, Ending.returned v = Ending.returned v_1 ∧ MemOk w (inB β) (· < hs'.length) F'_1 β'_1 (nth hs') w' ∧ RelA (· < hs'.length) w' F'_1 β'_1 r v_1 ∧ (∀ b, F b → F'_1 b) ∧ (∀ b, F'_1 b → F b ∨ w.heap.size ≤ b ∨ inB β b) ∧ ∀ i bd, i < hs.length → β'_1 i = some bd → β i = some bd := by
    rintro ⟨s', hto, ids, h1, h2, h3, h4⟩
    obtain ⟨F', β', C'⟩ := hto _ F' β' a' w' rfl C'
    split at h4
    · rename_i φ xs hr
      obtain ⟨vs', h5, h6⟩ := res_run C' rs φ xs hr h4.1
      have M' := reshape_mem C'.m h2 h3
      obtain ⟨hl, _⟩ := hsW_at h3
      rw [hl] at M'
      have hone : ∃ v, (if h : vs'.toArray.size = 1 then vs'.toArray[0] else .tuple vs'.toArray) = v ∧ RelA (· < s'.n) w' F' β' (oneV xs) v := by
        have hxl := h6.len
        match xs, vs', h6, hxl with
        | [x], [u], h6, _ =>
          simp only [RelL] at h6
          obtain ⟨u', us, he, h7, _⟩ := h6
          simp only [List.cons.injEq] at he
          obtain ⟨rfl, _⟩ := he
          exact ⟨u, by simp, h7⟩
        | [], [], _, _ => exact ⟨.tuple #[], by simp, by simp only [oneV, RelA]; exact ⟨#[], rfl, by simp [RelL]⟩⟩
        | x :: y :: r, u :: v :: us, h6, _ =>
          refine ⟨.tuple (u :: v :: us).toArray, by simp, ?_⟩
          simp only [oneV, RelA]
          exact ⟨_, rfl, h6⟩
      obtain ⟨v, hv1, hv2⟩ := hone
      refine ⟨C'.d, v, ?_, v, _, _, rfl, M', ?_, fun b hb => .inl (C'.f b hb), fun b hb => ?_, fun i bd hi hb => ?_⟩
      · rw [results_eq, hrs, List.mapM_toArray]
        simp only [Sem.run_bind, Sem.run_map, h5, Result.andThen_ok, Sem.run_pure]
        rw [hv1]
      · have := h4.2 _ _ _ _ _ (cv_run C'.m (fun _ _ => rfl) ids _ _ hv2)
        rw [hl] at this; exact this
      · rcases frzF_g C'.m hb with h | h
        · exact C'.g b h
        · exact .inr h
      · have := range_at h1 hi
        simp only [selB, this] at hb
        exact C'.e i bd hi hb
    · exact h4.elim
  cases e with
  | normal => exact fin hq
  | ret => exact fin hq
  | _ => exact hq.elim
end Go.Proofs.Ytibknlfadoeglaa
