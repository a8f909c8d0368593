/- The abstract machine, part N: the moves of a proof. -/
import Derived.Test.YtibknlfadoeglaaAmM
namespace Go.Proofs.Ytibknlfadoeglaa
set_option linter.all false
open Go.RowKit
theorem spec_am {P : Program} {f : FuncId} {fn : Func} {c : Code} {args : List AV} {hs hs' : List Chunk} {r : AV} (hf : P.funcs[f]? = some fn) (hb : fn.body = some c) (hn : (fn.name == "runtime.NumGoroutine") = false) (hmix : P.follows .mixedOrders = true)
    (nt : Nat) (hnt : nt = args.length + (fn.ntmps - args.length)) (rs : List ResultVar) (hrs : fn.results = rs.toArray) (hle : hs.length ≤ hs'.length)
    (h : awp P nt hs.length c (RetQ P hs.length rs r hs') ⟨argsT 0 args, hsT 0 hs, hs.length⟩) : Spec P f args hs r hs' :=
  spec_of hf hb hn (fun _ _ _ _ _ _ _ _ id hx C => draw_run hmix id hx C) nt hnt rs hrs hle h
section
variable {k : Nat} {b : Bool} {X Y : (Exit → St → Prop) → St → Prop} {Q : Exit → St → Prop} {s : St}
theorem cond_i (h1 : b = true → X Q s) (h2 : b = false → Y Q s) : CondJ k (.c (.v (.bool b))) X Y Q s := .inl ⟨h1, h2⟩
theorem cond_t (h1 : X Q s) : CondJ k (.c (.v (.bool true))) X Y Q s := .inl ⟨fun _ => h1, fun h => by simp at h⟩
theorem cond_f (h1 : Y Q s) : CondJ k (.c (.v (.bool false))) X Y Q s := .inl ⟨fun h => by simp at h, fun _ => h1⟩
/-- Both ways come to S x with Pr x; what follows is shown once. -/
theorem cond_j {α : Type} (S : α → St) (Pr : α → Prop) (h1 : b = true → X (joinK k S Pr Q) s) (h2 : b = false → Y (joinK k S Pr Q) s) (h : ∀ x, Pr x → Q .normal (S x)) : CondJ k (.c (.v (.bool b))) X Y Q s := .inr ⟨α, S, Pr, ⟨h1, h2⟩, h⟩
end
/-- Nothing is said. -/
def Tr : Prop := True
theorem trI : Tr := True.intro
theorem joinK_n {α : Type} {k : Nat} {S : α → St} {Pr : α → Prop} {Q : Exit → St → Prop} {s : St} : joinK k S Pr Q .normal s = ∃ y, Pr y ∧ ToK k s (S y) := rfl
theorem joinK_e {α : Type} {k : Nat} {S : α → St} {Pr : α → Prop} {Q : Exit → St → Prop} {s : St} {i : Nat} : joinK k S Pr Q (.exit i) s = Q (.exit i) s := rfl
theorem joinK_r {α : Type} {k : Nat} {S : α → St} {Pr : α → Prop} {Q : Exit → St → Prop} {s : St} : joinK k S Pr Q .ret s = Q .ret s := rfl
section
variable {P : Program} {f : FuncId} {args args' : List AV} {h : Nat → Chunk} {m : Nat} {K : Eff → Prop} {r : AV}
/-- A call of a function without memory of the caller's own. -/
theorem callP (S : Spec P f args' [] r []) (hw : WkL (cvL [] noC args) args') (k : K ⟨up [] m r, [], 0⟩) : CallG P f args h m K :=
  ⟨_, .inl ⟨[], args', [], r, [], List.nodup_nil, hw, rfl, by simp, S, rfl⟩, k⟩
/-- A call that reads the caller's own memory; its result holds none. -/
theorem callB (S : Spec P f args' [] r []) (hw : WkL (cvL [] h args) args') (hr : scal r = true) (k : K ⟨r, [], 0⟩) : CallG P f args h m K :=
  ⟨_, .inr ⟨args', r, hr, hw, S, rfl⟩, k⟩
/-- A call that is handed the pieces ids. -/
theorem callM {hs hs' : List Chunk} (ids : List Nat) (S : Spec P f args' hs r hs') (hw : WkL (cvL ids noC args) args') (hh : hs = ids.map (fun id => cvC ids noC (h id))) (hnd : ids.Nodup) (hal : ∀ id ∈ ids, h id ≠ .dead) (k : K ⟨up ids m r, upsL ids m 0 hs', hs'.length - ids.length⟩) : CallG P f args h m K :=
  ⟨_, .inl ⟨ids, args', hs, r, hs', hnd, hw, hh, hal, S, rfl⟩, k⟩
variable {c : Bool} {φ : Prop}
theorem gcallP (S : c = true → Spec P f args' [] r []) (hw : WkL (cvL [] noC args) args') (hφ : c = true → φ) (k : K ⟨.opt c (up [] m r), [], 0⟩) : GCall P c f args φ h m K :=
  .inl ⟨_, fun hc => ⟨hφ hc, .inl ⟨[], args', [], r, [], List.nodup_nil, hw, rfl, by simp, S hc, rfl⟩⟩, k⟩
theorem gcallB (S : c = true → Spec P f args' [] r []) (hw : WkL (cvL [] h args) args') (hr : scal r = true) (hφ : c = true → φ) (k : K ⟨.opt c r, [], 0⟩) : GCall P c f args φ h m K :=
  .inl ⟨_, fun hc => ⟨hφ hc, .inr ⟨args', r, hr, hw, S hc, rfl⟩⟩, k⟩
end
theorem loop_i {k : Nat} {A : (Exit → St → Prop) → St → Prop} {Q : Exit → St → Prop} {s : St} {α : Type} (S : α → St) (Pr : α → Prop) (μ : α → Nat) (x : α) (hx : Pr x) (h0 : ToK k s (S x))
    (hr : ∀ x, Pr x → A (fun e s' => match e with | .normal => ∃ y, Pr y ∧ μ y < μ x ∧ ToK k s' (S y) | e => Q e s') (S x)) : LoopG k A Q s := ⟨α, S, Pr, μ, ⟨x, hx, h0⟩, hr⟩
def lpK {α : Type} (k : Nat) (S : α → St) (Pr : α → Prop) (μ : α → Nat) (x : α) (Q : Exit → St → Prop) : Exit → St → Prop := fun e s' => match e with
  | .normal => ∃ y, Pr y ∧ μ y < μ x ∧ ToK k s' (S y)
  | e => Q e s'
/-- A loop: at its head S x with Pr x; μ goes down. -/
theorem loopI {k : Nat} {A : (Exit → St → Prop) → St → Prop} {Q : Exit → St → Prop} {s : St} {α : Type} (S : α → St) (Pr : α → Prop) (μ : α → Nat) (x : α) (hx : Pr x) (h0 : ToK k s (S x))
    (hr : ∀ x, Pr x → A (lpK k S Pr μ x Q) (S x)) : LoopG k A Q s := ⟨α, S, Pr, μ, ⟨x, hx, h0⟩, hr⟩
theorem lpK_n {α : Type} {k : Nat} {S : α → St} {Pr : α → Prop} {μ : α → Nat} {x : α} {Q : Exit → St → Prop} {s : St} : lpK k S Pr μ x Q .normal s = ∃ y, Pr y ∧ μ y < μ x ∧ ToK k s (S y) := rfl
theorem lpK_e {α : Type} {k : Nat} {S : α → St} {Pr : α → Prop} {μ : α → Nat} {x : α} {Q : Exit → St → Prop} {s : St} {i : Nat} : lpK k S Pr μ x Q (.exit i) s = Q (.exit i) s := rfl
theorem lpK_r {α : Type} {k : Nat} {S : α → St} {Pr : α → Prop} {μ : α → Nat} {x : α} {Q : Exit → St → Prop} {s : St} : lpK k S Pr μ x Q .ret s = Q .ret s := rfl
/-- What a function leaves, without pieces of its own. -/
theorem ToK.trans {k : Nat} {s s' s'' : St} (h : ToK k s s') (h' : ToK k s' s'') : ToK k s s'' := by
  intro H F β a w hk C
  obtain ⟨F', β', C'⟩ := h H F β a w hk C
  exact h' H F' β' a w hk C'
/-- A nil slice as a row of one's own. -/
theorem To.nil {k : Nat} {s : St} (t e sz : Nat) (ht : look s.t t = .c (.v (.slice none 0 0))) : ToK k s ⟨(t, .own s.n) :: s.t, (s.n, .row e sz []) :: s.h, s.n + 1⟩ := by
  intro H F β a w hk C
  have hb0 : ∀ bd, β s.n ≠ some bd := fun bd hb => absurd (C.m.used _ bd hb) (Nat.lt_irrefl _)
  obtain ⟨M, E⟩ := C.m.step (w' := w) (h' := lookC ((s.n, .row e sz []) :: s.h)) (β' := updB β s.n (some ⟨.slice none 0 0, none, 0, sz⟩)) (F' := F) (U' := (· < s.n + 1)) (fun i => i = s.n)
    (fun i hi => by simp [updB, Ne.symm hi]) (fun i hi => by simp [lookC, Ne.symm hi]) rfl rfl rfl (Nat.le_refl _) (fun _ _ _ => rfl) (fun i hi => Nat.lt_succ_of_lt hi) (fun b hb => hb)
    (fun b hb => ⟨C.m.fin b hb, .inl hb⟩) (fun i bd' hi hu => by subst hi; exact absurd hu (Nat.lt_irrefl _))
    (fun i bd' hi hb => by
      subst hi
      simp only [updB, if_true, Option.some.injEq] at hb
      subst hb
      exact ⟨Nat.lt_succ_self _, fun b hb => by simp at hb⟩)
    (fun i j _ _ _ hi hj _ _ _ _ => by rw [hi, hj])
    (fun E i hi _ => by
      subst hi
      refine ⟨⟨.slice none 0 0, none, 0, sz⟩, by simp [updB], ?_⟩
      simp only [lookC, if_true, ChOk]
      simp)
  refine ⟨F, updB β s.n (some ⟨.slice none 0 0, none, 0, sz⟩), fun t' => ?_, M, C.nt, C.d, C.f, C.g, fun i bd' hi hb => ?_, Nat.le_succ_of_le C.k⟩
  · simp only [look]
    by_cases h : t = t'
    · subst h
      rw [if_pos rfl]
      have h1 := C.t t
      rw [ht, relC] at h1
      simp only [RelA]
      rw [h1.1]
      refine ⟨Nat.lt_succ_self _, rfl, fun bd hb => ?_⟩
      simp only [updB, if_true, Option.some.injEq] at hb
      subst hb; rfl
    · rw [if_neg h]; exact RelA.mono E _ _ (C.t t')
  · refine C.e i bd' hi ?_
    have : s.n ≠ i := by have := C.k; omega
    simpa [updB, this] using hb
theorem ToK.refl (k : Nat) (s : St) : ToK k s s := fun _ F β _ _ _ C => ⟨F, β, C⟩
theorem ret0 {P : Program} {rs : List ResultVar} {r : AV} {s : St} {φ : Prop} {xs : List AV} (h : resAV P (look s.t) (lookC s.h) rs = some (φ, xs)) (hφ : φ) (hw : Wk (cv [] (lookC s.h) (oneV xs)) r) : RetG P 0 rs r [] s := by
  refine ⟨s, ToK.refl _ _, [], rfl, List.nodup_nil, trivial, ?_⟩
  rw [h]
  exact ⟨hφ, hw⟩
theorem retM {P : Program} {k : Nat} {rs : List ResultVar} {r : AV} {s : St} {hs' : List Chunk} {φ : Prop} {xs : List AV} (ids : List Nat) (h : resAV P (look s.t) (lookC s.h) rs = some (φ, xs)) (hk : ids.take k = List.range k) (hnd : ids.Nodup) (hh : hsW ids (lookC s.h) ids hs') (hφ : φ) (hw : Wk (cv ids (lookC s.h) (oneV xs)) r) : RetG P k rs r hs' s := by
  refine ⟨s, ToK.refl _ _, ids, hk, hnd, hh, ?_⟩
  rw [h]
  exact ⟨hφ, hw⟩
theorem retTo {P : Program} {k : Nat} {rs : List ResultVar} {r : AV} {s s' : St} {hs' : List Chunk} (hto : ToK k s s') (h : RetG P k rs r hs' s') : RetG P k rs r hs' s := by
  obtain ⟨s2, h2, h3⟩ := h
  exact ⟨s2, hto.trans h2, h3⟩
/-- A contract of the model over plain values, as one of the machine. -/
theorem spec_scal {P : Program} {f : FuncId} (hf : Enters P f) (xs : List Value) (v : Value) (hx : v.oneCell' = true) (h : ∀ w, Calls P f xs.toArray w fun e w' => e = .returned v ∧ Below w.heap.size w w') : Spec P f (xs.map fun x => .c (.v x)) [] (.c (.v v)) [] := by
  refine ⟨hf, Nat.le_refl _, fun w F β vs M hv => ?_⟩
  have hvs : vs = xs := by
    have hl := hv.len
    apply List.ext_getElem?
    intro i
    by_cases hi : i < xs.length
    · obtain ⟨u, hu, hr⟩ := hv.at i (.c (.v xs[i])) (by simp [hi])
      rw [hu, (relC.1 hr).1]; simp [hi]
    · rw [List.getElem?_eq_none (by simp at hl; omega), List.getElem?_eq_none (by omega)]
  subst hvs
  refine (h w).mono ?_
  rintro e w' ⟨rfl, hb⟩
  obtain ⟨S1, S2⟩ := M.step (w' := w') (h' := nth []) (β' := β) (F' := F) (U' := (· < 0)) (fun _ => False) (fun _ _ => rfl) (fun _ _ => rfl) hb.os hb.tape hb.output hb.size (fun b h _ => hb.block b h) (fun _ h => h) (fun _ h => h)
    (fun b h => ⟨Nat.lt_of_lt_of_le (M.fin b h) hb.size, .inl h⟩) (fun _ _ h => h.elim) (fun _ _ h => h.elim) (fun _ _ _ _ _ h => h.elim) (fun _ _ h => h.elim)
  exact ⟨v, F, β, rfl, S1, relC.2 ⟨rfl, hx⟩, fun _ h => h, fun _ h => .inl h, fun _ _ _ h => h⟩
theorem enters {P : Program} {f : FuncId} {fn : Func} (hf : P.funcs[f]? = some fn) (hb : fn.body.isSome = true) (hn : (fn.name == "runtime.NumGoroutine") = false) : Enters P f := ⟨fn, hf, hb, hn⟩
theorem cvL_append (ids : List Nat) (h : Nat → Chunk) : ∀ xs ys, cvL ids h (xs ++ ys) = cvL ids h xs ++ cvL ids h ys
  | [], ys => rfl
  | x :: r, ys => by simp [cvL, cvL_append ids h r ys]
theorem getD_map {α : Type} (f : α → List PV) (l : List α) (i : Nat) (h : i < l.length) : (l.map f).getD i [] = f l[i] := by simp [h]
theorem wk_self (x : AV) : Wk x x = True := eq_true (Wk.refl x)
theorem bsel_false (t p : Bool) : bsel t p false = (t && p) := by cases t <;> simp [bsel]
theorem bsel_true (t q : Bool) : bsel t true q = (t || q) := by cases t <;> simp [bsel]
theorem bool_imp (b : Bool) : (b = true → b = true) = True := by simp
theorem wrap_in (n : Int) (h1 : -9223372036854775808 ≤ n) (h2 : n ≤ 9223372036854775807) : IntKind.i64.wrap n = n := by rw [IntKind.wrap_i64]; omega
theorem look_n (i : Nat) : look [] i = .undef := rfl
theorem look_c (k i : Nat) (x : AV) (r : List (Nat × AV)) : look ((k, x) :: r) i = if k = i then x else look r i := rfl
theorem lookC_n (i : Nat) : lookC [] i = .dead := rfl
theorem lookC_c (k i : Nat) (x : Chunk) (r : List (Nat × Chunk)) : lookC ((k, x) :: r) i = if k = i then x else lookC r i := rfl
end Go.Proofs.Ytibknlfadoeglaa
