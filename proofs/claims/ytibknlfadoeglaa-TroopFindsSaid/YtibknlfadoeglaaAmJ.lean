/- The abstract machine, part J: a call's step; weaker knowledge. -/
import Derived.Test.YtibknlfadoeglaaAmI
namespace Go.Proofs.Ytibknlfadoeglaa
set_option linter.all false
open Go.RowKit
def upI (ids : List Nat) (m j : Nat) : Nat := match ids[j]? with | some id => id | none => m + (j - ids.length)
mutual
/-- A callee's value as the caller sees it. -/
def up (ids : List Nat) (m : Nat) : AV → AV
  | .undef => .undef
  | .c p => .c p
  | .agg xs => .agg (upL ids m xs)
  | .tup xs => .tup (upL ids m xs)
  | .own j => .own (upI ids m j)
  | .view j o l => .view (upI ids m j) o l
  | .ptr j i o => .ptr (upI ids m j) i o
  | .fel sz xs i o => .fel sz xs i o
  | .clo f a b => .clo f (upL ids m a) (upL ids m b)
  | .ifc t x => .ifc t (up ids m x)
  | .map j => .map (upI ids m j)
  | .opt t x => .opt t (up ids m x)
def upL (ids : List Nat) (m : Nat) : List AV → List AV
  | [] => []
  | x :: r => up ids m x :: upL ids m r
end
def upC (ids : List Nat) (m : Nat) : Chunk → Chunk
  | .dead => .dead
  | .row e sz xs => .row e sz xs
  | .blk t cs => .blk t (upL ids m cs)
  | .mp a n es => .mp a n es
def upsL (ids : List Nat) (m : Nat) : Nat → List Chunk → List (Nat × Chunk)
  | _, [] => []
  | j, c :: r => (upI ids m j, upC ids m c) :: upsL ids m (j + 1) r
theorem upL_len (ids : List Nat) (m : Nat) : ∀ xs, (upL ids m xs).length = xs.length
  | [] => rfl
  | x :: r => by simp [upL, upL_len ids m r]
/-- No memory in it. -/
def scalA : AV → Bool
  | .c (.v _) => true
  | .c (.sl _ []) => false
  | _ => false
def scal : AV → Bool
  | .tup xs => xs.all scalA
  | .agg xs => xs.all scalA
  | x => scalA x
section
variable {P : Program} {W : World} {N U F : Nat → Prop} {β : Nat → Option Bind} {h hT : Nat → Chunk} {w : World}
theorem scalA_run {x : AV} (hx : scalA x = true) {U' F' : Nat → Prop} {β' : Nat → Option Bind} {w' : World} {v : Value} (h : RelA U w F β x v) : RelA U' w' F' β' x v := by
  unfold scalA at hx
  split at hx
  · simpa only [RelA, RelP] using h
  · simp at hx
  · simp at hx
theorem scalL_run {U' F' : Nat → Prop} {β' : Nat → Option Bind} {w' : World} : ∀ {xs : List AV} {vs : List Value}, xs.all scalA = true → RelL U w F β xs vs → RelL U' w' F' β' xs vs
  | [], _, _, h => by simp only [RelL] at h ⊢; exact h
  | x :: r, vs, hx, h => by
    simp only [List.all_cons, Bool.and_eq_true] at hx
    simp only [RelL] at h ⊢
    obtain ⟨u, us, rfl, h1, h2⟩ := h
    exact ⟨u, us, rfl, scalA_run hx.1 h1, scalL_run hx.2 h2⟩
theorem scal_run {x : AV} (hx : scal x = true) {U' F' : Nat → Prop} {β' : Nat → Option Bind} {w' : World} {v : Value} (h : RelA U w F β x v) : RelA U' w' F' β' x v := by
  unfold scal at hx
  split at hx
  · simp only [RelA] at h ⊢
    obtain ⟨vs, rfl, h1⟩ := h
    exact ⟨vs, rfl, scalL_run hx h1⟩
  · simp only [RelA] at h ⊢
    obtain ⟨vs, rfl, h1, h2⟩ := h
    exact ⟨vs, rfl, scalL_run hx h1, h2⟩
  · exact scalA_run hx h
mutual
theorem up_run {ids : List Nat} {m : Nat} {U' F' : Nat → Prop} {β' : Nat → Option Bind} {k : Nat} (hK : ∀ b, F b → F' b) (hU : ∀ j, j < k → U' (upI ids m j)) (hb : ∀ j bd, j < k → β' (upI ids m j) = some bd → β j = some bd) : ∀ (x : AV) (v : Value), RelA (· < k) w F β x v → RelA U' w F' β' (up ids m x) v
  | .undef, v, hv => by simp only [up, RelA]
  | .c p, v, hv => by simp only [up, RelA] at hv ⊢; exact RelP.mono (fun b hb => ⟨hK b hb, rfl⟩) _ _ hv
  | .agg xs, v, hv => by
    simp only [up, RelA] at hv ⊢
    obtain ⟨vs, rfl, k1, k2⟩ := hv
    exact ⟨vs, rfl, upL_run hK hU hb xs _ k1, k2⟩
  | .tup xs, v, hv => by
    simp only [up, RelA] at hv ⊢
    obtain ⟨vs, rfl, k1⟩ := hv
    exact ⟨vs, rfl, upL_run hK hU hb xs _ k1⟩
  | .own id, v, hv => by
    simp only [up, RelA] at hv ⊢
    exact ⟨hU _ hv.1, hv.2.1, fun bd hbd => hv.2.2 bd (hb _ _ hv.1 hbd)⟩
  | .view id o l, v, hv => by
    simp only [up, RelA] at hv ⊢
    exact ⟨hU _ hv.1, hv.2.1, fun bd hbd => hv.2.2 bd (hb _ _ hv.1 hbd)⟩
  | .ptr id i o, v, hv => by
    simp only [up, RelA] at hv ⊢
    exact ⟨hU _ hv.1, hv.2.1, fun bd hbd => hv.2.2 bd (hb _ _ hv.1 hbd)⟩
  | .fel sz xs i o, v, hv => by
    simp only [up, RelA] at hv ⊢
    obtain ⟨b, p, rfl, hb', hE⟩ := hv
    exact ⟨b, p, rfl, hK b hb', RelE.mono (fun b hb => ⟨hK b hb, rfl⟩) rfl _ _ _ hE⟩
  | .clo f a b, v, hv => by
    simp only [up, RelA] at hv ⊢
    obtain ⟨fs, cs, rfl, k1, k2⟩ := hv
    exact ⟨fs, cs, rfl, upL_run hK hU hb a _ k1, upL_run hK hU hb b _ k2⟩
  | .ifc t x, v, hv => by
    simp only [up, RelA] at hv ⊢
    obtain ⟨y, rfl, k1⟩ := hv
    exact ⟨y, rfl, up_run hK hU hb x y k1⟩
  | .map id, v, hv => by
    simp only [up, RelA] at hv ⊢
    exact ⟨hU _ hv.1, hv.2.1, fun bd hbd => hv.2.2 bd (hb _ _ hv.1 hbd)⟩
  | .opt t x, v, hv => by
    simp only [up, RelA] at hv ⊢
    exact ⟨fun ht => up_run hK hU hb x v (hv.1 ht), hv.2⟩
theorem upL_run {ids : List Nat} {m : Nat} {U' F' : Nat → Prop} {β' : Nat → Option Bind} {k : Nat} (hK : ∀ b, F b → F' b) (hU : ∀ j, j < k → U' (upI ids m j)) (hb : ∀ j bd, j < k → β' (upI ids m j) = some bd → β j = some bd) : ∀ (xs : List AV) (vs : List Value), RelL (· < k) w F β xs vs → RelL U' w F' β' (upL ids m xs) vs
  | [], vs, hv => by simp only [upL, RelL] at hv ⊢; exact hv
  | x :: r, vs, hv => by
    simp only [upL, RelL] at hv ⊢
    obtain ⟨u, us, rfl, k1, k2⟩ := hv
    exact ⟨u, us, rfl, up_run hK hU hb x u k1, upL_run hK hU hb r us k2⟩
end
/-- Less is known. -/
def Wk (x y : AV) : Prop := ∀ (U : Nat → Prop) (w : World) (F : Nat → Prop) (β : Nat → Option Bind) (v : Value), RelA U w F β x v → RelA U w F β y v
def WkL : List AV → List AV → Prop
  | [], [] => True
  | x :: r, y :: s => Wk x y ∧ WkL r s
  | _, _ => False
theorem Wk.refl (x : AV) : Wk x x := fun _ _ _ _ _ h => h
theorem Wk.of {x y : AV} (h : x = y) : Wk x y := h ▸ Wk.refl x
theorem WkL.refl : ∀ xs, WkL xs xs
  | [] => trivial
  | x :: r => ⟨Wk.refl x, WkL.refl r⟩
theorem Wk.undef (x : AV) : Wk x .undef := fun _ _ _ _ _ _ => by simp only [RelA]
theorem Wk.nil (sz : Nat) : Wk (.c (.v (.slice none 0 0))) (.c (.sl sz [])) := fun _ _ _ _ v h => by
  obtain ⟨rfl, _⟩ := relC.1 h
  simp only [RelA, RelP]
  exact ⟨none, 0, rfl, Nat.le_refl _, Nat.zero_le _, .inl trivial⟩
theorem WkL.run {xs ys : List AV} (hw : WkL xs ys) {vs : List Value} (h : RelL U w F β xs vs) : RelL U w F β ys vs := by
  induction xs generalizing ys vs with
  | nil => cases ys with
    | nil => exact h
    | cons => exact hw.elim
  | cons x r ih => cases ys with
    | nil => exact hw.elim
    | cons y s =>
      simp only [RelL] at h ⊢
      obtain ⟨u, us, rfl, h1, h2⟩ := h
      exact ⟨u, us, rfl, hw.1 _ _ _ _ _ h1, ih hw.2 h2⟩
theorem Wk.agg {xs ys : List AV} (h : WkL xs ys) : Wk (.agg xs) (.agg ys) := fun _ _ _ _ v hv => by
  simp only [RelA] at hv ⊢
  obtain ⟨vs, rfl, h1, h2⟩ := hv
  exact ⟨vs, rfl, h.run h1, h2⟩
theorem Wk.tup {xs ys : List AV} (h : WkL xs ys) : Wk (.tup xs) (.tup ys) := fun _ _ _ _ v hv => by
  simp only [RelA] at hv ⊢
  obtain ⟨vs, rfl, h1⟩ := hv
  exact ⟨vs, rfl, h.run h1⟩
theorem WkL.len : ∀ {xs ys : List AV}, WkL xs ys → xs.length = ys.length
  | [], [], _ => rfl
  | [], _ :: _, h => h.elim
  | _ :: _, [], h => h.elim
  | _ :: r, _ :: s, h => by simp [WkL.len h.2]
def WkC : Chunk → Chunk → Prop
  | _, .dead => True
  | .row e sz xs, .row e' sz' ys => e = e' ∧ sz = sz' ∧ xs = ys
  | .blk t cs, .blk t' ds => t = t' ∧ WkL cs ds
  | .mp a n es, .mp a' n' es' => a = a' ∧ n = n' ∧ es = es'
  | _, _ => False
theorem WkC.run {c d : Chunk} (hw : WkC c d) {bd : Bind} (h : ChOk U w F β bd c) : ChOk U w F β bd d := by
  cases d with
  | dead => trivial
  | row e sz xs => cases c with
    | row e' sz' ys => obtain ⟨rfl, rfl, rfl⟩ := hw; exact h
    | dead => exact hw.elim
    | blk => exact hw.elim
    | mp => exact hw.elim
  | blk t ds => cases c with
    | blk t' cs =>
      obtain ⟨rfl, hl⟩ := hw
      obtain ⟨k1, k2, g, vs, k3, k4, k5, k6, k7⟩ := h
      exact ⟨by rw [← hl.len]; exact k1, k2, g, vs, k3, k4, k5, hl.run k6, k7⟩
    | dead => exact hw.elim
    | row => exact hw.elim
    | mp => exact hw.elim
  | mp a n es => cases c with
    | mp a' n' es' => obtain ⟨rfl, rfl, rfl⟩ := hw; exact h
    | dead => exact hw.elim
    | row => exact hw.elim
    | blk => exact hw.elim
theorem WkC.refl : ∀ c, WkC c c
  | .dead => trivial
  | .row _ _ _ => ⟨rfl, rfl, rfl⟩
  | .blk _ cs => ⟨rfl, WkL.refl cs⟩
  | .mp _ _ _ => ⟨rfl, rfl, rfl⟩
def noC (_ : Nat) : Chunk := .dead
/-- What a call comes to: it is handed the pieces ids. -/
def CallOk (P : Program) (f : FuncId) (args : List AV) (h : Nat → Chunk) (m : Nat) (e : Eff) : Prop :=
  (∃ ids args' hs r hs', ids.Nodup ∧ WkL (cvL ids noC args) args' ∧ hs = ids.map (fun id => cvC ids noC (h id)) ∧ (∀ id ∈ ids, h id ≠ .dead) ∧ Spec P f args' hs r hs' ∧ e = ⟨up ids m r, upsL ids m 0 hs', hs'.length - ids.length⟩) ∨
  (∃ args' r, scal r = true ∧ WkL (cvL [] h args) args' ∧ Spec P f args' [] r [] ∧ e = ⟨r, [], 0⟩)
theorem frzF_noC (ids : List Nat) : frzF ids noC F β = F := by
  funext b
  apply propext
  constructor
  · rintro (h | ⟨_, _, _, h, _⟩)
    · exact h
    · exact (h rfl).elim
  · exact .inl
theorem MemOk.here (M : MemOk W N U F β h w) : MemOk w (inB β) U F β h w :=
  ⟨Nat.le_refl _, rfl, rfl, rfl, fun _ _ _ => rfl, M.fin, M.used, M.ch, M.dis, fun i bd b hb hbb => ⟨(M.off i bd b hb hbb).1, (M.off i bd b hb hbb).2.1, .inr ⟨i, bd, hb, hbb⟩⟩⟩
theorem selB_some {ids : List Nat} {j : Nat} {bd : Bind} (hj : selB ids β j = some bd) : ∃ id, ids[j]? = some id ∧ β id = some bd := by
  unfold selB at hj
  split at hj
  · exact ⟨_, by assumption, hj⟩
  · simp at hj
theorem upd_upsL {ids : List Nat} {m : Nat} (i : Nat) : ∀ (j : Nat) (hs : List Chunk), (∀ k, upI ids m (j + k) = i → k < hs.length → False) → upd h (upsL ids m j hs) i = h i
  | _, [], _ => rfl
  | j, c :: r, hn => by
    simp only [upsL, upd]
    rw [if_neg (fun e => hn 0 (by simpa using e) (by simp))]
    exact upd_upsL i (j + 1) r fun k hk hl => hn (k + 1) (by rw [show j + (k + 1) = j + 1 + k from by omega]; exact hk) (by simpa using hl)
theorem upd_upsL_at {ids : List Nat} {m K : Nat} (hinj : ∀ a b, a < K → b < K → upI ids m a = upI ids m b → a = b) : ∀ (j : Nat) (hs : List Chunk), j + hs.length ≤ K → ∀ (k : Nat) (c : Chunk), hs[k]? = some c → upd h (upsL ids m j hs) (upI ids m (j + k)) = upC ids m c
  | _, [], _, _, _, hc => by simp at hc
  | j, d :: r, hl, k, c, hc => by
    simp only [List.length_cons] at hl
    simp only [upsL, upd]
    cases k with
    | zero => simp only [List.getElem?_cons_zero, Option.some.injEq] at hc; subst hc; simp
    | succ k =>
      have hk : k < r.length := (List.getElem?_eq_some_iff.1 (by simpa using hc)).1
      rw [if_neg (fun e => by have := hinj _ _ (by omega) (by omega) e; omega)]
      have := upd_upsL_at hinj (j + 1) r (by omega) k c (by simpa using hc)
      rwa [show j + 1 + k = j + (k + 1) from by omega] at this
/-- A call that is handed the pieces ids. -/
theorem call_strict (M : MemOk W N U F β h w) (hs : ∀ id, hT id ≠ .dead → hT id = h id) {f : FuncId} {args args' : List AV} {ids : List Nat} {r : AV} {hs' : List Chunk} {m : Nat} (hnd : ids.Nodup) (hwk : WkL (cvL ids noC args) args') (hal : ∀ id ∈ ids, hT id ≠ .dead)
    (S : Spec P f args' (ids.map fun id => cvC ids noC (hT id)) r hs') (hm : ∀ i, m ≤ i → i < m + (hs'.length - ids.length) → ¬ U i) {vs : List Value} (hv : RelL U w F β args vs) :
    Calls P f vs.toArray w fun e w' => ∃ v, e = .returned v ∧ StepTo W N U F β h w m ⟨up ids m r, upsL ids m 0 hs', hs'.length - ids.length⟩ v w' := by
  obtain ⟨_, hle, S⟩ := S
  simp only [List.length_map] at hle S
  have hal' : ∀ id ∈ ids, h id ≠ .dead := fun id hi => by rw [← hs id (hal id hi)]; exact hal id hi
  have hUid : ∀ id ∈ ids, U id := fun id hi => by
    obtain ⟨bd, hb, _⟩ := M.ch id (hal' id hi)
    exact M.used id bd hb
  have heq : (ids.map fun id => cvC ids noC (hT id)) = ids.map fun id => cvC ids noC (h id) := by
    apply List.map_congr_left
    intro id hi
    rw [hs id (hal id hi)]
  have M1 := (cv_mem (hT := noC) M (fun id hd => (hd rfl).elim) ids hnd).here
  have hv1 := hwk.run (cvL_run (hT := noC) M (fun id hd => (hd rfl).elim) ids args vs hv)
  rw [frzF_noC] at M1 hv1
  rw [heq] at S
  refine (S w F (selB ids β) vs M1 hv1).mono ?_
  rintro e w' ⟨v, F', β', rfl, M2, hr, hF, hF', hβ⟩
  refine ⟨v, rfl, ?_⟩
  -- how the callee's numbers stand to the caller's
  have lo : ∀ j, j < ids.length → ids[j]? = some (upI ids m j) ∧ upI ids m j ∈ ids := by
    intro j hj
    have : ids[j]? = some ids[j] := List.getElem?_eq_getElem hj
    unfold upI
    rw [this]
    exact ⟨rfl, List.getElem_mem hj⟩
  have hi : ∀ j, ids.length ≤ j → upI ids m j = m + (j - ids.length) := by
    intro j hj
    unfold upI
    rw [List.getElem?_eq_none hj]
  have hinj : ∀ a b, a < hs'.length → b < hs'.length → upI ids m a = upI ids m b → a = b := by
    intro a b ha hb hab
    by_cases h1 : a < ids.length <;> by_cases h2 : b < ids.length
    · exact (List.getElem?_inj h1 hnd).1 (by rw [(lo a h1).1, (lo b h2).1, hab])
    · exfalso
      rw [hi b (by omega)] at hab
      exact hm _ (by omega) (by omega) (hab ▸ hUid _ (lo a h1).2)
    · exfalso
      rw [hi a (by omega)] at hab
      exact hm _ (by omega) (by omega) (hab ▸ hUid _ (lo b h2).2)
    · rw [hi a (by omega), hi b (by omega)] at hab; omega
  let β2 : Nat → Option Bind := fun i => match ix ids i with | some j => β' j | none => if m ≤ i ∧ i < m + (hs'.length - ids.length) then β' (i - m + ids.length) else β i
  have ixin : ∀ i, i ∈ ids → ∃ j, ix ids i = some j := by
    intro i hin
    cases hx : ix ids i with
    | none => exact (ix_none hx hin).elim
    | some j => exact ⟨j, rfl⟩
  have hb2 : ∀ j, j < hs'.length → β2 (upI ids m j) = β' j := by
    intro j hj
    by_cases h1 : j < ids.length
    · obtain ⟨j', hj'⟩ := ixin _ (lo j h1).2
      have h2 := ix_some hj'
      have : j = j' := (List.getElem?_inj h1 hnd).1 (by rw [(lo j h1).1, h2])
      subst this
      simp only [β2, hj']
    · have hno : ix ids (upI ids m j) = none := by
        cases hx : ix ids (upI ids m j) with
        | none => rfl
        | some j' =>
          exfalso
          have h2 := List.mem_of_getElem? (ix_some hx)
          rw [hi j (by omega)] at h2
          exact hm _ (by omega) (by omega) (hUid _ h2)
      simp only [β2, hno]
      rw [hi j (by omega), if_pos (by omega)]
      congr 1; omega
  let T : Nat → Prop := fun i => ∃ j, j < hs'.length ∧ upI ids m j = i
  have hnotT : ∀ i, ¬ T i → β2 i = β i := by
    intro i hT'
    have hno : ix ids i = none := by
      cases hx : ix ids i with
      | none => rfl
      | some j =>
        have h2 := ix_some hx
        have hj := (List.getElem?_eq_some_iff.1 h2).1
        refine (hT' ⟨j, by omega, ?_⟩).elim
        have := (lo j hj).1
        rw [h2] at this
        exact (Option.some.inj this).symm
    simp only [β2, hno]
    rw [if_neg]
    rintro ⟨h1, h2⟩
    exact hT' ⟨i - m + ids.length, by omega, by rw [hi _ (by omega)]; omega⟩
  have hinB : ∀ b, inB (selB ids β) b → ∃ j bd, T j ∧ β j = some bd ∧ bd.b = some b := by
    rintro b ⟨j, bd, hj, hb⟩
    obtain ⟨id, h1, h2⟩ := selB_some hj
    have hjl := (List.getElem?_eq_some_iff.1 h1).1
    refine ⟨id, bd, ⟨j, by omega, ?_⟩, h2, hb⟩
    have := (lo j hjl).1
    rw [h1] at this
    exact (Option.some.inj this).symm
  have hUT : ∀ j, j < hs'.length → U (upI ids m j) ∨ (m ≤ upI ids m j ∧ upI ids m j < m + (hs'.length - ids.length)) := by
    intro j hj
    by_cases h1 : j < ids.length
    · exact .inl (hUid _ (lo j h1).2)
    · rw [hi j (by omega)]; exact .inr ⟨by omega, by omega⟩
  obtain ⟨S1, S2⟩ := M.step (w' := w') (h' := upd h (upsL ids m 0 hs')) (β' := β2) (F' := F') (U' := fun i => U i ∨ (m ≤ i ∧ i < m + (hs'.length - ids.length))) T hnotT
    (fun i hT' => upd_upsL i 0 hs' fun k hk hl => hT' ⟨k, hl, by simpa using hk⟩) M2.os M2.tape M2.output M2.size
    (fun b hb hn => M2.frame b hb fun hin => by
      obtain ⟨j, bd, h1, h2, h3⟩ := hinB b hin
      exact hn j bd h1 h2 h3)
    (fun i hu => .inl hu) hF
    (fun b hb => ⟨M2.fin b hb, by
      rcases hF' b hb with h1 | h1 | h1
      · exact .inl h1
      · exact .inr (.inl h1)
      · exact .inr (.inr (hinB b h1))⟩)
    (fun i bd hT' hu hb => by
      obtain ⟨j, hj, rfl⟩ := hT'
      rw [hb2 j hj] at hb
      by_cases h1 : j < ids.length
      · obtain ⟨id, k1, k2⟩ := selB_some (hβ j bd (by simpa using h1) hb)
        have := (lo j h1).1
        rw [k1] at this
        rw [← Option.some.inj this]; exact k2
      · exfalso
        rw [hi j (by omega)] at hu
        exact hm _ (by omega) (by omega) hu)
    (fun i bd hT' hb => by
      obtain ⟨j, hj, rfl⟩ := hT'
      rw [hb2 j hj] at hb
      refine ⟨hUT j hj, fun b hbb => ?_⟩
      obtain ⟨k1, k2, k3⟩ := M2.off j bd b hb hbb
      exact ⟨k2, k1, k3.imp id (hinB b)⟩)
    (fun i j bi bj b hTi hTj hbi hbj h1 h2 => by
      obtain ⟨x, hx, rfl⟩ := hTi
      obtain ⟨y, hy, rfl⟩ := hTj
      rw [hb2 x hx] at hbi
      rw [hb2 y hy] at hbj
      rw [M2.dis x y bi bj b hbi hbj h1 h2])
    (fun E i hT' hd => by
      obtain ⟨j, hj, rfl⟩ := hT'
      have hc : hs'[j]? = some hs'[j] := List.getElem?_eq_getElem hj
      have hu := upd_upsL_at (h := h) hinj 0 hs' (by omega) j _ hc
      rw [Nat.zero_add] at hu
      rw [hu] at hd ⊢
      have hnth : nth hs' j = hs'[j] := by unfold nth; simp [hj]
      have hne : nth hs' j ≠ .dead := by
        intro he
        rw [hnth] at he
        rw [he] at hd
        exact hd rfl
      obtain ⟨bd, hb, hk⟩ := M2.ch j hne
      rw [hnth] at hk
      refine ⟨bd, by rw [hb2 j hj]; exact hb, ?_⟩
      cases hcc : hs'[j] with
      | dead => trivial
      | row e sz xs => rw [hcc] at hk; exact hk
      | blk t cs =>
        rw [hcc] at hk
        obtain ⟨k1, k2, g, ws, k3, k4, k5, k6, k7⟩ := hk
        exact ⟨by rw [upL_len]; exact k1, k2, g, ws, k3, k4, k5, upL_run (fun b hb => hb) hUT (fun j bd hj hb => by rw [hb2 j hj] at hb; exact hb) _ _ k6, k7⟩
      | mp a n es => rw [hcc] at hk; exact hk)
  refine ⟨F', β2, S1, S2, up_run (fun b hb => hb) hUT (fun j bd hj hb => by rw [hb2 j hj] at hb; exact hb) _ _ hr, fun b hb => ?_⟩
  rcases hF' b hb with h1 | h1 | h1
  · exact .inl h1
  · exact .inr (.inl (Nat.le_trans M.size h1))
  · obtain ⟨j, bd, _, k1, k2⟩ := hinB b h1
    exact .inr (M.off j bd b k1 k2).2.2
/-- A call that only reads what it is handed. -/
theorem call_lend (M : MemOk W N U F β h w) (hs : ∀ id, hT id ≠ .dead → hT id = h id) {f : FuncId} {args args' : List AV} {r : AV} (m : Nat) (hsc : scal r = true) (hwk : WkL (cvL [] hT args) args') (S : Spec P f args' [] r []) {vs : List Value} (hv : RelL U w F β args vs) :
    Calls P f vs.toArray w fun e w' => ∃ v, e = .returned v ∧ StepTo W N U F β h w m ⟨r, [], 0⟩ v w' := by
  obtain ⟨_, hle, S⟩ := S
  have M1 := (cv_mem M hs [] (by simp)).here
  have hv1 := hwk.run (cvL_run M hs [] args vs hv)
  have e0 : selB [] β = fun _ => none := by funext j; simp [selB]
  refine (S w _ _ vs M1 hv1).mono ?_
  rintro e w' ⟨v, F', β', rfl, M2, hr, hF, hF', hβ⟩
  refine ⟨v, rfl, ?_⟩
  obtain ⟨S1, S2⟩ := M.step (w' := w') (h' := h) (β' := β) (F' := F) (U' := U) (fun _ => False) (fun _ _ => rfl) (fun _ _ => rfl) M2.os M2.tape M2.output M2.size
    (fun b hb _ => M2.frame b hb (by rintro ⟨j, bd, hj, _⟩; rw [e0] at hj; simp at hj)) (fun _ h => h) (fun _ h => h) (fun b hb => ⟨Nat.lt_of_lt_of_le (M.fin b hb) M2.size, .inl hb⟩)
    (fun _ _ h => h.elim) (fun _ _ h => h.elim) (fun _ _ _ _ _ h => h.elim) (fun _ _ h => h.elim)
  have e : (fun i => U i ∨ (m ≤ i ∧ i < m + 0)) = U := by
    funext i; apply propext; constructor
    · rintro (h | h)
      · exact h
      · omega
    · exact .inl
  refine ⟨F, β, ?_, ?_, ?_, fun b hb => .inl hb⟩
  · simp only [e]; exact S1
  · simp only [e]; exact S2
  · simp only [e]; exact scal_run hsc hr
end
end Go.Proofs.Ytibknlfadoeglaa
