/- The abstract machine, part A: what its values and its memory are, and when the model's values and memory are so. -/
import Derived.Orders
import Derived.Laws.AppendOwn
import Derived.Below
import Derived.Deep.Draws
namespace Go.Proofs.Ytibknlfadoeglaa
set_option linter.all false
open Go.RowKit
/-- A cell that holds no memory of the call's own: a plain value, or a slice of a frozen list (its elements, each a row of sz cells). -/
inductive PV where
  | undef
  | v (x : Value)
  | sl (sz : Nat) (xs : List (List PV))
/-- What is known of a temporary. -/
inductive AV where
  | undef
  | c (p : PV)
  | agg (xs : List AV)
  | tup (xs : List AV)
  | own (id : Nat)
  | view (id o l : Nat)
  | ptr (id i o : Nat)
  | fel (sz : Nat) (xs : List (List PV)) (i o : Nat)
  | clo (f : Fn) (a b : List AV)
  | ifc (t : TypeId) (x : AV)
  | map (id : Nat)
  | opt (t : Bool) (x : AV)
/-- A piece of memory of the call's own. -/
inductive Chunk where
  | dead
  | row (e sz : Nat) (xs : List (List PV))
  | blk (t : TypeId) (cs : List AV)
  | mp (agg : Bool) (n : Nat) (es : List (List Int × Int))
/-- Where a piece lies. -/
structure Bind where
  v : Value
  b : Option Nat
  n : Nat
  sz : Nat

mutual
def RelP (w : World) (F : Nat → Prop) : PV → Value → Prop
  | .undef, u => u.oneCell' = true
  | .v x, u => u = x ∧ x.oneCell' = true
  | .sl sz xs, u => ∃ a c, u = .slice a xs.length c ∧ xs.length ≤ c ∧ c ≤ maxLen ∧ (xs = [] ∨ ∃ b o, a = some ⟨b, o, none⟩ ∧ F b ∧ RelE w F b sz o xs)
def RelE (w : World) (F : Nat → Prop) (b sz : Nat) : Nat → List (List PV) → Prop
  | _, [] => True
  | o, cs :: r => cs.length = sz ∧ RelC w F b o cs ∧ RelE w F b sz (o + sz) r
def RelC (w : World) (F : Nat → Prop) (b : Nat) : Nat → List PV → Prop
  | _, [] => True
  | o, x :: r => (∃ u, w.cell? ⟨b, o, none⟩ = some u ∧ RelP w F x u) ∧ RelC w F b (o + 1) r
end

/-- From (w, F) to (w', F') what is frozen stays. -/
def Keeps (w : World) (F : Nat → Prop) (w' : World) (F' : Nat → Prop) : Prop := ∀ b, F b → F' b ∧ w'.heap[b]? = w.heap[b]?

mutual
theorem RelP.mono {w w' : World} {F F' : Nat → Prop} (K : Keeps w F w' F') : ∀ (p : PV) (u : Value), RelP w F p u → RelP w' F' p u
  | .undef, _, h => by simp only [RelP] at h ⊢; exact h
  | .v _, _, h => by simp only [RelP] at h ⊢; exact h
  | .sl sz xs, u, h => by
    simp only [RelP] at h ⊢
    obtain ⟨a, c, rfl, h1, h2, h3⟩ := h
    refine ⟨a, c, rfl, h1, h2, ?_⟩
    rcases h3 with h3 | ⟨b, o, rfl, hb, he⟩
    · exact .inl h3
    · exact .inr ⟨b, o, rfl, (K b hb).1, RelE.mono K (K b hb).2 sz o xs he⟩
theorem RelE.mono {w w' : World} {F F' : Nat → Prop} (K : Keeps w F w' F') {b : Nat} (hb : w'.heap[b]? = w.heap[b]?) : ∀ (sz o : Nat) (xs : List (List PV)), RelE w F b sz o xs → RelE w' F' b sz o xs
  | _, _, [], _ => by simp only [RelE]
  | sz, o, cs :: r, h => by
    simp only [RelE] at h ⊢
    exact ⟨h.1, RelC.mono K hb o cs h.2.1, RelE.mono K hb sz (o + sz) r h.2.2⟩
theorem RelC.mono {w w' : World} {F F' : Nat → Prop} (K : Keeps w F w' F') {b : Nat} (hb : w'.heap[b]? = w.heap[b]?) : ∀ (o : Nat) (xs : List PV), RelC w F b o xs → RelC w' F' b o xs
  | _, [], _ => by simp only [RelC]
  | o, x :: r, h => by
    simp only [RelC] at h ⊢
    obtain ⟨⟨u, hu, hx⟩, hr⟩ := h
    exact ⟨⟨u, (World.cell?_of_block (w := w) (a := ⟨b, o, none⟩) hb).trans hu, RelP.mono K x u hx⟩, RelC.mono K hb (o + 1) r hr⟩
end
theorem RelP.one {w : World} {F : Nat → Prop} : ∀ {p : PV} {u : Value}, RelP w F p u → u.oneCell' = true
  | .undef, _, h => by simpa only [RelP] using h
  | .v _, _, h => by simp only [RelP] at h; rw [h.1]; exact h.2
  | .sl _ _, _, h => by simp only [RelP] at h; obtain ⟨a, c, rfl, _⟩ := h; rfl
theorem RelE.at {w : World} {F : Nat → Prop} {b sz : Nat} : ∀ {xs : List (List PV)} {o : Nat}, RelE w F b sz o xs → ∀ (i : Nat) (cs : List PV), xs[i]? = some cs → cs.length = sz ∧ RelC w F b (o + i * sz) cs
  | [], _, _, i, cs, h => by simp at h
  | x :: r, o, H, i, cs, h => by
    simp only [RelE] at H
    cases i with
    | zero => simp at h; subst h; simpa using ⟨H.1, H.2.1⟩
    | succ i =>
      have := RelE.at H.2.2 i cs (by simpa using h)
      rw [show o + (i + 1) * sz = o + sz + i * sz from by rw [Nat.add_mul]; omega]; exact this
theorem RelC.at {w : World} {F : Nat → Prop} {b : Nat} : ∀ {cs : List PV} {o : Nat}, RelC w F b o cs → ∀ (j : Nat) (x : PV), cs[j]? = some x → ∃ u, w.cell? ⟨b, o + j, none⟩ = some u ∧ RelP w F x u
  | [], _, _, j, x, h => by simp at h
  | y :: r, o, H, j, x, h => by
    simp only [RelC] at H
    cases j with
    | zero => simp at h; subst h; simpa using H.1
    | succ j =>
      have := RelC.at H.2 j x (by simpa using h)
      rw [show o + (j + 1) = o + 1 + j from by omega]; exact this
theorem RelC.of {w : World} {F : Nat → Prop} {b : Nat} : ∀ {cs : List PV} {o : Nat}, (∀ (j : Nat) (x : PV), cs[j]? = some x → ∃ u, w.cell? ⟨b, o + j, none⟩ = some u ∧ RelP w F x u) → RelC w F b o cs
  | [], _, _ => by simp only [RelC]
  | y :: r, o, H => by
    simp only [RelC]
    refine ⟨by simpa using H 0 y (by simp), RelC.of fun j x hx => ?_⟩
    have := H (j + 1) x (by simpa using hx)
    rwa [show o + (j + 1) = o + 1 + j from by omega] at this
theorem RelE.of {w : World} {F : Nat → Prop} {b sz : Nat} : ∀ {xs : List (List PV)} {o : Nat}, (∀ (i : Nat) (cs : List PV), xs[i]? = some cs → cs.length = sz ∧ RelC w F b (o + i * sz) cs) → RelE w F b sz o xs
  | [], _, _ => by simp only [RelE]
  | x :: r, o, H => by
    simp only [RelE]
    have h0 := H 0 x (by simp)
    refine ⟨h0.1, by simpa using h0.2, RelE.of fun i cs hi => ?_⟩
    have := H (i + 1) cs (by simpa using hi)
    rwa [show o + (i + 1) * sz = o + sz + i * sz from by rw [Nat.add_mul]; omega] at this

mutual
def RelA (U : Nat → Prop) (w : World) (F : Nat → Prop) (β : Nat → Option Bind) : AV → Value → Prop
  | .undef, _ => True
  | .c p, u => RelP w F p u
  | .agg xs, u => ∃ vs, u = .agg vs ∧ RelL U w F β xs vs.toList ∧ ∀ x ∈ vs.toList, x.oneCell' = true
  | .tup xs, u => ∃ vs, u = .tuple vs ∧ RelL U w F β xs vs.toList
  | .own id, u => U id ∧ u.oneCell' = true ∧ ∀ bd, β id = some bd → u = bd.v
  | .view id o l, u => U id ∧ u.oneCell' = true ∧ ∀ bd, β id = some bd → ∃ a c, u = .slice a l c ∧ o + l ≤ bd.n ∧ l ≤ c ∧ c ≤ maxLen ∧ (l = 0 ∨ ∃ g, bd.b = some g ∧ a = some ⟨g, o * bd.sz, none⟩) ∧ (o = 0 → ∃ n, bd.v = .slice a n c)
  | .ptr id i o, u => U id ∧ u.oneCell' = true ∧ ∀ bd, β id = some bd → ∃ g, bd.b = some g ∧ u = .pointer (some ⟨g, i * bd.sz + o, none⟩)
  | .fel sz xs i o, u => ∃ b p, u = .pointer (some ⟨b, p + i * sz + o, none⟩) ∧ F b ∧ RelE w F b sz p xs
  | .clo f x y, u => ∃ fs cs, u = .func f fs cs ∧ RelL U w F β x fs.toList ∧ RelL U w F β y cs.toList
  | .ifc t x, u => ∃ y, u = .iface t y ∧ RelA U w F β x y
  | .map id, u => U id ∧ u.oneCell' = true ∧ ∀ bd, β id = some bd → u = .map bd.b
  | .opt t x, u => (t = true → RelA U w F β x u) ∧ (t = false → u = undef)
def RelL (U : Nat → Prop) (w : World) (F : Nat → Prop) (β : Nat → Option Bind) : List AV → List Value → Prop
  | [], vs => vs = []
  | x :: r, vs => ∃ u us, vs = u :: us ∧ RelA U w F β x u ∧ RelL U w F β r us
end

/-- From one state to a later one what is known of values stays known. -/
structure Ext (U : Nat → Prop) (F : Nat → Prop) (β : Nat → Option Bind) (w : World) (U' : Nat → Prop) (F' : Nat → Prop) (β' : Nat → Option Bind) (w' : World) : Prop where
  u : ∀ id, U id → U' id
  f : Keeps w F w' F'
  e : ∀ id bd, U id → β' id = some bd → β id = some bd
theorem Ext.refl (U F : Nat → Prop) (β : Nat → Option Bind) (w : World) : Ext U F β w U F β w := ⟨fun _ h => h, fun _ h => ⟨h, rfl⟩, fun _ _ _ h => h⟩
theorem Ext.trans {U F U' F' U'' F'' : Nat → Prop} {β β' β'' : Nat → Option Bind} {w w' w'' : World} (h : Ext U F β w U' F' β' w') (k : Ext U' F' β' w' U'' F'' β'' w'') : Ext U F β w U'' F'' β'' w'' :=
  ⟨fun i hi => k.u i (h.u i hi), fun b hb => ⟨(k.f b (h.f b hb).1).1, (k.f b (h.f b hb).1).2.trans (h.f b hb).2⟩, fun i bd hi hb => h.e i bd hi (k.e i bd (h.u i hi) hb)⟩

mutual
theorem RelA.mono {U F U' F' : Nat → Prop} {β β' : Nat → Option Bind} {w w' : World} (E : Ext U F β w U' F' β' w') : ∀ (x : AV) (u : Value), RelA U w F β x u → RelA U' w' F' β' x u
  | .undef, _, _ => by simp only [RelA]
  | .c p, u, h => by simp only [RelA] at h ⊢; exact RelP.mono E.f p u h
  | .agg xs, u, h => by
    simp only [RelA] at h ⊢
    obtain ⟨vs, rfl, h1, h2⟩ := h
    exact ⟨vs, rfl, RelL.mono E xs _ h1, h2⟩
  | .tup xs, u, h => by
    simp only [RelA] at h ⊢
    obtain ⟨vs, rfl, h1⟩ := h
    exact ⟨vs, rfl, RelL.mono E xs _ h1⟩
  | .own id, u, h => by simp only [RelA] at h ⊢; exact ⟨E.u _ h.1, h.2.1, fun bd hb => h.2.2 bd (E.e _ _ h.1 hb)⟩
  | .view id o l, u, h => by simp only [RelA] at h ⊢; exact ⟨E.u _ h.1, h.2.1, fun bd hb => h.2.2 bd (E.e _ _ h.1 hb)⟩
  | .ptr id i o, u, h => by simp only [RelA] at h ⊢; exact ⟨E.u _ h.1, h.2.1, fun bd hb => h.2.2 bd (E.e _ _ h.1 hb)⟩
  | .fel sz xs i o, u, h => by
    simp only [RelA] at h ⊢
    obtain ⟨b, p, rfl, hb, he⟩ := h
    exact ⟨b, p, rfl, (E.f b hb).1, RelE.mono E.f (E.f b hb).2 _ _ _ he⟩
  | .clo f x y, u, h => by
    simp only [RelA] at h ⊢
    obtain ⟨fs, cs, rfl, h1, h2⟩ := h
    exact ⟨fs, cs, rfl, RelL.mono E x _ h1, RelL.mono E y _ h2⟩
  | .ifc t x, u, h => by
    simp only [RelA] at h ⊢
    obtain ⟨y, rfl, h1⟩ := h
    exact ⟨y, rfl, RelA.mono E x y h1⟩
  | .map id, u, h => by simp only [RelA] at h ⊢; exact ⟨E.u _ h.1, h.2.1, fun bd hb => h.2.2 bd (E.e _ _ h.1 hb)⟩
  | .opt t x, u, h => by simp only [RelA] at h ⊢; exact ⟨fun ht => RelA.mono E x u (h.1 ht), h.2⟩
theorem RelL.mono {U F U' F' : Nat → Prop} {β β' : Nat → Option Bind} {w w' : World} (E : Ext U F β w U' F' β' w') : ∀ (xs : List AV) (us : List Value), RelL U w F β xs us → RelL U' w' F' β' xs us
  | [], _, h => by simp only [RelL] at h ⊢; exact h
  | x :: r, us, h => by
    simp only [RelL] at h ⊢
    obtain ⟨u, us', rfl, h1, h2⟩ := h
    exact ⟨u, us', rfl, RelA.mono E x u h1, RelL.mono E r us' h2⟩
end
theorem RelL.len {U F : Nat → Prop} {β : Nat → Option Bind} {w : World} : ∀ {xs : List AV} {us : List Value}, RelL U w F β xs us → us.length = xs.length
  | [], _, h => by simp only [RelL] at h; subst h; rfl
  | x :: r, us, h => by simp only [RelL] at h; obtain ⟨u, us', rfl, _, h2⟩ := h; simp [RelL.len h2]
theorem RelL.at {U F : Nat → Prop} {β : Nat → Option Bind} {w : World} : ∀ {xs : List AV} {us : List Value}, RelL U w F β xs us → ∀ (i : Nat) (x : AV), xs[i]? = some x → ∃ u, us[i]? = some u ∧ RelA U w F β x u
  | [], _, _, i, x, h => by simp at h
  | y :: r, us, H, i, x, h => by
    simp only [RelL] at H
    obtain ⟨u, us', rfl, h1, h2⟩ := H
    cases i with
    | zero => simp at h; subst h; exact ⟨u, by simp, h1⟩
    | succ i => obtain ⟨u', h3, h4⟩ := RelL.at h2 i x (by simpa using h); exact ⟨u', by simpa using h3, h4⟩
theorem RelL.of {U F : Nat → Prop} {β : Nat → Option Bind} {w : World} : ∀ {xs : List AV} {us : List Value}, us.length = xs.length → (∀ (i : Nat) (x : AV) (u : Value), xs[i]? = some x → us[i]? = some u → RelA U w F β x u) → RelL U w F β xs us
  | [], us, hl, _ => by simp only [RelL]; exact List.eq_nil_of_length_eq_zero hl
  | x :: r, [], hl, _ => by simp at hl
  | x :: r, u :: us, hl, H => by
    simp only [RelL]
    exact ⟨u, us, rfl, H 0 x u (by simp) (by simp), RelL.of (by simpa using hl) fun i y v hy hv => H (i + 1) y v (by simpa using hy) (by simpa using hv)⟩
theorem RelL.append {U F : Nat → Prop} {β : Nat → Option Bind} {w : World} : ∀ {xs ys : List AV} {us vs : List Value}, RelL U w F β xs us → RelL U w F β ys vs → RelL U w F β (xs ++ ys) (us ++ vs)
  | [], ys, us, vs, h, k => by simp only [RelL] at h; subst h; exact k
  | x :: r, ys, us, vs, h, k => by
    simp only [RelL] at h
    obtain ⟨u, us', rfl, h1, h2⟩ := h
    simp only [List.cons_append, RelL]
    exact ⟨u, us' ++ vs, rfl, h1, RelL.append h2 k⟩
theorem RelL.take {U F : Nat → Prop} {β : Nat → Option Bind} {w : World} (n : Nat) : ∀ {xs : List AV} {us : List Value}, RelL U w F β xs us → RelL U w F β (xs.take n) (us.take n) := by
  intro xs us h
  refine RelL.of (by simp [h.len]) fun i x u hx hu => ?_
  rw [List.getElem?_take] at hx hu
  split at hx
  · rename_i hlt
    rw [if_pos hlt] at hu
    obtain ⟨u', h1, h2⟩ := h.at i x hx
    rw [hu] at h1; cases h1; exact h2
  · simp at hx
theorem RelL.drop {U F : Nat → Prop} {β : Nat → Option Bind} {w : World} (n : Nat) : ∀ {xs : List AV} {us : List Value}, RelL U w F β xs us → RelL U w F β (xs.drop n) (us.drop n) := by
  intro xs us h
  refine RelL.of (by simp [h.len]) fun i x u hx hu => ?_
  rw [List.getElem?_drop] at hx hu
  obtain ⟨u', h1, h2⟩ := h.at _ x hx
  rw [hu] at h1; cases h1; exact h2

/-- A map's key; its entries, in their order. -/
def keyV (agg : Bool) (k : List Int) : Value := if agg then .agg (k.map (.int .i64)).toArray else .int .i64 (k.headD 0)
def entsF (agg : Bool) : Nat → List (List Int × Int) → List MapEntry
  | _, [] => []
  | i, (k, v) :: r => ⟨keyV agg k, .int .i64 v, i⟩ :: entsF agg (i + 1) r
/-- A piece of memory lies at bd. -/
def ChOk (U : Nat → Prop) (w : World) (F : Nat → Prop) (β : Nat → Option Bind) (bd : Bind) : Chunk → Prop
  | .dead => True
  | .row e sz xs => bd.sz = sz ∧ bd.n = xs.length ∧ (∀ cs ∈ xs, cs.length = sz) ∧
      ((bd.b = none ∧ xs = [] ∧ bd.v = .slice none 0 0) ∨ ∃ g cap cur, bd.b = some g ∧ bd.v = .slice (some ⟨g, 0, none⟩) xs.length cap ∧ w.heap[g]? = some (.cells cur e (0, 0)) ∧ xs.length ≤ cap ∧ cap ≤ maxLen ∧ cur.size = cap * sz ∧ RelE w F g sz 0 xs)
  | .blk t cs => bd.sz = cs.length ∧ bd.n = 1 ∧ ∃ g vs, bd.b = some g ∧ bd.v = .pointer (some ⟨g, 0, none⟩) ∧ w.heap[g]? = some (.cells vs t (0, 0)) ∧ RelL U w F β cs vs.toList ∧ ∀ x ∈ vs.toList, x.oneCell' = true
  | .mp agg n es => (∀ e ∈ es, e.1.length = n) ∧ ∃ g, bd.b = some g ∧ w.heap[g]? = some (.map (entsF agg 0 es).toArray es.length)
theorem ChOk.mono {U F U' F' : Nat → Prop} {β β' : Nat → Option Bind} {w w' : World} (E : Ext U F β w U' F' β' w') {bd : Bind} (hb : ∀ g, bd.b = some g → w'.heap[g]? = w.heap[g]?) : ∀ {c : Chunk}, ChOk U w F β bd c → ChOk U' w' F' β' bd c
  | .dead, _ => trivial
  | .row e sz xs, ⟨h1, h2, h3, h4⟩ => by
    refine ⟨h1, h2, h3, ?_⟩
    rcases h4 with h4 | ⟨g, cap, cur, h5, h6, h7, h8, h9, h10, h11⟩
    · exact .inl h4
    · exact .inr ⟨g, cap, cur, h5, h6, (hb g h5).trans h7, h8, h9, h10, RelE.mono E.f (hb g h5) _ _ _ h11⟩
  | .blk t cs, ⟨h1, h2, g, vs, h3, h4, h5, h6, h7⟩ => ⟨h1, h2, g, vs, h3, h4, (hb g h3).trans h5, RelL.mono E _ _ h6, h7⟩
  | .mp agg n es, ⟨h0, g, h1, h2⟩ => ⟨h0, g, h1, (hb g h1).trans h2⟩

/-- The memory at w: the pieces h of the call's own; what is frozen; what was there at W is as it was, but for N. -/
structure MemOk (W : World) (N : Nat → Prop) (U : Nat → Prop) (F : Nat → Prop) (β : Nat → Option Bind) (h : Nat → Chunk) (w : World) : Prop where
  size : W.heap.size ≤ w.heap.size
  os : w.os = W.os
  tape : w.tape = W.tape
  output : w.output = W.output
  frame : ∀ b, b < W.heap.size → ¬ N b → w.heap[b]? = W.heap[b]?
  fin : ∀ b, F b → b < w.heap.size
  used : ∀ id bd, β id = some bd → U id
  ch : ∀ id, h id ≠ .dead → ∃ bd, β id = some bd ∧ ChOk U w F β bd (h id)
  dis : ∀ i j bi bj b, β i = some bi → β j = some bj → bi.b = some b → bj.b = some b → i = j
  off : ∀ i bd b, β i = some bd → bd.b = some b → ¬ F b ∧ b < w.heap.size ∧ (W.heap.size ≤ b ∨ N b)
/-- The pieces h, changed. -/
def upd (h : Nat → Chunk) : List (Nat × Chunk) → Nat → Chunk
  | [], i => h i
  | (k, c) :: r, i => if k = i then c else upd h r i
def look : List (Nat × AV) → Nat → AV
  | [], _ => .undef
  | (k, x) :: r, i => if k = i then x else look r i
def lookC : List (Nat × Chunk) → Nat → Chunk
  | [], _ => .dead
  | (k, x) :: r, i => if k = i then x else lookC r i
end Go.Proofs.Ytibknlfadoeglaa
