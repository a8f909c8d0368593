/- Lemmas for the proof of seatSays.proved. -/
import Derived.Orders
import Derived.Laws.AppendOwn
import Derived.Below
import Derived.Deep.Draws
import Derived.Laws.Entries
import Derived.Laws.Cells
import Derived.Laws.Rows
import Derived.WalkKit
import Derived.Laws.StructEq
import Derived.Laws.OwnMore
import Derived.Deep.Upon
import Derived.Laws.CopyRow
namespace Go.Proofs.Ytdkmndimmpilaaa
set_option linter.all false
open Go.RowKit
inductive PV where
 | undef
 | v (x : Value)
 | sl (sz : Nat) (xs : List (List PV))
inductive AV where
 | undef
 | c (p : PV)
 | agg (xs : List AV)
 | tup (xs : List AV)
 | own (id : Nat)
 | view (id o l : Nat)
 | ptr (id i o : Nat)
 | fel (sz : Nat) (xs : List (List PV)) (i o : Nat)
 | clo (f : Fn) (a b : List AV)
 | ifc (t : TypeId) (x : AV)
 | map (id : Nat)
 | opt (t : Bool) (x : AV)
inductive Chunk where
 | dead
 | row (e sz : Nat) (xs : List (List PV))
 | blk (t : TypeId) (cs : List AV)
 | mp (agg : Bool) (n : Nat) (es : List (List Int × Int))
 | keep (e sz : Nat) (xs : List (List PV))
 | nst (e sz c e2 sz2 : Nat) (xs : List (List PV)) (ys : List (List (List PV))) (op : Option (Nat × Nat))
structure Bind where
 v : Value
 b : Option Nat
 n : Nat
 sz : Nat
 bs : List Nat
def Bind.has (bd : Bind) (b : Nat) : Prop := bd.b = some b ∨ b ∈ bd.bs
theorem Bind.has_nil {v : Value} {b : Option Nat} {n sz g : Nat} (h : (⟨v, b, n, sz, []⟩ : Bind).has g) : b = some g := by
 rcases h with h | h
 ·exact h
 ·cases h
mutual
def RelP (w : World) (F : Nat → Prop) : PV → Value → Prop
 | .undef, u => u.oneCell' = true
 | .v x, u => u = x ∧ x.oneCell' = true
 | .sl sz xs, u => ∃ a c, u = .slice a xs.length c ∧ xs.length ≤ c ∧ c ≤ maxLen ∧ (xs = [] ∨ ∃ b o, a = some ⟨b, o, none⟩ ∧ F b ∧ RelE w F b sz o xs)
def RelE (w : World) (F : Nat → Prop) (b sz : Nat) : Nat → List (List PV) → Prop
 | _, [] => True
 | o, cs :: r => cs.length = sz ∧ RelC w F b o cs ∧ RelE w F b sz (o + sz) r
def RelC (w : World) (F : Nat → Prop) (b : Nat) : Nat → List PV → Prop
 | _, [] => True
 | o, x :: r => (∃ u, w.cell? ⟨b, o, none⟩ = some u ∧ RelP w F x u) ∧ RelC w F b (o + 1) r
end
def Keeps (w : World) (F : Nat → Prop) (w' : World) (F' : Nat → Prop) : Prop := ∀ b, F b → F' b ∧ w'.heap[b]? = w.heap[b]?
mutual
theorem RelP.mono {w w' : World} {F F' : Nat → Prop} (K : Keeps w F w' F') : ∀ (p : PV) (u : Value), RelP w F p u → RelP w' F' p u
 | .undef, _, h => by simp only [RelP] at h ⊢; exact h
 | .v _, _, h => by simp only [RelP] at h ⊢; exact h
 | .sl sz xs, u, h => by
  simp only [RelP] at h ⊢
  obtain ⟨a, c, rfl, h1, h2, h3⟩ := h
  refine ⟨a, c, rfl, h1, h2, ?_⟩
  rcases h3 with h3 | ⟨b, o, rfl, hb, he⟩
  ·exact .inl h3
  ·exact .inr ⟨b, o, rfl, (K b hb).1, RelE.mono K (K b hb).2 sz o xs he⟩
theorem RelE.mono {w w' : World} {F F' : Nat → Prop} (K : Keeps w F w' F') {b : Nat} (hb : w'.heap[b]? = w.heap[b]?) : ∀ (sz o : Nat) (xs : List (List PV)), RelE w F b sz o xs → RelE w' F' b sz o xs
 | _, _, [], _ => by simp only [RelE]
 | sz, o, cs :: r, h => by
  simp only [RelE] at h ⊢
  exact ⟨h.1, RelC.mono K hb o cs h.2.1, RelE.mono K hb sz (o + sz) r h.2.2⟩
theorem RelC.mono {w w' : World} {F F' : Nat → Prop} (K : Keeps w F w' F') {b : Nat} (hb : w'.heap[b]? = w.heap[b]?) : ∀ (o : Nat) (xs : List PV), RelC w F b o xs → RelC w' F' b o xs
 | _, [], _ => by simp only [RelC]
 | o, x :: r, h => by
  simp only [RelC] at h ⊢
  obtain ⟨⟨u, hu, hx⟩, hr⟩ := h
  exact ⟨⟨u, (World.cell?_of_block (w := w) (a := ⟨b, o, none⟩) hb).trans hu, RelP.mono K x u hx⟩, RelC.mono K hb (o + 1) r hr⟩
end
theorem RelP.one {w : World} {F : Nat → Prop} : ∀ {p : PV} {u : Value}, RelP w F p u → u.oneCell' = true
 | .undef, _, h => by simpa only [RelP] using h
 | .v _, _, h => by simp only [RelP] at h; rw [h.1]; exact h.2
 | .sl _ _, _, h => by simp only [RelP] at h; obtain ⟨a, c, rfl, _⟩ := h; rfl
theorem RelE.at {w : World} {F : Nat → Prop} {b sz : Nat} : ∀ {xs : List (List PV)} {o : Nat}, RelE w F b sz o xs → ∀ (i : Nat) (cs : List PV), xs[i]? = some cs → cs.length = sz ∧ RelC w F b (o + i * sz) cs
 | [], _, _, i, cs, h => by simp at h
 | x :: r, o, H, i, cs, h => by
  simp only [RelE] at H
  cases i with
  | zero => simp at h; subst h; simpa using ⟨H.1, H.2.1⟩
  | succ i =>
   have := RelE.at H.2.2 i cs (by simpa using h)
   rw [show o + (i + 1) * sz = o + sz + i * sz from by rw [Nat.add_mul]; omega]; exact this
theorem RelC.at {w : World} {F : Nat → Prop} {b : Nat} : ∀ {cs : List PV} {o : Nat}, RelC w F b o cs → ∀ (j : Nat) (x : PV), cs[j]? = some x → ∃ u, w.cell? ⟨b, o + j, none⟩ = some u ∧ RelP w F x u
 | [], _, _, j, x, h => by simp at h
 | y :: r, o, H, j, x, h => by
  simp only [RelC] at H
  cases j with
  | zero => simp at h; subst h; simpa using H.1
  | succ j =>
   have := RelC.at H.2 j x (by simpa using h)
   rw [show o + (j + 1) = o + 1 + j from by omega]; exact this
theorem RelC.of {w : World} {F : Nat → Prop} {b : Nat} : ∀ {cs : List PV} {o : Nat}, (∀ (j : Nat) (x : PV), cs[j]? = some x → ∃ u, w.cell? ⟨b, o + j, none⟩ = some u ∧ RelP w F x u) → RelC w F b o cs
 | [], _, _ => by simp only [RelC]
 | y :: r, o, H => by
  simp only [RelC]
  refine ⟨by simpa using H 0 y (by simp), RelC.of fun j x hx => ?_⟩
  have := H (j + 1) x (by simpa using hx)
  rwa [show o + (j + 1) = o + 1 + j from by omega] at this
theorem RelE.of {w : World} {F : Nat → Prop} {b sz : Nat} : ∀ {xs : List (List PV)} {o : Nat}, (∀ (i : Nat) (cs : List PV), xs[i]? = some cs → cs.length = sz ∧ RelC w F b (o + i * sz) cs) → RelE w F b sz o xs
 | [], _, _ => by simp only [RelE]
 | x :: r, o, H => by
  simp only [RelE]
  have h0 := H 0 x (by simp)
  refine ⟨h0.1, by simpa using h0.2, RelE.of fun i cs hi => ?_⟩
  have := H (i + 1) cs (by simpa using hi)
  rwa [show o + (i + 1) * sz = o + sz + i * sz from by rw [Nat.add_mul]; omega] at this
mutual
def RelA (U : Nat → Prop) (w : World) (F : Nat → Prop) (β : Nat → Option Bind) : AV → Value → Prop
 | .undef, _ => True
 | .c p, u => RelP w F p u
 | .agg xs, u => ∃ vs, u = .agg vs ∧ RelL U w F β xs vs.toList ∧ ∀ x ∈ vs.toList, x.oneCell' = true
 | .tup xs, u => ∃ vs, u = .tuple vs ∧ RelL U w F β xs vs.toList
 | .own id, u => U id ∧ u.oneCell' = true ∧ ∀ bd, β id = some bd → u = bd.v
 | .view id o l, u => U id ∧ u.oneCell' = true ∧ ∀ bd, β id = some bd → ∃ a c, u = .slice a l c ∧ o + l ≤ bd.n ∧ l ≤ c ∧ c ≤ maxLen ∧ (l = 0 ∨ ∃ g, bd.b = some g ∧ a = some ⟨g, o * bd.sz, none⟩) ∧ (o = 0 → ∃ n, bd.v = .slice a n c)
 | .ptr id i o, u => U id ∧ u.oneCell' = true ∧ ∀ bd, β id = some bd → ∃ g, bd.b = some g ∧ u = .pointer (some ⟨g, i * bd.sz + o, none⟩)
 | .fel sz xs i o, u => ∃ b p, u = .pointer (some ⟨b, p + i * sz + o, none⟩) ∧ F b ∧ RelE w F b sz p xs
 | .clo f x y, u => ∃ fs cs, u = .func f fs cs ∧ RelL U w F β x fs.toList ∧ RelL U w F β y cs.toList
 | .ifc t x, u => ∃ y, u = .iface t y ∧ RelA U w F β x y
 | .map id, u => U id ∧ u.oneCell' = true ∧ ∀ bd, β id = some bd → u = .map bd.b
 | .opt t x, u => (t = true → RelA U w F β x u) ∧ (t = false → u = undef)
def RelL (U : Nat → Prop) (w : World) (F : Nat → Prop) (β : Nat → Option Bind) : List AV → List Value → Prop
 | [], vs => vs = []
 | x :: r, vs => ∃ u us, vs = u :: us ∧ RelA U w F β x u ∧ RelL U w F β r us
end
structure Ext (U : Nat → Prop) (F : Nat → Prop) (β : Nat → Option Bind) (w : World) (U' : Nat → Prop) (F' : Nat → Prop) (β' : Nat → Option Bind) (w' : World) : Prop where
 u : ∀ id, U id → U' id
 f : Keeps w F w' F'
 e : ∀ id bd, U id → β' id = some bd → ∃ bs, β id = some ⟨bd.v, bd.b, bd.n, bd.sz, bs⟩
theorem Ext.refl (U F : Nat → Prop) (β : Nat → Option Bind) (w : World) : Ext U F β w U F β w := ⟨fun _ h => h, fun _ h => ⟨h, rfl⟩, fun _ _ _ h => ⟨_, h⟩⟩
theorem Ext.trans {U F U' F' U'' F'' : Nat → Prop} {β β' β'' : Nat → Option Bind} {w w' w'' : World} (h : Ext U F β w U' F' β' w') (k : Ext U' F' β' w' U'' F'' β'' w'') : Ext U F β w U'' F'' β'' w'' :=
 ⟨fun i hi => k.u i (h.u i hi), fun b hb => ⟨(k.f b (h.f b hb).1).1, (k.f b (h.f b hb).1).2.trans (h.f b hb).2⟩, fun i bd hi hb => by obtain ⟨bs, h1⟩ := k.e i bd (h.u i hi) hb; exact h.e i ⟨_, _, _, _, bs⟩ hi h1⟩
mutual
theorem RelA.mono {U F U' F' : Nat → Prop} {β β' : Nat → Option Bind} {w w' : World} (E : Ext U F β w U' F' β' w') : ∀ (x : AV) (u : Value), RelA U w F β x u → RelA U' w' F' β' x u
 | .undef, _, _ => by simp only [RelA]
 | .c p, u, h => by simp only [RelA] at h ⊢; exact RelP.mono E.f p u h
 | .agg xs, u, h => by
  simp only [RelA] at h ⊢
  obtain ⟨vs, rfl, h1, h2⟩ := h
  exact ⟨vs, rfl, RelL.mono E xs _ h1, h2⟩
 | .tup xs, u, h => by
  simp only [RelA] at h ⊢
  obtain ⟨vs, rfl, h1⟩ := h
  exact ⟨vs, rfl, RelL.mono E xs _ h1⟩
 | .own id, u, h => by simp only [RelA] at h ⊢; exact ⟨E.u _ h.1, h.2.1, fun bd hb => by obtain ⟨bs, h1⟩ := E.e _ _ h.1 hb; exact h.2.2 ⟨_, _, _, _, bs⟩ h1⟩
 | .view id o l, u, h => by simp only [RelA] at h ⊢; exact ⟨E.u _ h.1, h.2.1, fun bd hb => by obtain ⟨bs, h1⟩ := E.e _ _ h.1 hb; exact h.2.2 ⟨_, _, _, _, bs⟩ h1⟩
 | .ptr id i o, u, h => by simp only [RelA] at h ⊢; exact ⟨E.u _ h.1, h.2.1, fun bd hb => by obtain ⟨bs, h1⟩ := E.e _ _ h.1 hb; exact h.2.2 ⟨_, _, _, _, bs⟩ h1⟩
 | .fel sz xs i o, u, h => by
  simp only [RelA] at h ⊢
  obtain ⟨b, p, rfl, hb, he⟩ := h
  exact ⟨b, p, rfl, (E.f b hb).1, RelE.mono E.f (E.f b hb).2 _ _ _ he⟩
 | .clo f x y, u, h => by
  simp only [RelA] at h ⊢
  obtain ⟨fs, cs, rfl, h1, h2⟩ := h
  exact ⟨fs, cs, rfl, RelL.mono E x _ h1, RelL.mono E y _ h2⟩
 | .ifc t x, u, h => by
  simp only [RelA] at h ⊢
  obtain ⟨y, rfl, h1⟩ := h
  exact ⟨y, rfl, RelA.mono E x y h1⟩
 | .map id, u, h => by simp only [RelA] at h ⊢; exact ⟨E.u _ h.1, h.2.1, fun bd hb => by obtain ⟨bs, h1⟩ := E.e _ _ h.1 hb; exact h.2.2 ⟨_, _, _, _, bs⟩ h1⟩
 | .opt t x, u, h => by simp only [RelA] at h ⊢; exact ⟨fun ht => RelA.mono E x u (h.1 ht), h.2⟩
theorem RelL.mono {U F U' F' : Nat → Prop} {β β' : Nat → Option Bind} {w w' : World} (E : Ext U F β w U' F' β' w') : ∀ (xs : List AV) (us : List Value), RelL U w F β xs us → RelL U' w' F' β' xs us
 | [], _, h => by simp only [RelL] at h ⊢; exact h
 | x :: r, us, h => by
  simp only [RelL] at h ⊢
  obtain ⟨u, us', rfl, h1, h2⟩ := h
  exact ⟨u, us', rfl, RelA.mono E x u h1, RelL.mono E r us' h2⟩
end
theorem RelL.len {U F : Nat → Prop} {β : Nat → Option Bind} {w : World} : ∀ {xs : List AV} {us : List Value}, RelL U w F β xs us → us.length = xs.length
 | [], _, h => by simp only [RelL] at h; subst h; rfl
 | x :: r, us, h => by simp only [RelL] at h; obtain ⟨u, us', rfl, _, h2⟩ := h; simp [RelL.len h2]
theorem RelL.at {U F : Nat → Prop} {β : Nat → Option Bind} {w : World} : ∀ {xs : List AV} {us : List Value}, RelL U w F β xs us → ∀ (i : Nat) (x : AV), xs[i]? = some x → ∃ u, us[i]? = some u ∧ RelA U w F β x u
 | [], _, _, i, x, h => by simp at h
 | y :: r, us, H, i, x, h => by
  simp only [RelL] at H
  obtain ⟨u, us', rfl, h1, h2⟩ := H
  cases i with
  | zero => simp at h; subst h; exact ⟨u, by simp, h1⟩
  | succ i => obtain ⟨u', h3, h4⟩ := RelL.at h2 i x (by simpa using h); exact ⟨u', by simpa using h3, h4⟩
theorem RelL.of {U F : Nat → Prop} {β : Nat → Option Bind} {w : World} : ∀ {xs : List AV} {us : List Value}, us.length = xs.length → (∀ (i : Nat) (x : AV) (u : Value), xs[i]? = some x → us[i]? = some u → RelA U w F β x u) → RelL U w F β xs us
 | [], us, hl, _ => by simp only [RelL]; exact List.eq_nil_of_length_eq_zero hl
 | x :: r, [], hl, _ => by simp at hl
 | x :: r, u :: us, hl, H => by
  simp only [RelL]
  exact ⟨u, us, rfl, H 0 x u (by simp) (by simp), RelL.of (by simpa using hl) fun i y v hy hv => H (i + 1) y v (by simpa using hy) (by simpa using hv)⟩
theorem RelL.append {U F : Nat → Prop} {β : Nat → Option Bind} {w : World} : ∀ {xs ys : List AV} {us vs : List Value}, RelL U w F β xs us → RelL U w F β ys vs → RelL U w F β (xs ++ ys) (us ++ vs)
 | [], ys, us, vs, h, k => by simp only [RelL] at h; subst h; exact k
 | x :: r, ys, us, vs, h, k => by
  simp only [RelL] at h
  obtain ⟨u, us', rfl, h1, h2⟩ := h
  simp only [List.cons_append, RelL]
  exact ⟨u, us' ++ vs, rfl, h1, RelL.append h2 k⟩
theorem RelL.take {U F : Nat → Prop} {β : Nat → Option Bind} {w : World} (n : Nat) : ∀ {xs : List AV} {us : List Value}, RelL U w F β xs us → RelL U w F β (xs.take n) (us.take n) := by
 intro xs us h
 refine RelL.of (by simp [h.len]) fun i x u hx hu => ?_
 rw [List.getElem?_take] at hx hu
 split at hx
 ·rename_i hlt
  rw [if_pos hlt] at hu
  obtain ⟨u', h1, h2⟩ := h.at i x hx
  rw [hu] at h1; cases h1; exact h2
 ·simp at hx
theorem RelL.drop {U F : Nat → Prop} {β : Nat → Option Bind} {w : World} (n : Nat) : ∀ {xs : List AV} {us : List Value}, RelL U w F β xs us → RelL U w F β (xs.drop n) (us.drop n) := by
 intro xs us h
 refine RelL.of (by simp [h.len]) fun i x u hx hu => ?_
 rw [List.getElem?_drop] at hx hu
 obtain ⟨u', h1, h2⟩ := h.at _ x hx
 rw [hu] at h1; cases h1; exact h2
def keyV (agg : Bool) (k : List Int) : Value := if agg then .agg (k.map (.int .i64)).toArray else .int .i64 (k.headD 0)
def entsF (agg : Bool) : Nat → List (List Int × Int) → List MapEntry
 | _, [] => []
 | i, (k, v) :: r => ⟨keyV agg k, .int .i64 v, i⟩ :: entsF agg (i + 1) r
def InnOk (w : World) (F : Nat → Prop) (bs : List Nat) (e2 sz2 : Nat) (ys : List (List PV)) (u : Value) : Prop :=
 (u = .slice none 0 0 ∧ ys = []) ∨ ∃ g cap cur, u = .slice (some ⟨g, 0, none⟩) ys.length cap ∧ g ∈ bs ∧ w.heap[g]? = some (.cells cur e2 (0, 0)) ∧ ys.length ≤ cap ∧ cap ≤ maxLen ∧ cur.size = cap * sz2 ∧ RelE w F g sz2 0 ys
theorem InnOk.one {w : World} {F : Nat → Prop} {bs : List Nat} {e2 sz2 : Nat} {ys : List (List PV)} {u : Value} (h : InnOk w F bs e2 sz2 ys u) : u.oneCell' = true := by
 rcases h with ⟨rfl, _⟩ | ⟨g, cap, cur, rfl, _⟩ <;> rfl
def opAt (op : Option (Nat × Nat)) (i : Nat) : Option Nat := match op with
 | some (j, id) => if j = i then some id else none
 | none => none
def NCell (U : Nat → Prop) (w : World) (F : Nat → Prop) (β : Nat → Option Bind) (bs : List Nat) (c e2 sz2 : Nat) (x : PV) (y : List (List PV)) (o : Option Nat) (j : Nat) (u : Value) : Prop :=
 if j = c then (match o with | some id => U id ∧ u.oneCell' = true ∧ ∀ bd, β id = some bd → u = bd.v | none => InnOk w F bs e2 sz2 y u) else RelP w F x u
structure NstOk (U : Nat → Prop) (w : World) (F : Nat → Prop) (β : Nat → Option Bind) (bs : List Nat) (g sz c e2 sz2 : Nat) (xs : List (List PV)) (ys : List (List (List PV))) (op : Option (Nat × Nat)) : Prop where
 cells : ∀ i x y, xs[i]? = some x → ys[i]? = some y → ∀ j p, x[j]? = some p → ∃ u, w.cell? ⟨g, i * sz + j, none⟩ = some u ∧ NCell U w F β bs c e2 sz2 p y (opAt op i) j u
 inj : ∀ i i' b o o' n n' k k', i < xs.length → i' < xs.length → opAt op i = none → opAt op i' = none → w.cell? ⟨g, i * sz + c, none⟩ = some (.slice (some ⟨b, o, none⟩) n k) → w.cell? ⟨g, i' * sz + c, none⟩ = some (.slice (some ⟨b, o', none⟩) n' k') → i = i'
 opu : ∀ i id, op = some (i, id) → U id ∧ i < xs.length
def ChOk (U : Nat → Prop) (w : World) (F : Nat → Prop) (β : Nat → Option Bind) (bd : Bind) : Chunk → Prop
 | .dead => True
 | .row e sz xs => (bd.sz = sz ∧ bd.bs = []) ∧ bd.n = xs.length ∧ (∀ cs ∈ xs, cs.length = sz) ∧
  ((bd.b = none ∧ xs = [] ∧ bd.v = .slice none 0 0) ∨ ∃ g cap cur, bd.b = some g ∧ bd.v = .slice (some ⟨g, 0, none⟩) xs.length cap ∧ w.heap[g]? = some (.cells cur e (0, 0)) ∧ xs.length ≤ cap ∧ cap ≤ maxLen ∧ cur.size = cap * sz ∧ RelE w F g sz 0 xs)
 | .keep e sz xs => (bd.sz = sz ∧ bd.bs = []) ∧ bd.n = xs.length ∧ (∀ cs ∈ xs, cs.length = sz) ∧
  ((bd.b = none ∧ xs = [] ∧ bd.v = .slice none 0 0) ∨ ∃ g cap cur, bd.b = some g ∧ bd.v = .slice (some ⟨g, 0, none⟩) xs.length cap ∧ w.heap[g]? = some (.cells cur e (0, 0)) ∧ xs.length ≤ cap ∧ cap ≤ maxLen ∧ cur.size = cap * sz ∧ RelE w F g sz 0 xs)
 | .blk t cs => (bd.sz = cs.length ∧ bd.bs = []) ∧ bd.n = 1 ∧ ∃ g vs, bd.b = some g ∧ bd.v = .pointer (some ⟨g, 0, none⟩) ∧ w.heap[g]? = some (.cells vs t (0, 0)) ∧ RelL U w F β cs vs.toList ∧ ∀ x ∈ vs.toList, x.oneCell' = true
 | .mp agg n es => (∀ e ∈ es, e.1.length = n) ∧ ∃ g, bd.b = some g ∧ w.heap[g]? = some (.map (entsF agg 0 es).toArray es.length)
 | .nst e sz c e2 sz2 xs ys op => (bd.sz = sz ∧ ∀ b ∈ bd.bs, ∃ cur, w.heap[b]? = some (.cells cur e2 (0, 0))) ∧ bd.n = xs.length ∧ ys.length = xs.length ∧ c < sz ∧ (∀ cs ∈ xs, cs.length = sz) ∧
  ((bd.b = none ∧ xs = [] ∧ bd.v = .slice none 0 0 ∧ op = none) ∨ ∃ g cap cur, bd.b = some g ∧ bd.v = .slice (some ⟨g, 0, none⟩) xs.length cap ∧ w.heap[g]? = some (.cells cur e (0, 0)) ∧ xs.length ≤ cap ∧ cap ≤ maxLen ∧ cur.size = cap * sz ∧ g ∉ bd.bs ∧ NstOk U w F β bd.bs g sz c e2 sz2 xs ys op)
theorem InnOk.mono {w w' : World} {F F' : Nat → Prop} (K : Keeps w F w' F') {bs : List Nat} (hb : ∀ g ∈ bs, w'.heap[g]? = w.heap[g]?) {e2 sz2 : Nat} {ys : List (List PV)} {u : Value} (h : InnOk w F bs e2 sz2 ys u) : InnOk w' F' bs e2 sz2 ys u := by
 rcases h with h | ⟨g, cap, cur, h1, h2, h3, h4, h5, h6, h7⟩
 ·exact .inl h
 ·exact .inr ⟨g, cap, cur, h1, h2, (hb g h2).trans h3, h4, h5, h6, RelE.mono K (hb g h2) _ _ _ h7⟩
theorem NstOk.mono {U F U' F' : Nat → Prop} {β β' : Nat → Option Bind} {w w' : World} (E : Ext U F β w U' F' β' w') {bs : List Nat} {g sz c e2 sz2 : Nat} {xs : List (List PV)} {ys : List (List (List PV))} {op : Option (Nat × Nat)} (hg : w'.heap[g]? = w.heap[g]?) (hb : ∀ g ∈ bs, w'.heap[g]? = w.heap[g]?) (h : NstOk U w F β bs g sz c e2 sz2 xs ys op) : NstOk U' w' F' β' bs g sz c e2 sz2 xs ys op := by
 have ec : ∀ o, w'.cell? ⟨g, o, none⟩ = w.cell? ⟨g, o, none⟩ := fun o => World.cell?_of_block (a := ⟨g, o, none⟩) hg
 refine ⟨fun i x y hx hy j p hp => ?_, fun i i' b o o' n n' k k' h1 h2 h3 h4 h5 h6 => h.inj i i' b o o' n n' k k' h1 h2 h3 h4 ((ec _).symm.trans h5) ((ec _).symm.trans h6), fun i id ho => ⟨E.u _ (h.opu i id ho).1, (h.opu i id ho).2⟩⟩
 obtain ⟨u, hu, hc⟩ := h.cells i x y hx hy j p hp
 refine ⟨u, (ec _).trans hu, ?_⟩
 unfold NCell at hc ⊢
 split
 ·rename_i hj
  rw [if_pos hj] at hc
  split
  ·rename_i id he
   rw [he] at hc
   exact ⟨E.u _ hc.1, hc.2.1, fun bd hbd => by obtain ⟨bs, h1⟩ := E.e _ _ hc.1 hbd; exact hc.2.2 ⟨_, _, _, _, bs⟩ h1⟩
  ·rename_i he
   rw [he] at hc
   exact hc.mono E.f hb
 ·rename_i hj
  rw [if_neg hj] at hc
  exact RelP.mono E.f _ _ hc
theorem NstOk.ren {U F U' F' : Nat → Prop} {β β' : Nat → Option Bind} {w : World} (K : Keeps w F w F') {bs : List Nat} {g sz c e2 sz2 : Nat} {xs : List (List PV)} {ys : List (List (List PV))} {i0 k k' : Nat} (hU : U k → U' k') (hb : ∀ bd, β' k' = some bd → β k = some bd) (h : NstOk U w F β bs g sz c e2 sz2 xs ys (some (i0, k))) : NstOk U' w F' β' bs g sz c e2 sz2 xs ys (some (i0, k')) := by
 have e : ∀ i, opAt (some (i0, k')) i = none → opAt (some (i0, k)) i = none := by
  intro i hi
  simp only [opAt] at hi ⊢
  split at hi
  ·simp at hi
  ·rename_i hn; rw [if_neg hn]
 refine ⟨fun i x y hx hy j p hp => ?_, fun i i' b o o' n n' q q' h1 h2 h3 h4 => h.inj i i' b o o' n n' q q' h1 h2 (e i h3) (e i' h4), fun i id ho => ?_⟩
 ·obtain ⟨u, hu, hc⟩ := h.cells i x y hx hy j p hp
  refine ⟨u, hu, ?_⟩
  unfold NCell at hc ⊢
  split
  ·rename_i hj
   rw [if_pos hj] at hc
   simp only [opAt] at hc ⊢
   by_cases hi : i0 = i
   ·rw [if_pos hi] at hc ⊢
    exact ⟨hU hc.1, hc.2.1, fun bd hbd => hc.2.2 bd (hb bd hbd)⟩
   ·rw [if_neg hi] at hc ⊢
    exact hc.mono K fun _ _ => rfl
  ·rename_i hj
   rw [if_neg hj] at hc
   exact RelP.mono K _ _ hc
 ·simp only [Option.some.injEq, Prod.mk.injEq] at ho
  obtain ⟨rfl, rfl⟩ := ho
  exact ⟨hU (h.opu _ _ rfl).1, (h.opu _ _ rfl).2⟩
theorem NstOk.closed {U F U' F' : Nat → Prop} {β β' : Nat → Option Bind} {w : World} (K : Keeps w F w F') {bs : List Nat} {g sz c e2 sz2 : Nat} {xs : List (List PV)} {ys : List (List (List PV))} (h : NstOk U w F β bs g sz c e2 sz2 xs ys none) : NstOk U' w F' β' bs g sz c e2 sz2 xs ys none := by
 refine ⟨fun i x y hx hy j p hp => ?_, h.inj, fun i id ho => by simp at ho⟩
 obtain ⟨u, hu, hc⟩ := h.cells i x y hx hy j p hp
 refine ⟨u, hu, ?_⟩
 unfold NCell at hc ⊢
 split
 ·rename_i hj
  rw [if_pos hj] at hc
  simp only [opAt] at hc ⊢
  exact hc.mono K fun _ _ => rfl
 ·rename_i hj
  rw [if_neg hj] at hc
  exact RelP.mono K _ _ hc
theorem ChOk.mono {U F U' F' : Nat → Prop} {β β' : Nat → Option Bind} {w w' : World} (E : Ext U F β w U' F' β' w') {bd : Bind} (hb : ∀ g, bd.has g → w'.heap[g]? = w.heap[g]?) : ∀ {c : Chunk}, ChOk U w F β bd c → ChOk U' w' F' β' bd c
 | .dead, _ => trivial
 | .row e sz xs, ⟨h1, h2, h3, h4⟩ => by
  refine ⟨h1, h2, h3, ?_⟩
  rcases h4 with h4 | ⟨g, cap, cur, h5, h6, h7, h8, h9, h10, h11⟩
  ·exact .inl h4
  ·exact .inr ⟨g, cap, cur, h5, h6, (hb g (.inl h5)).trans h7, h8, h9, h10, RelE.mono E.f (hb g (.inl h5)) _ _ _ h11⟩
 | .keep e sz xs, ⟨h1, h2, h3, h4⟩ => by
  refine ⟨h1, h2, h3, ?_⟩
  rcases h4 with h4 | ⟨g, cap, cur, h5, h6, h7, h8, h9, h10, h11⟩
  ·exact .inl h4
  ·exact .inr ⟨g, cap, cur, h5, h6, (hb g (.inl h5)).trans h7, h8, h9, h10, RelE.mono E.f (hb g (.inl h5)) _ _ _ h11⟩
 | .blk t cs, ⟨h1, h2, g, vs, h3, h4, h5, h6, h7⟩ => ⟨h1, h2, g, vs, h3, h4, (hb g (.inl h3)).trans h5, RelL.mono E _ _ h6, h7⟩
 | .mp agg n es, ⟨h0, g, h1, h2⟩ => ⟨h0, g, h1, (hb g (.inl h1)).trans h2⟩
 | .nst e sz c e2 sz2 xs ys op, ⟨h1, h2, h3, h4, h5, h6⟩ => by
  refine ⟨⟨h1.1, fun b hbb => by obtain ⟨cur, hc⟩ := h1.2 b hbb; exact ⟨cur, (hb b (.inr hbb)).trans hc⟩⟩, h2, h3, h4, h5, ?_⟩
  rcases h6 with h6 | ⟨g, cap, cur, k1, k2, k3, k4, k5, k6, k7, k8⟩
  ·exact .inl h6
  ·exact .inr ⟨g, cap, cur, k1, k2, (hb g (.inl k1)).trans k3, k4, k5, k6, k7, k8.mono E (hb g (.inl k1)) fun b hbb => hb b (.inr hbb)⟩
structure MemOk (W : World) (N : Nat → Prop) (U : Nat → Prop) (F : Nat → Prop) (β : Nat → Option Bind) (h : Nat → Chunk) (w : World) : Prop where
 size : W.heap.size ≤ w.heap.size
 os : w.os = W.os
 tape : w.tape = W.tape
 output : w.output = W.output
 frame : ∀ b, b < W.heap.size → ¬ N b → w.heap[b]? = W.heap[b]?
 fin : ∀ b, F b → b < w.heap.size
 used : ∀ id bd, β id = some bd → U id
 ch : ∀ id, h id ≠ .dead → ∃ bd, β id = some bd ∧ ChOk U w F β bd (h id)
 dis : ∀ i j bi bj b, β i = some bi → β j = some bj → bi.has b → bj.has b → i = j
 off : ∀ i bd b, β i = some bd → bd.has b → ¬ F b ∧ b < w.heap.size ∧ (W.heap.size ≤ b ∨ N b)
def upd (h : Nat → Chunk) : List (Nat × Chunk) → Nat → Chunk
 | [], i => h i
 | (k, c) :: r, i => if k = i then c else upd h r i
def look : List (Nat × AV) → Nat → AV
 | [], _ => .undef
 | (k, x) :: r, i => if k = i then x else look r i
def lookC : List (Nat × Chunk) → Nat → Chunk
 | [], _ => .dead
 | (k, x) :: r, i => if k = i then x else lookC r i
end Go.Proofs.Ytdkmndimmpilaaa
namespace Go.Proofs.Ytdkmndimmpilaaa
set_option linter.all false
open Go.RowKit
inductive TK where
 | int (k : IntKind) | bool | str | sl (e : TypeId) | arr (n : Nat) (e : TypeId) | st (fs : List (Option (Nat × Nat × Bool))) | ptr (e : TypeId) | mp (k e : TypeId) | ifc | other
structure TD where
 k : TK
 agg : Bool
 size : Nat
 bytes : Nat
 zero : List Value
def aggD : TypeDesc → Bool
 | .struct _ | .array _ _ => true
 | _ => false
def fieldTD (P : Program) (f : Field) : Option (Nat × Nat × Bool) :=
 match P.info? f.type, P.underlying f.type with
 | some i, some d => some (f.offset, i.size, aggD d)
 | _, _ => none
def kindOf (P : Program) : TypeDesc → TK
 | .int k => .int k
 | .bool => .bool
 | .string => .str
 | .slice e => .sl e
 | .array n e => .arr n e
 | .struct fs => .st (fs.toList.map (fieldTD P))
 | .pointer e => .ptr e
 | .map k e => .mp k e
 | .interface _ => .ifc
 | _ => .other
def ty (P : Program) (t : TypeId) : Option TD :=
 match P.info? t, P.underlying t with
 | some i, some d => some ⟨kindOf P d, aggD d, i.size, i.bytes, match i.zero with | some z => z.cells.toList | none => []⟩
 | _, _ => none
theorem ty_some {P : Program} {t : TypeId} {d : TD} (h : ty P t = some d) : ∃ i u, P.info? t = some i ∧ P.underlying t = some u ∧ d = ⟨kindOf P u, aggD u, i.size, i.bytes, match i.zero with | some z => z.cells.toList | none => []⟩ := by
 unfold ty at h
 split at h
 ·rename_i i u h1 h2
  exact ⟨i, u, h1, h2, (Option.some.inj h).symm⟩
 ·simp at h
abbrev I (k : IntKind) (n : Int) : AV := .c (.v (.int k n))
abbrev B (b : Bool) : AV := .c (.v (.bool b))
abbrev S (s : ByteArray) : AV := .c (.v (.string s))
def ofV : Value → AV
 | .agg cs => if cs.toList.all (·.oneCell') then .agg (cs.toList.map fun v => .c (.v v)) else .undef
 | .tuple vs => .tup (vs.toList.map fun _ => .undef)
 | v => .c (.v v)
def getO (g : Nat → AV) : Operand → AV
 | .tmp t => g t
 | .const v => ofV v
 | .global g => .c (.v (.pointer (some ⟨g, 0, none⟩)))
 | .func f => .clo (.func f) [] []
def intBin (op : BinOp) (k : IntKind) (a : Int) (k' : IntKind) (b : Int) : Option (Prop × AV) :=
 match op with
 | .add => some (k = k', I k (k.wrap (a + b)))
 | .sub => some (k = k', I k (k.wrap (a - b)))
 | .mul => some (k = k', I k (k.wrap (a * b)))
 | .quo => some (k = k' ∧ ¬ b = 0, I k (k.wrap (a.tdiv b)))
 | .rem => some (k = k' ∧ ¬ b = 0, I k (a.tmod b))
 | .and => some (k = k', I k (bits .and k a b))
 | .or => some (k = k', I k (bits .or k a b))
 | .xor => some (k = k', I k (bits .xor k a b))
 | .andNot => some (k = k', I k (bits .andNot k a b))
 | .shl => some (0 ≤ b, I k (k.wrap (a * 2 ^ (min b.toNat k.bits))))
 | .shr => some (0 ≤ b, I k (a.fdiv (2 ^ (min b.toNat k.bits))))
 | .eql => some (k = k', B (decide (a = b)))
 | .neq => some (k = k', B (!decide (a = b)))
 | .lss => some (k = k', B (decide (a < b)))
 | .leq => some (k = k', B (decide (a ≤ b)))
 | .gtr => some (k = k', B (decide (b < a)))
 | .geq => some (k = k', B (decide (b ≤ a)))
def strBin (op : BinOp) (a b : ByteArray) : Option (Prop × AV) :=
 match op with
 | .add => some (((a.size + b.size : Nat) : Int) ≤ 9223372036854775807, S (a ++ b))
 | .eql => some (True, B (decide (a = b)))
 | .neq => some (True, B (!decide (a = b)))
 | _ => none
def flatFs (P : Program) (q : TypeId → Option (List Nat)) : Nat → List Field → Option (List Nat)
 | _, [] => some []
 | o, f :: r => match q f.type with
  | some n => if f.name != "_" && Nat.beq f.offset o && Nat.beq (P.cellsOf f.type) n.length then (match flatFs P q (o + n.length) r with | some m => some (n ++ m) | none => none) else none
  | none => none
def flatN (P : Program) : Nat → TypeId → Option (List Nat)
 | 0, _ => none
 | d + 1, t => match P.underlying t with
  | some .bool => some [1]
  | some (.int _) => some [0]
  | some .string => some [2]
  | some (.struct fs) => if P.stoodInHeld t then none else flatFs P (flatN P d) 0 fs.toList
  | _ => none
def eqVal : Nat → Value → Value → Option Bool
 | 0, .int k a, .int k' b => if k = k' then some (decide (a = b)) else none
 | 1, .bool a, .bool b => some (decide (a = b))
 | 2, .string a, .string b => some (decide (a = b))
 | _, _, _ => none
def eqVals : List Nat → List Value → List Value → Option Bool
 | [], [], [] => some true
 | k :: ks, a :: as, b :: bs => match eqVal k a b, eqVals ks as bs with
  | some x, some y => some (x && y)
  | _, _ => none
 | _, _, _ => none
def eqCells : List Nat → List AV → List AV → Option Bool
 | [], [], [] => some true
 | k :: ks, .c (.v a) :: as, .c (.v b) :: bs => match eqVal k a b, eqCells ks as bs with
  | some x, some y => some (x && y)
  | _, _ => none
 | _, _, _ => none
def nilP (h : Nat → Chunk) : AV → Option Bool
 | .c (.v (.pointer none)) => some true
 | .ptr id _ _ => match h id with | .dead => none | _ => some false
 | .fel _ _ _ _ => some false
 | _ => none
def aggT (P : Program) (t : TypeId) : Bool := match P.underlying t with | some (.struct _) => true | _ => false
def eqAV (P : Program) (h : Nat → Chunk) (t : TypeId) : AV → AV → Option Bool
 | .c (.v (.bool a)), .c (.v (.bool b)) => match ty P t with | some ⟨.bool, _, _, _, _⟩ => some (decide (a = b)) | _ => none
 | .agg xs, .agg ys => match flatN P 9 t, aggT P t with | some n, true => eqCells n xs ys | _, _ => none
 | x, y => match ty P t with
  | some ⟨.ptr _, _, _, _, _⟩ => match nilP h x, nilP h y with
   | some true, some b => some b
   | some b, some true => some b
   | _, _ => none
  | _ => none
def binAV (P : Program) (h : Nat → Chunk) (op : BinOp) (t : TypeId) (x y : AV) : Option (Prop × AV) :=
 match x, y with
 | .c (.v (.int k a)), .c (.v (.int k' b)) => intBin op k a k' b
 | .c (.v (.string a)), .c (.v (.string b)) => strBin op a b
 | x, y => match op, eqAV P h t x y with
  | .eql, some b => some (True, B b)
  | .neq, some b => some (True, B (!b))
  | _, _ => none
def unAV (op : UnOp) : AV → Option (Prop × AV)
 | .c (.v (.int k n)) => match op with
  | .neg => some (True, I k (k.wrap (0 - n)))
  | .xor => some (True, I k (bits .xor k (if k.signed then -1 else k.max) n))
  | _ => none
 | .c (.v (.bool b)) => match op with
  | .not => some (True, B (!b))
  | _ => none
 | _ => none
def bsel (t : Bool) (p q : Bool) : Bool := match t with | true => p | false => q
def pickAV (t : Bool) (a b : AV) : Option (Prop × AV) :=
 match a, b with
 | .opt u (.c (.v (.bool p))), .opt u' (.c (.v (.bool q))) => some ((t = true → u = true) ∧ (t = false → u' = true), B (bsel t p q))
 | .opt u (.c (.v (.bool p))), .c (.v (.bool q)) => some (t = true → u = true, B (bsel t p q))
 | .c (.v (.bool p)), .opt u (.c (.v (.bool q))) => some (t = false → u = true, B (bsel t p q))
 | .c (.v (.bool p)), .c (.v (.bool q)) => some (True, B (bsel t p q))
 | .c (.v (.bool p)), .undef => some (t = true, B p)
 | .opt u (.c (.v (.bool p))), .undef => some (t = true ∧ u = true, B p)
 | .undef, .c (.v (.bool q)) => some (t = false, B q)
 | .undef, .opt u (.c (.v (.bool q))) => some (t = false ∧ u = true, B q)
 | _, _ => none
def slOf (h : Nat → Chunk) : AV → Option (Nat × List (List PV))
 | .c (.sl sz xs) => some (sz, xs)
 | .c (.v (.slice none 0 0)) => some (0, [])
 | .own id => match h id with | .row _ sz xs => some (sz, xs) | _ => none
 | .view id o l => match h id with | .row _ sz xs => some (sz, (xs.drop o).take l) | _ => none
 | _ => none
def cellsAt (h : Nat → Chunk) (n : Nat) : AV → Option (Prop × List AV)
 | .ptr id i o => match h id with
  | .row _ sz xs => if Nat.ble (o + n) sz then some (i < xs.length, (((xs.getD i []).drop o).take n).map .c) else none
  | .blk _ cs => if Nat.ble (o + n) cs.length then some (i = 0, (cs.drop o).take n) else none
  | _ => none
 | .fel sz xs i o => if Nat.ble (o + n) sz then some (i < xs.length, (((xs.getD i []).drop o).take n).map .c) else none
 | _ => none
def cellsOf : AV → Option (List AV)
 | .agg xs => some xs
 | .tup _ => none
 | .undef => none
 | .opt _ _ => none
 | x => some [x]
def valOf (agg : Bool) (cs : List AV) : Option AV :=
 if agg then some (.agg cs) else match cs with | [x] => some x | _ => none
def loadAV (P : Program) (h : Nat → Chunk) (t : TypeId) (p : AV) : Option (Prop × AV) :=
 match ty P t with
 | some d => match cellsAt h d.size p with
  | some (φ, cs) => match valOf d.agg cs with
   | some x => some (φ, x)
   | none => none
  | none => none
 | none => none
def addO (h : Nat → Chunk) (p : AV) (n : Nat) : Option AV :=
 match p with
 | .ptr id i o => match h id with | .dead => none | _ => some (.ptr id i (o + n))
 | .fel sz xs i o => some (.fel sz xs i (o + n))
 | _ => none
def fieldAddrAV (P : Program) (h : Nat → Chunk) (s : TypeId) (p : AV) (f : Nat) : Option (Prop × AV) :=
 match ty P s with
 | some ⟨.st fs, _, _, _, _⟩ => match fs[f]? with
  | some (some (o, n, _)) => if n = 0 then none else match addO h p o with | some q => some (True, q) | none => none
  | _ => none
 | _ => none
def partAV (agg : Bool) (o n : Nat) (cs : List AV) : Option AV :=
 if agg then some (.agg ((cs.drop o).take n)) else cs[o]?
def fieldAV (P : Program) (s : TypeId) (x : AV) (f : Nat) : Option (Prop × AV) :=
 match ty P s, x with
 | some ⟨.st fs, _, _, _, _⟩, .agg cs => match fs[f]? with
  | some (some (o, n, a)) => match partAV a o n cs with | some y => some (True, y) | none => none
  | _ => none
 | _, _ => none
def indexAddrAV (P : Program) (h : Nat → Chunk) (t : TypeId) (x : AV) (i : AV) : Option (Prop × AV) :=
 match i with
 | .c (.v (.int _ n)) => match ty P t with
  | some ⟨.sl e, _, _, _, _⟩ => match ty P e with
   | some d => match x with
    | .c (.sl sz xs) => some (d.size = sz ∧ 0 ≤ n ∧ n < xs.length, .fel sz xs n.toNat 0)
    | .own id => match h id with | .row _ sz xs => some (d.size = sz ∧ 0 ≤ n ∧ n < xs.length, .ptr id n.toNat 0) | _ => none
    | .view id o l => match h id with | .row _ sz xs => some (d.size = sz ∧ 0 ≤ n ∧ n < l, .ptr id (o + n.toNat) 0) | _ => none
    | _ => none
   | none => none
  | some ⟨.arr m e, _, _, _, _⟩ => match ty P e with
   | some d => match addO h x (n.toNat * d.size) with | some q => some (0 ≤ n ∧ n < m, q) | none => none
   | none => none
  | _ => none
 | _ => none
def indexAV (P : Program) (t : TypeId) (x : AV) (i : AV) : Option (Prop × AV) :=
 match i, x with
 | .c (.v (.int _ n)), .c (.v (.string s)) => match ty P t with
  | some ⟨.str, _, _, _, _⟩ => some (0 ≤ n ∧ n < s.size, I .u8 ((s.data.toList.getD n.toNat 0).toNat : Nat))
  | _ => none
 | .c (.v (.int _ n)), .agg cs => match ty P t with
  | some ⟨.arr m e, _, _, _, _⟩ => match ty P e with
   | some d => match partAV d.agg (n.toNat * d.size) d.size cs with | some y => some (0 ≤ n ∧ n < m, y) | none => none
   | none => none
  | _ => none
 | _, _ => none
def bound (d : Int) : Option AV → Option Int
 | none => some d
 | some (.c (.v (.int _ n))) => some n
 | _ => none
def sliceAV (P : Program) (h : Nat → Chunk) (t : TypeId) (x : AV) (lo hi : Option AV) : Option (Prop × AV) :=
 match ty P t with
 | some ⟨.str, _, _, _, _⟩ => match x with
  | .c (.v (.string s)) => match bound 0 lo, bound s.size hi with
   | some l, some r => some (0 ≤ l ∧ l ≤ r ∧ r ≤ s.size, S (s.extract l.toNat r.toNat))
   | _, _ => none
  | _ => none
 | some ⟨.sl e, _, _, _, _⟩ => match ty P e with
  | some d => match x with
   | .c (.sl sz xs) => match lo, hi with
    | none, some (.c (.v (.int _ r))) => some (d.size = sz ∧ 0 ≤ r ∧ r ≤ xs.length, .c (.sl sz (xs.take r.toNat)))
    | some (.c (.v (.int _ l))), none => some (d.size = sz ∧ 0 ≤ l ∧ l ≤ xs.length, .c (.sl sz (xs.drop l.toNat)))
    | some (.c (.v (.int _ l))), some (.c (.v (.int _ r))) => some (d.size = sz ∧ 0 ≤ l ∧ l ≤ r ∧ r ≤ xs.length, .c (.sl sz ((xs.take r.toNat).drop l.toNat)))
    | none, none => some (d.size = sz, .c (.sl sz xs))
    | _, _ => none
   | .own id => match h id with
    | .row _ sz xs => match bound 0 lo, bound xs.length hi with
     | some l, some r => some (d.size = sz ∧ 0 ≤ l ∧ l ≤ r ∧ r ≤ xs.length, .view id l.toNat (r.toNat - l.toNat))
     | _, _ => none
    | _ => none
   | .view id o n => match h id with
    | .row _ sz xs => match bound 0 lo, bound n hi with
     | some l, some r => some (d.size = sz ∧ 0 ≤ l ∧ l ≤ r ∧ r ≤ n, .view id (o + l.toNat) (r.toNat - l.toNat))
     | _, _ => none
    | _ => none
   | _ => none
  | none => none
 | _ => none
def convAV (P : Program) (h : Nat → Chunk) (a b : TypeId) (x : AV) : Option (Prop × AV) :=
 match ty P a, ty P b, x with
 | some _, some ⟨.int k, _, _, _, _⟩, .c (.v (.int _ n)) => some (True, I k (k.wrap n))
 | some ⟨.str, _, _, _, _⟩, some ⟨.str, _, _, _, _⟩, .c (.v (.string s)) => some (True, S s)
 | _, _, _ => none
def lenAV (P : Program) (h : Nat → Chunk) (t : TypeId) (x : AV) : Option (Prop × AV) :=
 match ty P t, x with
 | some ⟨.str, _, _, _, _⟩, .c (.v (.string s)) => some (True, I .i64 s.size)
 | some ⟨.sl _, _, _, _, _⟩, .view id _ l => match h id with | .dead => none | _ => some (True, I .i64 l)
 | some ⟨.sl _, _, _, _, _⟩, x => match slOf h x with
  | some (_, xs) => some (True, I .i64 xs.length)
  | none => none
 | some ⟨.arr n _, _, _, _, _⟩, _ => some (True, I .i64 n)
 | _, _ => none
def minInts (k : IntKind) (x : Int) : List AV → Option Int
 | [] => some x
 | .c (.v (.int _ y)) :: r => minInts k (if y < x then y else x) r
 | _ => none
def maxInts (k : IntKind) (x : Int) : List AV → Option Int
 | [] => some x
 | .c (.v (.int _ y)) :: r => maxInts k (if y > x then y else x) r
 | _ => none
def isPtr (h : Nat → Chunk) : AV → Bool
 | .ptr id _ _ => match h id with | .dead => false | _ => true
 | .fel _ _ _ _ => true
 | .clo (.func _) _ _ => true
 | _ => false
def ex1 (P : Program) (g : Operand → AV) (h : Nat → Chunk) : Op → Option (Prop × AV)
 | .move x => some (True, g x)
 | .assign x => some (True, g x)
 | .pick c a b => match g c with
  | .c (.v (.bool t)) => pickAV t (g a) (g b)
  | _ => none
 | .load t a => loadAV P h t (g a)
 | .nilCheck x => if isPtr h (g x) then some (True, g x) else none
 | .binOp op t x y _ => binAV P h op t (g x) (g y)
 | .unOp op _ x => unAV op (g x)
 | .convert a b x => convAV P h a b (g x)
 | .makeInterface t x => match ty P t with
  | some ⟨.ifc, _, _, _, _⟩ => none
  | some _ => some (True, .ifc t (g x))
  | none => none
 | .makeFunc f a c => some (True, .clo f (a.toList.map g) (c.toList.map g))
 | .slice t x lo hi none => sliceAV P h t (g x) (lo.map g) (hi.map g)
 | .fieldAddr s x f => fieldAddrAV P h s (g x) f
 | .field s x f => fieldAV P s (g x) f
 | .indexAddr t x i => indexAddrAV P h t (g x) (g i)
 | .index t x i => indexAV P t (g x) (g i)
 | .extract x i => match g x with
  | .tup xs => match xs[i]? with | some y => some (True, y) | none => none
  | _ => none
 | .call ⟨.builtin .len, args, ts⟩ => match ts[0]?, args[0]? with
  | some t, some x => lenAV P h t (g x)
  | _, _ => none
 | .call ⟨.builtin .min, args, _⟩ => match args.toList.map g with
  | .c (.v (.int k x)) :: r => match minInts k x r with | some y => some (True, I k y) | none => none
  | _ => none
 | .call ⟨.builtin .max, args, _⟩ => match args.toList.map g with
  | .c (.v (.int k x)) :: r => match maxInts k x r with | some y => some (True, I k y) | none => none
  | _ => none
 | _ => none
end Go.Proofs.Ytdkmndimmpilaaa
namespace Go.Proofs.Ytdkmndimmpilaaa
set_option linter.all false
open Go.RowKit
section
variable {P : Program} {U F : Nat → Prop} {β : Nat → Option Bind} {w : World}
theorem relC {x : Value} {u : Value} : RelA U w F β (.c (.v x)) u ↔ u = x ∧ x.oneCell' = true := by simp [RelA, RelP]
theorem relI {k : IntKind} {n : Int} {u : Value} : RelA U w F β (I k n) u ↔ u = .int k n := by simp [RelA, RelP, Value.oneCell']
theorem relB {b : Bool} {u : Value} : RelA U w F β (B b) u ↔ u = .bool b := by simp [RelA, RelP, Value.oneCell']
theorem relS {s : ByteArray} {u : Value} : RelA U w F β (S s) u ↔ u = .string s := by simp [RelA, RelP, Value.oneCell']
theorem relOfV (v : Value) : RelA U w F β (ofV v) v := by
 cases v <;> simp only [ofV] <;> try (simp [RelA, RelP, Value.oneCell']; done)
 ·rename_i cs
  split
  ·rename_i h
   simp only [RelA]
   refine ⟨cs, rfl, RelL.of (by simp) fun i x u hx hu => ?_, fun x hx => List.all_eq_true.1 h x hx⟩
   rw [List.getElem?_map, hu] at hx
   simp only [Option.map_some, Option.some.injEq] at hx
   subst hx
   rw [relC]
   exact ⟨rfl, List.all_eq_true.1 h u (List.mem_of_getElem? hu)⟩
  ·simp [RelA]
 ·rename_i vs
  simp only [RelA]
  refine ⟨vs, rfl, RelL.of (by simp) fun i x u hx hu => ?_⟩
  rw [List.getElem?_map, hu] at hx
  simp only [Option.map_some, Option.some.injEq] at hx
  subst hx
  simp [RelA]
theorem relO {g : Nat → AV} {a : Act} (G : ∀ t, RelA U w F β (g t) (a.tmps.getD t undef)) (x : Operand) : RelA U w F β (getO g x) (a.eval x) := by
 cases x with
 | tmp t => exact G t
 | const v => exact relOfV v
 | global g => exact relC.2 ⟨rfl, rfl⟩
 | func f => simp [getO, RelA, RelL, Act.eval]
theorem int_beq (a b : Int) : (a == b) = decide (a = b) := by rw [Bool.eq_iff_iff, beq_iff_eq, decide_eq_true_iff]
theorem bool_beq (a b : Bool) : (a == b) = decide (a = b) := by rw [Bool.eq_iff_iff, beq_iff_eq, decide_eq_true_iff]
theorem toList_inj {a b : ByteArray} : (a.toList == b.toList) = decide (a = b) := by
 rw [Bool.eq_iff_iff, beq_iff_eq, decide_eq_true_iff]
 refine ⟨fun h => ?_, fun h => by rw [h]⟩
 rw [ByteArray.toList_eq, ByteArray.toList_eq] at h
 cases a; cases b
 simp only [ByteArray.mk.injEq] at *
 exact Array.toList_inj.1 h
theorem int_run {op : BinOp} {k k' : IntKind} {a b : Int} {φ : Prop} {x : AV} (h : intBin op k a k' b = some (φ, x)) (hφ : φ) (t : TypeId) (X Y : Operand) :
 ∃ v, (do eqGuard op t X Y (.int k a) (.int k' b); binOp op t (.int k a) (.int k' b) : Sem Value).run P w = .ok v w ∧ RelA U w F β x v := by
 have hg : (eqGuard op t X Y (.int k a) (.int k' b)) = (pure () : Sem Unit) := by cases op <;> rfl
 rw [hg]
 cases op <;> simp only [intBin, Option.some.injEq, Prod.mk.injEq] at h <;> (first | (exfalso; simp at h; done) | obtain ⟨rfl, rfl⟩ := h)
 all_goals first
  | (subst hφ; refine ⟨_, ?_, relI.2 rfl⟩; simp [binOp, Op.intArith, intBits_and, intBits_or, intBits_xor, intBits_andNot]; done)
  | (subst hφ; refine ⟨_, ?_, relB.2 rfl⟩; simp [binOp, Op.intCmp]; done)
  | (obtain ⟨rfl, hb⟩ := hφ; refine ⟨_, ?_, relI.2 rfl⟩; simp [binOp, Op.intDiv, hb]; done)
  | (refine ⟨_, ?_, relI.2 rfl⟩; simp [binOp, Op.shift, Int.not_lt.2 hφ]; done)
  | (subst hφ; refine ⟨_, ?_, relB.2 rfl⟩; simp only [binOp, Op.intCmp, Sem.run_bind, Sem.run_pure, Result.andThen_ok, if_neg, ne_eq, not_true_eq_false, not_false_eq_true, if_false]; simp [bne, int_beq]; done)
theorem str_run {op : BinOp} {a b : ByteArray} {φ : Prop} {x : AV} (h : strBin op a b = some (φ, x)) (hφ : φ) (t : TypeId) (X Y : Operand) :
 ∃ v, (do eqGuard op t X Y (.string a) (.string b); binOp op t (.string a) (.string b) : Sem Value).run P w = .ok v w ∧ RelA U w F β x v := by
 have hg : (eqGuard op t X Y (.string a) (.string b)) = (pure () : Sem Unit) := by cases op <;> rfl
 rw [hg]
 cases op <;> simp only [strBin, Option.some.injEq, Prod.mk.injEq, reduceCtorEq] at h
 ·obtain ⟨rfl, rfl⟩ := h
  refine ⟨_, ?_, relS.2 rfl⟩
  have e : ¬ (((a.size + b.size : Nat) : Int) > IntKind.i64.max) := by
   have : IntKind.i64.max = 9223372036854775807 := by decide
   omega
  simp only [binOp, Op.stringOp, Sem.run_bind, Sem.run_pure, Result.andThen_ok, if_neg e]
 ·obtain ⟨rfl, rfl⟩ := h
  exact ⟨_, by simp [binOp, Op.stringOp, toList_inj], relB.2 rfl⟩
 ·obtain ⟨rfl, rfl⟩ := h
  exact ⟨_, by simp [binOp, Op.stringOp, toList_inj], relB.2 rfl⟩
def mkV (P : Program) (t : TypeId) (us : List Value) : Value :=
 match P.underlying t with
 | some (.struct _) => .agg us.toArray
 | _ => us.getD 0 undef
theorem eqVals_len : ∀ {ks : List Nat} {as bs : List Value} {r : Bool}, eqVals ks as bs = some r → as.length = ks.length ∧ bs.length = ks.length
 | [], [], [], _, _ => by simp
 | [], _ :: _, _, _, h => by simp [eqVals] at h
 | [], [], _ :: _, _, h => by simp [eqVals] at h
 | _ :: _, [], _, _, h => by simp [eqVals] at h
 | _ :: _, _ :: _, [], _, h => by simp [eqVals] at h
 | k :: ks, a :: as, b :: bs, r, h => by
  simp only [eqVals] at h
  split at h
  ·rename_i h2
   have := eqVals_len h2
   simp [this.1, this.2]
  ·simp at h
theorem eqVals_append : ∀ {ks ks' : List Nat} {as bs : List Value} {r : Bool}, eqVals (ks ++ ks') as bs = some r → ∃ x y, eqVals ks (as.take ks.length) (bs.take ks.length) = some x ∧ eqVals ks' (as.drop ks.length) (bs.drop ks.length) = some y ∧ r = (x && y)
 | [], ks', as, bs, r, h => ⟨true, r, by simp [eqVals], by simpa using h, by simp⟩
 | k :: ks, _, [], _, _, h => by simp [eqVals] at h
 | k :: ks, _, a :: as, [], _, h => by simp [eqVals] at h
 | k :: ks, ks', a :: as, b :: bs, r, h => by
  simp only [List.cons_append, eqVals, List.length_cons, List.take_succ_cons, List.drop_succ_cons] at h ⊢
  cases h1 : eqVal k a b with
  | none => rw [h1] at h; simp at h
  | some x =>
   cases h2 : eqVals (ks ++ ks') as bs with
   | none => rw [h1, h2] at h; simp at h
   | some y =>
    rw [h1, h2] at h
    simp only [Option.some.injEq] at h
    obtain ⟨p, q, e1, e2, rfl⟩ := eqVals_append h2
    exact ⟨x && p, q, by rw [e1], e2, by rw [← h, Bool.and_assoc]⟩
theorem underlying_info {t : TypeId} {d : TypeDesc} (h : P.underlying t = some d) : ∃ i, P.info? t = some i := by
 unfold Program.underlying at h
 cases hi : P.info? t with
 | none => rw [hi] at h; simp at h
 | some i => exact ⟨i, rfl⟩
theorem run_sizeOf' {t : TypeId} {i : TypeInfo} (h : P.info? t = some i) (w : World) : (sizeOf t).run P w = .ok i.size w := by simp [sizeOf, typeInfo, h]
theorem run_isAgg' {t : TypeId} {d : TypeDesc} (h : P.underlying t = some d) (w : World) : (isAgg t).run P w = .ok (aggD d) w := by
 cases d <;> simp [isAgg, run_underlying h, aggD]
theorem run_zero' {t : TypeId} {i : TypeInfo} {z : Value} (h : P.info? t = some i) (hz : i.zero = some z) (w : World) : (zeroValue t).run P w = .ok z w := by simp [zeroValue, typeInfo, h, hz]
theorem flat_under {d : Nat} {t : TypeId} {n : List Nat} (h : flatN P d t = some n) : ∃ u, P.underlying t = some u ∧ ((n.length = 1 ∧ aggD u = false ∧ ∀ fs, u ≠ .struct fs) ∨ ∃ fs, u = .struct fs) := by
 cases d with
 | zero => simp [flatN] at h
 | succ d =>
  simp only [flatN] at h
  cases hu : P.underlying t with
  | none => rw [hu] at h; simp at h
  | some u => rw [hu] at h; cases u <;> simp at h <;> simp [aggD] <;> simp [← h]
theorem mkV_scalar {t : TypeId} {u : TypeDesc} (hu : P.underlying t = some u) (h : ∀ fs, u ≠ .struct fs) (us : List Value) : mkV P t us = us.getD 0 undef := by
 cases u <;> first | (simp [mkV, hu]; done) | (exfalso; exact h _ rfl)
theorem mkV_struct {t : TypeId} {fs : Array Field} (hu : P.underlying t = some (.struct fs)) (us : List Value) : mkV P t us = .agg us.toArray := by
 simp [mkV, hu]
theorem part_flat {d : Nat} {t : TypeId} {n : List Nat} {o : Nat} (hf : flatN P d t = some n) (hn : P.cellsOf t = n.length) (us : List Value) (hl : o + n.length ≤ us.length) (w : World) :
 (part t us.toArray o).run P w = .ok (mkV P t ((us.drop o).take n.length)) w := by
 obtain ⟨u, hu, hc⟩ := flat_under hf
 obtain ⟨i, hi⟩ := underlying_info hu
 have hs : i.size = n.length := by simpa [Program.cellsOf, hi] using hn
 unfold part
 simp only [Sem.run_bind, run_isAgg' hu, Result.andThen_ok]
 rcases hc with ⟨h1, h2, h3⟩ | ⟨fs, rfl⟩
 ·have hlt : o < us.length := by omega
  simp [h2, mkV_scalar hu h3, hlt, h1]
 ·simp [aggD, run_sizeOf' hi, hs, mkV_struct hu, List.extract_toArray, List.take_drop]
theorem eqFields_run {q : TypeId → Option (List Nat)} {D : Nat} (hq : ∀ t n, q t = some n → ∀ (us vs : List Value) (r : Bool) (w : World), eqVals n us vs = some r → (Op.equalIn D t (mkV P t us) (mkV P t vs)).run P w = .ok r w)
 (hp : ∀ t n, q t = some n → ∃ d, flatN P d t = some n) : ∀ (fs : List Field) (o : Nat) (n : List Nat), flatFs P q o fs = some n → ∀ (us vs : List Value) (r : Bool) (w : World), us.length = o + n.length → vs.length = o + n.length → eqVals n (us.drop o) (vs.drop o) = some r →
 (Op.eqFields D us.toArray vs.toArray fs).run P w = .ok r w
 | [], o, n, h, us, vs, r, w, h1, h2, he => by
  simp only [flatFs, Option.some.injEq] at h
  subst h
  rw [List.drop_eq_nil_of_le (by simp at h1; omega), List.drop_eq_nil_of_le (by simp at h2; omega)] at he
  simp only [eqVals, Option.some.injEq] at he
  subst he
  simp [Op.eqFields]
 | f :: fs, o, n, h, us, vs, r, w, h1, h2, he => by
  simp only [flatFs] at h
  split at h
  ·rename_i m hm
   split at h
   ·rename_i hc
    simp only [Bool.and_eq_true, bne_iff_ne, ne_eq, Nat.beq_eq_true_eq] at hc
    obtain ⟨⟨hname, hoff⟩, hcells⟩ := hc
    replace hoff := Nat.eq_of_beq_eq_true hoff
    replace hcells := Nat.eq_of_beq_eq_true hcells
    split at h
    ·rename_i k hk
     simp only [Option.some.injEq] at h
     subst h
     rw [List.length_append] at h1 h2
     obtain ⟨d, hd⟩ := hp _ _ hm
     obtain ⟨x, y, e1, e2, rfl⟩ := eqVals_append he
     have r1 := hq _ _ hm _ _ x w e1
     rw [List.drop_drop, List.drop_drop] at e2
     have r2 := eqFields_run hq hp fs _ _ hk us vs y w (by omega) (by omega) e2
     simp only [Op.eqFields, ne_eq, hname, not_false_eq_true, if_true, Sem.run_bind, hoff, part_flat (o := o) hd hcells us (by omega), part_flat (o := o) hd hcells vs (by omega), Result.andThen_ok, r1]
     cases x <;> simp [r2]
    ·simp at h
   ·simp at h
  ·simp at h
theorem eqScalar_run {D : Nat} {t : TypeId} {u : TypeDesc} (hun : P.underlying t = some u) {k : Nat} (hk : (k = 1 ∧ u = .bool) ∨ (k = 0 ∧ ∃ j, u = .int j) ∨ (k = 2 ∧ u = .string)) {a b : Value} {r : Bool} (h : eqVal k a b = some r) (w : World) : (Op.equalIn (D + 1) t a b).run P w = .ok r w := by
 rcases hk with ⟨rfl, rfl⟩ | ⟨rfl, j, rfl⟩ | ⟨rfl, rfl⟩ <;> cases a <;> cases b <;> simp only [eqVal, reduceCtorEq, Option.some.injEq] at h
 ·subst h; simp [Op.equalIn, run_underlying hun, bool_beq]
 ·split at h
  ·rename_i hk; subst hk; simp only [Option.some.injEq] at h; subst h; simp [Op.equalIn, run_underlying hun, int_beq]
  ·simp at h
 ·subst h; simp [Op.equalIn, run_underlying hun, beq_toListBytes, toList_inj]
theorem eqFlat_run : ∀ (d D : Nat), d ≤ D → ∀ (t : TypeId) (n : List Nat), flatN P d t = some n → ∀ (us vs : List Value) (r : Bool) (w : World), eqVals n us vs = some r →
 (Op.equalIn D t (mkV P t us) (mkV P t vs)).run P w = .ok r w
 | 0, _, _, t, n, h => by simp [flatN] at h
 | d + 1, 0, hD, _, _, _ => by omega
 | d + 1, D + 1, hD, t, n, h => by
  intro us vs r w he
  have hl := eqVals_len he
  simp only [flatN] at h
  split at h
  ·rename_i hun
   simp only [Option.some.injEq] at h
   subst h
   match us, vs, hl, he with
   | [a], [b], _, he =>
    rw [mkV_scalar hun (by simp), mkV_scalar hun (by simp)]
    simp only [eqVals] at he
    split at he
    ·rename_i x y h3 h4
     simp only [Option.some.injEq] at h4 he
     subst h4
     rw [Bool.and_true] at he
     subst he
     exact eqScalar_run hun (by simp) h3 w
    ·simp at he
  ·rename_i hun
   simp only [Option.some.injEq] at h
   subst h
   match us, vs, hl, he with
   | [a], [b], _, he =>
    rw [mkV_scalar hun (by simp), mkV_scalar hun (by simp)]
    simp only [eqVals] at he
    split at he
    ·rename_i x y h3 h4
     simp only [Option.some.injEq] at h4 he
     subst h4
     rw [Bool.and_true] at he
     subst he
     exact eqScalar_run hun (by simp) h3 w
    ·simp at he
  ·rename_i hun
   simp only [Option.some.injEq] at h
   subst h
   match us, vs, hl, he with
   | [a], [b], _, he =>
    rw [mkV_scalar hun (by simp), mkV_scalar hun (by simp)]
    simp only [eqVals] at he
    split at he
    ·rename_i x y h3 h4
     simp only [Option.some.injEq] at h4 he
     subst h4
     rw [Bool.and_true] at he
     subst he
     exact eqScalar_run hun (by simp) h3 w
    ·simp at he
  ·rename_i fs hun
   split at h
   ·simp at h
   ·rename_i hst
    have hfo : P.fieldsOf t = fs := by simp [Program.fieldsOf, hun]
    have := run_equalIn_struct w D t us.toArray vs.toArray (by rw [hfo]; exact hun) (by simpa using hst)
    rw [mkV_struct hun, mkV_struct hun, this, hfo]
    exact eqFields_run (fun t n hq us vs r w => eqFlat_run d D (by omega) t n hq us vs r w) (fun t n hq => ⟨d, hq⟩) _ 0 n h us vs r w (by omega) (by omega) (by simpa using he)
  ·simp at h
theorem eqGuard_flatFs {q : TypeId → Option (List Nat)} {D : Nat} (hq : ∀ t n, q t = some n → P.eqGuardType D t = false) : ∀ (fs : List Field) (o : Nat) (n : List Nat), flatFs P q o fs = some n → ∀ f ∈ fs, P.eqGuardType D f.type = false
 | [], _, _, _ => by simp
 | f :: fs, o, n, h => by
  simp only [flatFs] at h
  split at h
  ·rename_i m hm
   split at h
   ·split at h
    ·rename_i k hk
     intro g hg
     rcases List.mem_cons.1 hg with rfl | hg
     ·exact hq _ _ hm
     ·exact eqGuard_flatFs hq fs _ _ hk g hg
    ·simp at h
   ·simp at h
  ·simp at h
theorem eqGuard_flat : ∀ (d D : Nat), d ≤ D → ∀ (t : TypeId) (n : List Nat), flatN P d t = some n → P.eqGuardType D t = false
 | 0, _, _, t, n, h => by simp [flatN] at h
 | d + 1, 0, hD, _, _, _ => by omega
 | d + 1, D + 1, hD, t, n, h => by
  simp only [flatN] at h
  unfold Program.eqGuardType
  split at h
  ·rename_i hu; simp [hu]
  ·rename_i hu; simp [hu]
  ·rename_i hu; simp [hu]
  ·rename_i fs hu
   split at h
   ·simp at h
   ·simp only [hu]
    have := eqGuard_flatFs (fun t n hq => eqGuard_flat d D (by omega) t n hq) _ _ _ h
    rw [← Array.any_toList]
    simp only [List.any_eq_false, Bool.and_eq_true, bne_iff_ne, ne_eq, not_and, Bool.not_eq_true]
    exact fun f hf _ => this f hf
  ·simp at h
theorem eqCells_vals : ∀ (n : List Nat) {xs ys : List AV} {r : Bool}, eqCells n xs ys = some r → ∀ {us vs : List Value}, RelL U w F β xs us → RelL U w F β ys vs → eqVals n us vs = some r := by
 intro n
 induction n with
 | nil =>
  intro xs ys r h us vs h1 h2
  unfold eqCells at h
  split at h
  ·simp only [RelL] at h1 h2; subst h1 h2; simpa [eqVals] using h
  ·simp_all
  ·simp at h
 | cons k ks ih =>
  intro xs ys r h us vs h1 h2
  unfold eqCells at h
  split at h
  ·simp_all
  ·rename_i k' ks' a as b bs heq
   simp only [List.cons.injEq] at heq
   obtain ⟨rfl, rfl⟩ := heq
   simp only [RelL] at h1 h2
   obtain ⟨u, us', rfl, ha, h1⟩ := h1
   obtain ⟨v, vs', rfl, hb, h2⟩ := h2
   rw [relC] at ha hb
   obtain ⟨rfl, _⟩ := ha
   obtain ⟨rfl, _⟩ := hb
   simp only [eqVals]
   split at h
   ·rename_i x y h3 h4
    rw [ih h4 h1 h2, h3]
    exact h
   ·simp at h
  ·simp at h
end
end Go.Proofs.Ytdkmndimmpilaaa
namespace Go.Proofs.Ytdkmndimmpilaaa
set_option linter.all false
open Go.RowKit
section
variable {P : Program} {W : World} {N U F : Nat → Prop} {β : Nat → Option Bind} {h hT : Nat → Chunk} {w : World}
theorem MemOk.get (M : MemOk W N U F β h w) (hs : ∀ id, hT id ≠ .dead → hT id = h id) {id : Nat} {c : Chunk} (hc : hT id = c) (hd : c ≠ .dead) : ∃ bd, β id = some bd ∧ ChOk U w F β bd c := by
 subst hc
 obtain ⟨bd, h1, h2⟩ := M.ch id (by rw [← hs id hd]; exact hd)
 exact ⟨bd, h1, by rw [hs id hd]; exact h2⟩
theorem equal_succ (t : TypeId) (x y : Value) : Op.equal t x y = Op.equalIn (9999 + 1) t x y := rfl
theorem equal_ptr {t e : TypeId} (h2 : P.underlying t = some (.pointer e)) (a c : Option Addr) (hac : a = none ∨ c = none) : (Op.equal t (.pointer a) (.pointer c)).run P w = .ok (a.isNone && c.isNone) w := by
 rw [equal_succ]
 unfold Op.equalIn
 simp only [Sem.run_bind, run_underlying h2, Result.andThen_ok]
 rcases hac with rfl | rfl
 ·simp
 ·cases a <;> simp
theorem nilP_run (M : MemOk W N U F β h w) (hs : ∀ id, hT id ≠ .dead → hT id = h id) {z : AV} {c : Bool} (hz : nilP hT z = some c) {q : Value} (hq : RelA U w F β z q) : (c = true ∧ q = .pointer none) ∨ (c = false ∧ ∃ a, q = .pointer (some a)) := by
 unfold nilP at hz
 split at hz
 ·simp only [Option.some.injEq] at hz
  exact .inl ⟨hz.symm, (relC.1 hq).1⟩
 ·rename_i id i o
  split at hz
  ·simp at hz
  ·rename_i hc
   simp only [Option.some.injEq] at hz
   obtain ⟨bd, hb, _⟩ := M.get hs (id := id) rfl hc
   simp only [RelA] at hq
   obtain ⟨g, _, hg⟩ := hq.2.2 bd hb
   exact .inr ⟨hz.symm, _, hg⟩
 ·simp only [Option.some.injEq] at hz
  simp only [RelA] at hq
  obtain ⟨b, p, hg, _⟩ := hq
  exact .inr ⟨hz.symm, _, hg⟩
 ·simp at hz
theorem eq_run (M : MemOk W N U F β h w) (hs : ∀ id, hT id ≠ .dead → hT id = h id) {op : BinOp} {t : TypeId} {x y : AV} {b : Bool} (hb : eqAV P hT t x y = some b) {u v : Value} (hx : RelA U w F β x u) (hy : RelA U w F β y v) (hop : op = .eql ∨ op = .neq) (X Y : Operand) :
 (eqGuard op t X Y u v).run P w = .ok () w ∧ (Op.equal t u v).run P w = .ok b w ∧ ((∃ a c, u = .bool a ∧ v = .bool c) ∨ (∃ a c, u = .agg a ∧ v = .agg c) ∨ ∃ a c, u = .pointer a ∧ v = .pointer c ∧ (a = none ∨ c = none)) := by
 unfold eqAV at hb
 split at hb
 ·rename_i a b'
  obtain ⟨rfl, _⟩ := relC.1 hx
  obtain ⟨rfl, _⟩ := relC.1 hy
  split at hb
  ·rename_i ht
   obtain ⟨i, d, h1, h2, h3⟩ := ty_some ht
   simp only [TD.mk.injEq] at h3
   have hd : d = .bool := by
    have := h3.1
    cases d <;> simp [kindOf] at this
    rfl
   subst hd
   simp only [Option.some.injEq] at hb
   subst hb
   refine ⟨by rcases hop with rfl | rfl <;> rfl, ?_, .inl ⟨_, _, rfl, rfl⟩⟩
   rw [equal_succ]
   exact eqScalar_run h2 (k := 1) (.inl ⟨rfl, rfl⟩) rfl w
  ·simp at hb
 ·rename_i xs ys
  split at hb
  ·rename_i n hn ha
   simp only [RelA] at hx hy
   obtain ⟨us, rfl, hx, _⟩ := hx
   obtain ⟨vs, rfl, hy, _⟩ := hy
   have he := eqCells_vals _ hb hx hy
   have hu : ∃ fs, P.underlying t = some (.struct fs) := by
    unfold aggT at ha
    split at ha
    ·exact ⟨_, by assumption⟩
    ·simp at ha
   obtain ⟨fs, hu⟩ := hu
   have hr := eqFlat_run 9 10000 (by omega) t n hn us.toList vs.toList b w he
   rw [mkV_struct hu, mkV_struct hu] at hr
   have hg : P.eqGuardType P.depth t = false := eqGuard_flat 9 P.depth (by unfold Program.depth Made.depth; omega) t n hn
   refine ⟨run_eqGuard_agg w op t X Y us vs hg, ?_, .inr (.inl ⟨_, _, rfl, rfl⟩)⟩
   exact hr
  ·simp at hb
 ·split at hb
  ·rename_i ht
   obtain ⟨i, d, h1, h2, h3⟩ := ty_some ht
   simp only [TD.mk.injEq] at h3
   have hd : ∃ e, d = .pointer e := by
    have := h3.1
    cases d <;> simp [kindOf] at this
    exact ⟨_, rfl⟩
   obtain ⟨e, rfl⟩ := hd
   have fin := fun (a c : Option Addr) (hac : a = none ∨ c = none) => equal_ptr (w := w) h2 a c hac
   have gd : ∀ (a c : Option Addr), (eqGuard op t X Y (.pointer a) (.pointer c)).run P w = .ok () w := by
    intro a c; rcases hop with rfl | rfl <;> rfl
   split at hb
   ·rename_i c hc1 hc2
    simp only [Option.some.injEq] at hb
    subst hb
    rcases nilP_run M hs hc1 hx with ⟨_, rfl⟩ | ⟨h, _⟩
    ·rcases nilP_run M hs hc2 hy with ⟨rfl, rfl⟩ | ⟨rfl, a, rfl⟩
     ·exact ⟨gd _ _, fin _ _ (.inl rfl), .inr (.inr ⟨_, _, rfl, rfl, .inl rfl⟩)⟩
     ·exact ⟨gd _ _, fin _ _ (.inl rfl), .inr (.inr ⟨_, _, rfl, rfl, .inl rfl⟩)⟩
    ·simp at h
   ·rename_i c hc1 hc2
    simp only [Option.some.injEq] at hb
    subst hb
    rcases nilP_run M hs hc2 hy with ⟨_, rfl⟩ | ⟨h, _⟩
    ·rcases nilP_run M hs hc1 hx with ⟨rfl, rfl⟩ | ⟨rfl, a, rfl⟩
     ·exact ⟨gd _ _, fin _ _ (.inl rfl), .inr (.inr ⟨_, _, rfl, rfl, .inl rfl⟩)⟩
     ·exact ⟨gd _ _, by rw [fin _ _ (.inr rfl)]; rfl, .inr (.inr ⟨_, _, rfl, rfl, .inr rfl⟩)⟩
    ·simp at h
   ·simp at hb
  ·simp at hb
theorem bin_run (M : MemOk W N U F β h w) (hs : ∀ id, hT id ≠ .dead → hT id = h id) {op : BinOp} {t : TypeId} {x y : AV} {φ : Prop} {r : AV} (he : binAV P hT op t x y = some (φ, r)) (hφ : φ) {u v : Value} (hx : RelA U w F β x u) (hy : RelA U w F β y v) (X Y : Operand) :
 ∃ z, (do eqGuard op t X Y u v; binOp op t u v : Sem Value).run P w = .ok z w ∧ RelA U w F β r z := by
 unfold binAV at he
 split at he
 ·obtain ⟨rfl, _⟩ := relC.1 hx
  obtain ⟨rfl, _⟩ := relC.1 hy
  exact int_run he hφ t X Y
 ·obtain ⟨rfl, _⟩ := relC.1 hx
  obtain ⟨rfl, _⟩ := relC.1 hy
  exact str_run he hφ t X Y
 ·split at he
  ·rename_i b hb
   simp only [Option.some.injEq, Prod.mk.injEq] at he
   obtain ⟨rfl, rfl⟩ := he
   obtain ⟨h1, h2, h3⟩ := eq_run M hs hb hx hy (.inl rfl) X Y
   refine ⟨_, ?_, relB.2 rfl⟩
   rcases h3 with ⟨a, c, rfl, rfl⟩ | ⟨a, c, rfl, rfl⟩ | ⟨a, c, rfl, rfl, h3⟩ <;> simp [h1, binOp, h2]
  ·rename_i b hb
   simp only [Option.some.injEq, Prod.mk.injEq] at he
   obtain ⟨rfl, rfl⟩ := he
   obtain ⟨h1, h2, h3⟩ := eq_run M hs hb hx hy (.inr rfl) X Y
   refine ⟨_, ?_, relB.2 rfl⟩
   rcases h3 with ⟨a, c, rfl, rfl⟩ | ⟨a, c, rfl, rfl⟩ | ⟨a, c, rfl, rfl, h3⟩ <;> simp [h1, binOp, h2]
  ·simp at he
theorem un_run {op : UnOp} {x : AV} {φ : Prop} {r : AV} (he : unAV op x = some (φ, r)) {u : Value} (hx : RelA U w F β x u) : ∃ z, (Op.unary op u).run P w = .ok z w ∧ RelA U w F β r z := by
 unfold unAV at he
 split at he
 ·obtain ⟨rfl, _⟩ := relC.1 hx
  split at he <;> simp only [Option.some.injEq, Prod.mk.injEq, reduceCtorEq] at he
  ·obtain ⟨_, rfl⟩ := he
   exact ⟨_, by simp [Op.unary, Op.intArith], relI.2 rfl⟩
  ·obtain ⟨_, rfl⟩ := he
   exact ⟨_, by simp [Op.unary, intBits_xor], relI.2 rfl⟩
 ·obtain ⟨rfl, _⟩ := relC.1 hx
  split at he <;> simp only [Option.some.injEq, Prod.mk.injEq, reduceCtorEq] at he
  obtain ⟨_, rfl⟩ := he
  exact ⟨_, by simp [Op.unary], relB.2 rfl⟩
 ·simp at he
theorem pick_run {t : Bool} {a b : AV} {φ : Prop} {r : AV} (he : pickAV t a b = some (φ, r)) (hφ : φ) {u v : Value} (hx : RelA U w F β a u) (hy : RelA U w F β b v) : RelA U w F β r (if t then u else v) := by
 unfold pickAV at he
 split at he <;> simp only [Option.some.injEq, Prod.mk.injEq, reduceCtorEq] at he <;> obtain ⟨rfl, rfl⟩ := he
 ·simp only [RelA] at hx hy
  cases t
  ·have := hy.1 (hφ.2 rfl); simp only [RelP] at this; simpa [RelA, RelP, bsel] using this
  ·have := hx.1 (hφ.1 rfl); simp only [RelP] at this; simpa [RelA, RelP, bsel] using this
 ·simp only [RelA] at hx
  cases t
  ·simpa [RelA, RelP, bsel] using hy
  ·have := hx.1 (hφ rfl); simp only [RelP] at this; simpa [RelA, RelP, bsel] using this
 ·simp only [RelA] at hy
  cases t
  ·have := hy.1 (hφ rfl); simp only [RelP] at this; simpa [RelA, RelP, bsel] using this
  ·simpa [RelA, RelP, bsel] using hx
 ·cases t
  ·simpa [RelA, RelP, bsel] using hy
  ·simpa [RelA, RelP, bsel] using hx
 ·rw [hφ, if_pos rfl]; exact hx
 ·simp only [RelA] at hx
  rw [hφ.1, if_pos rfl]; simpa only [RelA] using hx.1 hφ.2
 ·rw [hφ, if_neg (by decide)]; exact hy
 ·simp only [RelA] at hy
  rw [hφ.1, if_neg (by decide)]; simpa only [RelA] using hy.1 hφ.2
theorem RelC.vals {b : Nat} : ∀ {cs : List PV} {o : Nat}, RelC w F b o cs → ∃ vs, RelL U w F β (cs.map .c) vs ∧ (∀ j u, vs[j]? = some u → w.cell? ⟨b, o + j, none⟩ = some u) ∧ ∀ u ∈ vs, u.oneCell' = true
 | [], o, _ => ⟨[], by simp [RelL], by simp, by simp⟩
 | x :: r, o, H => by
  simp only [RelC] at H
  obtain ⟨⟨u, h1, h2⟩, h3⟩ := H
  obtain ⟨vs, h4, h5, h6⟩ := RelC.vals h3
  refine ⟨u :: vs, by simp only [List.map_cons, RelL]; exact ⟨u, vs, rfl, by simpa only [RelA] using h2, h4⟩, fun j v hv => ?_, fun v hv => ?_⟩
  ·cases j with
   | zero => simp at hv; subst hv; exact h1
   | succ j => have := h5 j v (by simpa using hv); rwa [show o + 1 + j = o + (j + 1) from by omega] at this
  ·rcases List.mem_cons.1 hv with rfl | hv
   ·exact h2.one
   ·exact h6 v hv
theorem vals_part {xs : List AV} {vs : List Value} {b p : Nat} (h1 : RelL U w F β xs vs) (h2 : ∀ j u, vs[j]? = some u → w.cell? ⟨b, p + j, none⟩ = some u) (h3 : ∀ u ∈ vs, u.oneCell' = true) (o n : Nat) :
 RelL U w F β ((xs.drop o).take n) ((vs.drop o).take n) ∧ (∀ j u, ((vs.drop o).take n)[j]? = some u → w.cell? ⟨b, p + o + j, none⟩ = some u) ∧ ∀ u ∈ ((vs.drop o).take n), u.oneCell' = true := by
 refine ⟨(h1.drop o).take n, fun j u hu => ?_, fun u hu => h3 u (List.mem_of_mem_drop (List.mem_of_mem_take hu))⟩
 rw [List.getElem?_take] at hu
 split at hu
 ·rw [List.getElem?_drop] at hu
  have := h2 _ u hu
  rwa [← Nat.add_assoc] at this
 ·simp at hu
theorem cells_run (M : MemOk W N U F β h w) (hs : ∀ id, hT id ≠ .dead → hT id = h id) {n : Nat} {p : AV} {φ : Prop} {cs : List AV} (he : cellsAt hT n p = some (φ, cs)) (hφ : φ) {v : Value} (hv : RelA U w F β p v) :
 ∃ b o vs, v = .pointer (some ⟨b, o, none⟩) ∧ vs.length = n ∧ RelL U w F β cs vs ∧ (∀ j u, vs[j]? = some u → w.cell? ⟨b, o + j, none⟩ = some u) ∧ ∀ u ∈ vs, u.oneCell' = true := by
 have row : ∀ {sz : Nat} {xs : List (List PV)} {b q i o : Nat}, RelE w F b sz q xs → i < xs.length → o + n ≤ sz →
  ∃ vs : List Value, vs.length = n ∧ RelL U w F β ((((xs.getD i []).drop o).take n).map .c) vs ∧ (∀ j u, vs[j]? = some u → w.cell? ⟨b, q + i * sz + o + j, none⟩ = some u) ∧ ∀ u ∈ vs, u.oneCell' = true := by
  intro sz xs b q i o hE hi hon
  obtain ⟨h1, h2⟩ := hE.at i xs[i] (by simp [hi])
  obtain ⟨vs, h3, h4, h5⟩ := RelC.vals (U := U) (β := β) h2
  obtain ⟨h6, h7, h8⟩ := vals_part h3 h4 h5 o n
  have hl := h3.len
  have hg : xs.getD i [] = xs[i] := by simp [hi]
  refine ⟨(vs.drop o).take n, ?_, ?_, h7, h8⟩
  ·simp only [List.length_map] at hl
   simp; omega
  ·rw [hg, List.map_take, List.map_drop]; exact h6
 unfold cellsAt at he
 split at he
 ·rename_i id i o
  split at he
  ·rename_i e sz xs hc
   split at he
   ·rename_i hon
    simp only [Option.some.injEq, Prod.mk.injEq] at he
    obtain ⟨rfl, rfl⟩ := he
    obtain ⟨bd, hb, hk⟩ := M.get hs hc (by simp)
    simp only [RelA] at hv
    obtain ⟨g, hg, rfl⟩ := hv.2.2 bd hb
    obtain ⟨h1, h2, h3, h4⟩ := hk
    rcases h4 with ⟨h5, _⟩ | ⟨g', cap, cur, h5, _, _, _, _, _, hE⟩
    ·rw [hg] at h5; simp at h5
    ·rw [hg] at h5
     cases h5
     obtain ⟨vs, hl, hr, hcell, hone⟩ := row hE hφ (Nat.le_of_ble_eq_true hon)
     refine ⟨g, i * bd.sz + o, vs, rfl, hl, hr, ?_, hone⟩
     rw [h1.1]; simpa using hcell
   ·simp at he
  ·rename_i t cs' hc
   split at he
   ·rename_i hon
    simp only [Option.some.injEq, Prod.mk.injEq] at he
    obtain ⟨rfl, rfl⟩ := he
    subst hφ
    obtain ⟨bd, hb, hk⟩ := M.get hs hc (by simp)
    simp only [RelA] at hv
    obtain ⟨g, hg, rfl⟩ := hv.2.2 bd hb
    obtain ⟨h1, h2, g', vs, h3, h4, h5, h6, h7⟩ := hk
    rw [hg] at h3
    cases h3
    have hcell : ∀ j u, vs.toList[j]? = some u → w.cell? ⟨g, 0 + j, none⟩ = some u := by
     intro j u hu
     simp only [World.cell?, h5, Nat.zero_add]
     simpa using hu
    obtain ⟨k1, k2, k3⟩ := vals_part h6 hcell h7 o n
    have hl := h6.len
    have := Nat.le_of_ble_eq_true hon
    exact ⟨g, 0 * bd.sz + o, _, rfl, by simp at hl ⊢; omega, k1, by simpa using k2, k3⟩
   ·simp at he
  ·simp at he
 ·rename_i sz xs i o
  split at he
  ·rename_i hon
   simp only [Option.some.injEq, Prod.mk.injEq] at he
   obtain ⟨rfl, rfl⟩ := he
   simp only [RelA] at hv
   obtain ⟨b, q, rfl, hb, hE⟩ := hv
   obtain ⟨vs, hl, hr, hcell, hone⟩ := row hE hφ (Nat.le_of_ble_eq_true hon)
   exact ⟨b, _, vs, rfl, hl, hr, hcell, hone⟩
  ·simp at he
 ·simp at he
theorem load_run (M : MemOk W N U F β h w) (hs : ∀ id, hT id ≠ .dead → hT id = h id) {t : TypeId} {p x : AV} {φ : Prop} (he : loadAV P hT t p = some (φ, x)) (hφ : φ) {v : Value} (hv : RelA U w F β p v) :
 ∃ z, (Instr.loadAt t v).run P w = .ok z w ∧ RelA U w F β x z := by
 unfold loadAV at he
 split at he
 ·rename_i d hd
  split at he
  ·rename_i φ' cs hc
   split at he
   ·rename_i y hy
    simp only [Option.some.injEq, Prod.mk.injEq] at he
    obtain ⟨rfl, rfl⟩ := he
    obtain ⟨b, o, vs, rfl, hl, hr, hcell, hone⟩ := cells_run M hs hc hφ hv
    obtain ⟨i, u, h1, h2, rfl⟩ := ty_some hd
    simp only at hl hy
    unfold valOf at hy
    split at hy
    ·rename_i ha
     simp only [Option.some.injEq] at hy
     subst hy
     have hld := run_loadCells_list (P := P) (w := w) ⟨b, o, none⟩ vs (fun j u hu => by rw [Addr.add_lit]; exact hcell j u hu)
     rw [hl] at hld
     refine ⟨.agg vs.toArray, ?_, by simp only [RelA]; exact ⟨_, rfl, by simpa using hr, by simpa using hone⟩⟩
     simp [Instr.loadAt, Instr.sureAddr, loadVar, run_isAgg' h2, ha, run_sizeOf' h1, hld]
    ·rename_i ha
     split at hy
     ·simp only [Option.some.injEq] at hy
      subst hy
      simp only [RelL] at hr
      obtain ⟨z, _, rfl, hz, rfl⟩ := hr
      have h0 := hcell 0 z (by simp)
      refine ⟨z, ?_, hz⟩
      simp at ha
      simp only [Nat.add_zero] at h0
      simp [Instr.loadAt, Instr.sureAddr, loadVar, run_isAgg' h2, ha, h0]
     ·simp at hy
   ·simp at he
  ·simp at he
 ·simp at he
end
end Go.Proofs.Ytdkmndimmpilaaa
namespace Go.Proofs.Ytdkmndimmpilaaa
set_option linter.all false
open Go.RowKit
section
variable {P : Program} {W : World} {N U F : Nat → Prop} {β : Nat → Option Bind} {h hT : Nat → Chunk} {w : World}
theorem ty_kind {t : TypeId} {k : TK} {a : Bool} {s b : Nat} {z : List Value} (h : ty P t = some ⟨k, a, s, b, z⟩) : ∃ i u, P.info? t = some i ∧ P.underlying t = some u ∧ kindOf P u = k ∧ aggD u = a ∧ i.size = s ∧ i.bytes = b := by
 obtain ⟨i, u, h1, h2, h3⟩ := ty_some h
 simp only [TD.mk.injEq] at h3
 exact ⟨i, u, h1, h2, h3.1.symm, h3.2.1.symm, h3.2.2.1.symm, h3.2.2.2.1.symm⟩
theorem ty_d {t : TypeId} {d : TD} (h : ty P t = some d) : ∃ i u, P.info? t = some i ∧ P.underlying t = some u ∧ kindOf P u = d.k ∧ aggD u = d.agg ∧ i.size = d.size ∧ i.bytes = d.bytes := by
 obtain ⟨i, u, h1, h2, rfl⟩ := ty_some h
 exact ⟨i, u, h1, h2, rfl, rfl, rfl, rfl⟩
theorem kind_st {u : TypeDesc} {l : List (Option (Nat × Nat × Bool))} (h : kindOf P u = .st l) : ∃ fs, u = .struct fs ∧ l = fs.toList.map (fieldTD P) := by
 cases u <;> simp [kindOf] at h
 exact ⟨_, rfl, h.symm⟩
theorem kind_sl {u : TypeDesc} {e : TypeId} (h : kindOf P u = .sl e) : u = .slice e := by
 cases u <;> simp [kindOf] at h
 subst h; rfl
theorem kind_arr {u : TypeDesc} {n : Nat} {e : TypeId} (h : kindOf P u = .arr n e) : u = .array n e := by
 cases u <;> simp [kindOf] at h
 obtain ⟨rfl, rfl⟩ := h; rfl
theorem kind_str {u : TypeDesc} (h : kindOf P u = .str) : u = .string := by
 cases u <;> simp [kindOf] at h
 rfl
theorem kind_int {u : TypeDesc} {k : IntKind} (h : kindOf P u = .int k) : u = .int k := by
 cases u <;> simp [kindOf] at h
 subst h; rfl
theorem field_some {fs : Array Field} {f o n : Nat} {a : Bool} (h : (fs.toList.map (fieldTD P))[f]? = some (some (o, n, a))) : ∃ fd i d, fs[f]? = some fd ∧ fd.offset = o ∧ P.info? fd.type = some i ∧ i.size = n ∧ P.underlying fd.type = some d ∧ aggD d = a := by
 rw [List.getElem?_map] at h
 cases hf : fs.toList[f]? with
 | none => rw [hf] at h; simp at h
 | some fd =>
  rw [hf] at h
  simp only [Option.map_some, Option.some.injEq] at h
  unfold fieldTD at h
  split at h
  ·rename_i i d h1 h2
   simp only [Option.some.injEq, Prod.mk.injEq] at h
   exact ⟨fd, i, d, by simpa using hf, h.1, h1, h.2.1, h2, h.2.2⟩
  ·simp at h
theorem addO_run (M : MemOk W N U F β h w) (hs : ∀ id, hT id ≠ .dead → hT id = h id) {p q : AV} {n : Nat} (he : addO hT p n = some q) {v : Value} (hv : RelA U w F β p v) : ∃ b o, v = .pointer (some ⟨b, o, none⟩) ∧ RelA U w F β q (.pointer (some ⟨b, o + n, none⟩)) := by
 unfold addO at he
 split at he
 ·rename_i id i o
  split at he
  ·simp at he
  ·rename_i hc
   simp only [Option.some.injEq] at he
   subst he
   obtain ⟨bd, hb, _⟩ := M.get hs (id := id) rfl hc
   simp only [RelA] at hv
   obtain ⟨g, hg, rfl⟩ := hv.2.2 bd hb
   refine ⟨_, _, rfl, ?_⟩
   simp only [RelA]
   refine ⟨hv.1, rfl, fun bd' hb' => ?_⟩
   rw [hb] at hb'; cases hb'
   exact ⟨g, hg, by rw [Nat.add_assoc]⟩
 ·simp only [Option.some.injEq] at he
  subst he
  simp only [RelA] at hv
  obtain ⟨b, p, rfl, hb, hE⟩ := hv
  refine ⟨_, _, rfl, ?_⟩
  simp only [RelA]
  exact ⟨b, p, by rw [Nat.add_assoc], hb, hE⟩
 ·simp at he
theorem fieldAddr_run (M : MemOk W N U F β h w) (hs : ∀ id, hT id ≠ .dead → hT id = h id) {s : TypeId} {p x : AV} {f : Nat} {φ : Prop} (he : fieldAddrAV P hT s p f = some (φ, x)) {v : Value} (hv : RelA U w F β p v) :
 ∃ z, (Instr.fieldAt s v f).run P w = .ok z w ∧ RelA U w F β x z := by
 unfold fieldAddrAV at he
 split at he
 ·rename_i fs _ _ _ _ ht
  obtain ⟨i, u, h1, h2, h3, _⟩ := ty_kind ht
  obtain ⟨fs', rfl, rfl⟩ := kind_st h3
  split at he
  ·rename_i o n a hf
   split at he
   ·simp at he
   ·rename_i hn
    split at he
    ·rename_i q hq
     simp only [Option.some.injEq, Prod.mk.injEq] at he
     obtain ⟨_, rfl⟩ := he
     obtain ⟨fd, j, d, k1, k2, k3, k4, _⟩ := field_some hf
     obtain ⟨b, o', rfl, hr⟩ := addO_run M hs hq hv
     refine ⟨_, ?_, hr⟩
     subst k2 k4
     simp [Instr.fieldAt, run_underlying h2, k1, Instr.sureAddr, fieldPlace, run_sizeOf' k3, hn, Addr.add_lit]
    ·simp at he
  ·simp at he
 ·simp at he
theorem part_run {t : TypeId} {i : TypeInfo} {d : TypeDesc} (h1 : P.info? t = some i) (h2 : P.underlying t = some d) {a : Bool} (ha : aggD d = a) {o n : Nat} (hn : i.size = n) {cs : List AV} {y : AV} (he : partAV a o n cs = some y) {vs : Array Value} (hv : RelL U w F β cs vs.toList) (h1c : ∀ x ∈ vs.toList, x.oneCell' = true) :
 ∃ z, (part t vs o).run P w = .ok z w ∧ RelA U w F β y z := by
 unfold partAV at he
 subst ha hn
 split at he
 ·rename_i hag
  simp only [Option.some.injEq] at he
  subst he
  refine ⟨.agg (vs.extract o (o + i.size)), by simp [part, run_isAgg' h2, hag, run_sizeOf' h1], ?_⟩
  simp only [RelA]
  refine ⟨_, rfl, ?_, ?_⟩
  ·have := (hv.drop o).take i.size
   rw [Array.toList_extract]
   simpa [List.extract_eq_take_drop] using this
  ·intro x hx
   rw [Array.toList_extract, List.extract_eq_take_drop] at hx
   exact h1c x (List.mem_of_mem_drop (List.mem_of_mem_take hx))
 ·rename_i hag
  obtain ⟨u, hu, hr⟩ := hv.at o y he
  simp only [Bool.not_eq_true] at hag
  have hu' : vs[o]? = some u := by simpa using hu
  exact ⟨u, by simp [part, run_isAgg' h2, hag, hu'], hr⟩
theorem field_run {s : TypeId} {y x : AV} {f : Nat} {φ : Prop} (he : fieldAV P s y f = some (φ, x)) {v : Value} (hv : RelA U w F β y v) :
 ∃ z, (Instr.field s v f).run P w = .ok z w ∧ RelA U w F β x z := by
 unfold fieldAV at he
 split at he
 ·rename_i fs _ _ _ _ cs ht
  obtain ⟨i, u, h1, h2, h3, _⟩ := ty_kind ht
  obtain ⟨fs', rfl, rfl⟩ := kind_st h3
  split at he
  ·rename_i o n a hf
   split at he
   ·rename_i q hq
    simp only [Option.some.injEq, Prod.mk.injEq] at he
    obtain ⟨_, rfl⟩ := he
    obtain ⟨fd, j, d, k1, k2, k3, k4, k5, k6⟩ := field_some hf
    simp only [RelA] at hv
    obtain ⟨vs, rfl, hr, hone⟩ := hv
    obtain ⟨z, hz, hrz⟩ := part_run k3 k5 k6 k4 hq hr hone
    refine ⟨z, ?_, hrz⟩
    subst k2
    simp [Instr.field, run_underlying h2, k1, asAgg, hz]
   ·simp at he
  ·simp at he
 ·simp at he
theorem slOf_run (M : MemOk W N U F β h w) (hs : ∀ id, hT id ≠ .dead → hT id = h id) {x : AV} {sz : Nat} {xs : List (List PV)} (he : slOf hT x = some (sz, xs)) {v : Value} (hv : RelA U w F β x v) :
 ∃ a c, v = .slice a xs.length c ∧ xs.length ≤ c ∧ c ≤ maxLen ∧ (xs = [] ∨ ∃ b o, a = some ⟨b, o, none⟩ ∧ RelE w F b sz o xs) := by
 unfold slOf at he
 split at he
 ·simp only [Option.some.injEq, Prod.mk.injEq] at he
  obtain ⟨rfl, rfl⟩ := he
  simp only [RelA, RelP] at hv
  obtain ⟨a, c, rfl, h1, h2, h3⟩ := hv
  refine ⟨a, c, rfl, h1, h2, ?_⟩
  rcases h3 with h3 | ⟨b, o, h3, _, h4⟩
  ·exact .inl h3
  ·exact .inr ⟨b, o, h3, h4⟩
 ·simp only [Option.some.injEq, Prod.mk.injEq] at he
  obtain ⟨rfl, rfl⟩ := he
  obtain ⟨rfl, _⟩ := relC.1 hv
  exact ⟨none, 0, rfl, Nat.le_refl _, Nat.zero_le _, .inl rfl⟩
 ·split at he
  ·rename_i hc
   simp only [Option.some.injEq, Prod.mk.injEq] at he
   obtain ⟨rfl, rfl⟩ := he
   obtain ⟨bd, hb, h1, h2, h3, h4⟩ := M.get hs hc (by simp)
   simp only [RelA] at hv
   rw [hv.2.2 bd hb]
   rcases h4 with ⟨_, rfl, h6⟩ | ⟨g, cap, cur, _, h6, _, h8, h9, _, hE⟩
   ·exact ⟨none, 0, h6, Nat.le_refl _, Nat.zero_le _, .inl rfl⟩
   ·exact ⟨_, cap, h6, h8, h9, .inr ⟨g, 0, rfl, hE⟩⟩
  ·simp at he
 ·rename_i id o l
  split at he
  ·rename_i e sz' ys hc
   simp only [Option.some.injEq, Prod.mk.injEq] at he
   obtain ⟨rfl, rfl⟩ := he
   obtain ⟨bd, hb, h1, h2, h3, h4⟩ := M.get hs hc (by simp)
   simp only [RelA] at hv
   obtain ⟨a, c, rfl, k1, k2, k3, k4, _⟩ := hv.2.2 bd hb
   have hl : ((ys.drop o).take l).length = l := by simp; omega
   refine ⟨a, c, by rw [hl], by omega, k3, ?_⟩
   rcases k4 with rfl | ⟨g, k5, k6⟩
   ·exact .inl (by simp)
   ·rcases h4 with ⟨h5, _⟩ | ⟨g', cap, cur, h5, h6, _, h8, h9, _, hE⟩
    ·rw [k5] at h5; simp at h5
    ·rw [k5] at h5; cases h5
     refine .inr ⟨g, _, k6, RelE.of fun i cs hi => ?_⟩
     rw [List.getElem?_take] at hi
     split at hi
     ·rw [List.getElem?_drop] at hi
      have := hE.at _ _ hi
      rw [h1.1, ← Nat.add_mul]
      simpa using this
     ·simp at hi
  ·simp at he
 ·simp at he
theorem indexAddr_run (M : MemOk W N U F β h w) (hs : ∀ id, hT id ≠ .dead → hT id = h id) {t : TypeId} {y i x : AV} {φ : Prop} (he : indexAddrAV P hT t y i = some (φ, x)) (hφ : φ) {v u : Value} (hv : RelA U w F β y v) (hi : RelA U w F β i u) :
 ∃ z, (Instr.indexAt t v u).run P w = .ok z w ∧ RelA U w F β x z := by
 unfold indexAddrAV at he
 split at he
 ·rename_i k n
  obtain ⟨rfl, _⟩ := relC.1 hi
  split at he
  ·rename_i e _ _ _ _ ht
   obtain ⟨_, _, _, h2, h3, _⟩ := ty_kind ht
   have := kind_sl h3
   subst this
   split at he
   ·rename_i d hd
    obtain ⟨j, de, e1, e2, e3, e4, e5, _⟩ := ty_d hd
    have run : ∀ (a : Addr) (l c : Nat), 0 ≤ n → n < l → (Instr.indexAt t (.slice (some a) l c) (.int k n)).run P w = .ok (.pointer (some (a.add (n.toNat * d.size)))) w := by
     intro a l c h0 h1
     simp [Instr.indexAt, asIntOf, run_underlying h2, h0, h1, run_sizeOf' e1, e5]
    split at he
    ·rename_i sz xs
     simp only [Option.some.injEq, Prod.mk.injEq] at he
     obtain ⟨rfl, rfl⟩ := he
     obtain ⟨p1, p2, p3⟩ := hφ
     simp only [RelA, RelP] at hv
     obtain ⟨a, c, rfl, q1, q2, q3⟩ := hv
     rcases q3 with rfl | ⟨b, o, rfl, hb, hE⟩
     ·simp at p3; omega
     ·refine ⟨_, run _ _ _ p2 p3, ?_⟩
      simp only [RelA]
      exact ⟨b, o, by rw [Addr.add_lit, p1, Nat.add_zero], hb, hE⟩
    ·rename_i id
     split at he
     ·rename_i e' sz xs hc
      simp only [Option.some.injEq, Prod.mk.injEq] at he
      obtain ⟨rfl, rfl⟩ := he
      obtain ⟨p1, p2, p3⟩ := hφ
      obtain ⟨bd, hb, q1, q2, q3, q4⟩ := M.get hs hc (by simp)
      simp only [RelA] at hv
      rw [hv.2.2 bd hb]
      rcases q4 with ⟨_, rfl, _⟩ | ⟨g, cap, cur, q5, q6, _⟩
      ·simp at p3; omega
      ·rw [q6]
       refine ⟨_, run _ _ _ p2 p3, ?_⟩
       simp only [RelA]
       refine ⟨hv.1, rfl, fun bd' hb' => ?_⟩
       rw [hb] at hb'; cases hb'
       exact ⟨g, q5, by rw [Addr.add_lit, p1, q1.1, Nat.zero_add, Nat.add_zero]⟩
     ·simp at he
    ·rename_i id o l
     split at he
     ·rename_i e' sz xs hc
      simp only [Option.some.injEq, Prod.mk.injEq] at he
      obtain ⟨rfl, rfl⟩ := he
      obtain ⟨p1, p2, p3⟩ := hφ
      obtain ⟨bd, hb, q1, q2, q3, q4⟩ := M.get hs hc (by simp)
      simp only [RelA] at hv
      obtain ⟨a, c, rfl, r1, r2, r3, r4, _⟩ := hv.2.2 bd hb
      rcases r4 with rfl | ⟨g, r4, rfl⟩
      ·simp at p3; omega
      ·refine ⟨_, run _ _ _ p2 p3, ?_⟩
       simp only [RelA]
       refine ⟨hv.1, rfl, fun bd' hb' => ?_⟩
       rw [hb] at hb'; cases hb'
       exact ⟨g, r4, by rw [Addr.add_lit, p1, q1.1, Nat.add_zero, Nat.add_mul]⟩
     ·simp at he
    ·simp at he
   ·simp at he
  ·rename_i m e _ _ _ _ ht
   obtain ⟨_, _, _, h2, h3, _⟩ := ty_kind ht
   have := kind_arr h3
   subst this
   split at he
   ·rename_i d hd
    obtain ⟨j, de, e1, e2, e3, e4, e5, _⟩ := ty_d hd
    split at he
    ·rename_i q hq
     simp only [Option.some.injEq, Prod.mk.injEq] at he
     obtain ⟨rfl, rfl⟩ := he
     obtain ⟨b, o, rfl, hr⟩ := addO_run M hs hq hv
     refine ⟨_, ?_, hr⟩
     have hm : n < (m : Int) := hφ.2
     simp [Instr.indexAt, asIntOf, run_underlying h2, Instr.sureAddr, hφ.1, hm, run_sizeOf' e1, e5, Addr.add_lit]
    ·simp at he
   ·simp at he
  ·simp at he
 ·simp at he
theorem index_run {t : TypeId} {y i x : AV} {φ : Prop} (he : indexAV P t y i = some (φ, x)) (hφ : φ) {v u : Value} (hv : RelA U w F β y v) (hi : RelA U w F β i u) :
 ∃ z, (Instr.index t v u).run P w = .ok z w ∧ RelA U w F β x z := by
 unfold indexAV at he
 split at he
 ·rename_i k n s
  obtain ⟨rfl, _⟩ := relC.1 hi
  obtain ⟨rfl, _⟩ := relC.1 hv
  split at he
  ·rename_i ht
   obtain ⟨_, _, _, h2, h3, _⟩ := ty_kind ht
   have := kind_str h3
   subst this
   simp only [Option.some.injEq, Prod.mk.injEq] at he
   obtain ⟨rfl, rfl⟩ := he
   refine ⟨_, ?_, relI.2 rfl⟩
   have hlt : n.toNat < s.size := by omega
   have e0 : s[n.toNat]? = some s[n.toNat] := getElem?_pos s _ hlt
   have e1 : s.data.toList.getD n.toNat 0 = s[n.toNat] := by
    rw [List.getD_eq_getElem?_getD, Array.getElem?_toList]
    rw [Array.getElem?_eq_getElem hlt]; rfl
   simp only [Instr.index, asIntOf, Sem.run_bind, Sem.run_pure, Result.andThen_ok, run_underlying h2, hφ.1, if_true, e0, e1]
  ·simp at he
 ·rename_i k n cs
  obtain ⟨rfl, _⟩ := relC.1 hi
  split at he
  ·rename_i m e _ _ _ _ ht
   obtain ⟨_, _, _, h2, h3, _⟩ := ty_kind ht
   have := kind_arr h3
   subst this
   split at he
   ·rename_i d hd
    obtain ⟨j, de, e1, e2, e3, e4, e5, _⟩ := ty_d hd
    split at he
    ·rename_i q hq
     simp only [Option.some.injEq, Prod.mk.injEq] at he
     obtain ⟨rfl, rfl⟩ := he
     simp only [RelA] at hv
     obtain ⟨vs, rfl, hr, hone⟩ := hv
     obtain ⟨z, hz, hrz⟩ := part_run e1 e2 e4 e5 hq hr hone
     have hm : n < (m : Int) := hφ.2
     exact ⟨z, by simp [Instr.index, asIntOf, run_underlying h2, hφ.1, hm, run_sizeOf' e1, e5, hz], hrz⟩
    ·simp at he
   ·simp at he
  ·simp at he
 ·simp at he
def optRel (U : Nat → Prop) (w : World) (F : Nat → Prop) (β : Nat → Option Bind) : Option AV → Option Value → Prop
 | none, none => True
 | some x, some v => RelA U w F β x v
 | _, _ => False
theorem bound_run' {dflt : Int} {o : Option AV} {n : Int} (he : bound dflt o = some n) {ov : Option Value} (hv : optRel U w F β o ov) : (ov = none ∧ n = dflt) ∨ ∃ k, ov = some (.int k n) := by
 cases o <;> cases ov <;> simp only [optRel] at hv
 ·simp only [bound, Option.some.injEq] at he
  exact .inl ⟨rfl, he.symm⟩
 ·rename_i x v
  unfold bound at he
  split at he
  ·rename_i h; simp at h
  ·rename_i h
   simp only [Option.some.injEq] at h he
   subst h he
   exact .inr ⟨_, by rw [(relC.1 hv).1]⟩
  ·simp at he
theorem bounds_run (isSl : Bool) (len cap : Nat) {lo hi : Option Value} {l r : Int} (hl : (lo = none ∧ l = 0) ∨ ∃ k, lo = some (.int k l)) (hr : (hi = none ∧ r = len) ∨ ∃ k, hi = some (.int k r)) (h0 : 0 ≤ l) (h1 : l ≤ r) (h2 : r ≤ len) (hc : len ≤ cap) :
 (Instr.sliceBounds isSl len cap lo hi none).run P w = .ok (l.toNat, r.toNat, cap) w := by
 have e0 : ∀ k c, (Instr.sliceBound (.int k r) cap c).run P w = .ok r.toNat w := by
  intro k c
  have : 0 ≤ r ∧ r ≤ (cap : Int) := by omega
  unfold Instr.sliceBound
  simp only [asIntOf, Sem.run_bind, Sem.run_pure, Result.andThen_ok]
  rw [if_pos this]; rfl
 have e1 : ∀ k c, (Instr.sliceBound (.int k l) r.toNat c).run P w = .ok l.toNat w := by
  intro k c
  have : 0 ≤ l ∧ l ≤ (r.toNat : Int) := by omega
  unfold Instr.sliceBound
  simp only [asIntOf, Sem.run_bind, Sem.run_pure, Result.andThen_ok]
  rw [if_pos this]; rfl
 rcases hl with ⟨rfl, rfl⟩ | ⟨k, rfl⟩ <;> rcases hr with ⟨rfl, rfl⟩ | ⟨k', rfl⟩
 ·simp [Instr.sliceBounds]
 ·simp [Instr.sliceBounds, e0]
 ·have e1' : ∀ k c, (Instr.sliceBound (.int k l) len c).run P w = .ok l.toNat w := by
   intro k c
   have : 0 ≤ l ∧ l ≤ (len : Int) := by omega
   simp [Instr.sliceBound, asIntOf, this]
  simp [Instr.sliceBounds, e1']
 ·simp [Instr.sliceBounds, e0, e1]
theorem slice_run (M : MemOk W N U F β h w) (hs : ∀ id, hT id ≠ .dead → hT id = h id) {t : TypeId} {y x : AV} {lo hi : Option AV} {φ : Prop} (he : sliceAV P hT t y lo hi = some (φ, x)) (hφ : φ) {v : Value} {lv hv' : Option Value} (hv : RelA U w F β y v) (hlo : optRel U w F β lo lv) (hhi : optRel U w F β hi hv') :
 ∃ z, (Instr.sliceAt t v lv hv' none).run P w = .ok z w ∧ RelA U w F β x z := by
 unfold sliceAV at he
 split at he
 ·rename_i ht
  obtain ⟨_, _, _, h2, h3, _⟩ := ty_kind ht
  have := kind_str h3
  subst this
  split at he
  ·rename_i s
   obtain ⟨rfl, _⟩ := relC.1 hv
   split at he
   ·rename_i l r hl hr
    simp only [Option.some.injEq, Prod.mk.injEq] at he
    obtain ⟨rfl, rfl⟩ := he
    have hb := bounds_run (P := P) (w := w) false s.size s.size (bound_run' hl hlo) (bound_run' hr hhi) hφ.1 hφ.2.1 hφ.2.2 (Nat.le_refl _)
    exact ⟨_, by simp [Instr.sliceAt, Instr.slice, run_underlying h2, hb], relS.2 rfl⟩
   ·simp at he
  ·simp at he
 ·rename_i e _ _ _ _ ht
  obtain ⟨_, _, _, h2, h3, _⟩ := ty_kind ht
  have := kind_sl h3
  subst this
  split at he
  ·rename_i d hd
   obtain ⟨j, de, e1, e2, e3, e4, e5, _⟩ := ty_d hd
   have run : ∀ (a : Option Addr) (n c : Nat) {l r : Int}, ((lv = none ∧ l = 0) ∨ ∃ k, lv = some (.int k l)) → ((hv' = none ∧ r = n) ∨ ∃ k, hv' = some (.int k r)) → 0 ≤ l → l ≤ r → r ≤ n → n ≤ c →
    (Instr.sliceAt t (.slice a n c) lv hv' none).run P w = .ok (.slice (if c = l.toNat then a else a.map (·.add (l.toNat * d.size))) (r.toNat - l.toNat) (c - l.toNat)) w := by
    intro a n c l r hl hr h0 h1 h2' h3'
    have hb := bounds_run (P := P) (w := w) true n c hl hr h0 h1 h2' h3'
    simp [Instr.sliceAt, Instr.slice, run_underlying h2, hb, run_sizeOf' e1, e5]
   have frz : ∀ {sz : Nat} {xs ys : List (List PV)} {l r : Int}, RelP w F (.sl sz xs) v → d.size = sz → ((lv = none ∧ l = 0) ∨ ∃ k, lv = some (.int k l)) → ((hv' = none ∧ r = xs.length) ∨ ∃ k, hv' = some (.int k r)) → 0 ≤ l → l ≤ r → r ≤ xs.length →
    ys = (xs.take r.toNat).drop l.toNat → ∃ z, (Instr.sliceAt t v lv hv' none).run P w = .ok z w ∧ RelA U w F β (.c (.sl sz ys)) z := by
    intro sz xs ys l r hx hsz hl hr h0 h1 h2' hys
    simp only [RelP] at hx
    obtain ⟨a, c, rfl, q1, q2, q3⟩ := hx
    refine ⟨_, run a _ c hl hr h0 h1 h2' q1, ?_⟩
    simp only [RelA, RelP]
    have hlen : ys.length = r.toNat - l.toNat := by rw [hys]; simp; omega
    refine ⟨_, _, by rw [hlen], by omega, by omega, ?_⟩
    rcases q3 with rfl | ⟨b, o, rfl, hb, hE⟩
    ·exact .inl (by rw [hys]; simp)
    ·by_cases hz : r.toNat - l.toNat = 0
     ·exact .inl (List.eq_nil_of_length_eq_zero (by omega))
     ·rw [if_neg (by omega)]
      refine .inr ⟨b, o + l.toNat * sz, by simp [Addr.add_lit, hsz], hb, RelE.of fun i cs hi => ?_⟩
      rw [hys, List.getElem?_drop, List.getElem?_take] at hi
      split at hi
      ·have := hE.at _ _ hi
       rwa [Nat.add_mul, ← Nat.add_assoc] at this
      ·simp at hi
   split at he
   ·rename_i sz xs
    simp only [RelA] at hv
    split at he
    ·rename_i k r
     simp only [Option.some.injEq, Prod.mk.injEq] at he
     obtain ⟨rfl, rfl⟩ := he
     refine frz (l := 0) (r := r) hv hφ.1 (bound_run' (dflt := 0) rfl hlo) (bound_run' (dflt := xs.length) rfl hhi) (by omega) hφ.2.1 hφ.2.2 (by simp)
    ·rename_i k l
     simp only [Option.some.injEq, Prod.mk.injEq] at he
     obtain ⟨rfl, rfl⟩ := he
     exact frz (l := l) (r := xs.length) hv hφ.1 (bound_run' (dflt := 0) rfl hlo) (bound_run' (dflt := xs.length) rfl hhi) hφ.2.1 hφ.2.2 (by omega) (by simp)
    ·rename_i k l k' r
     simp only [Option.some.injEq, Prod.mk.injEq] at he
     obtain ⟨rfl, rfl⟩ := he
     exact frz (l := l) (r := r) hv hφ.1 (bound_run' (dflt := 0) rfl hlo) (bound_run' (dflt := xs.length) rfl hhi) hφ.2.1 hφ.2.2.1 hφ.2.2.2 rfl
    ·simp only [Option.some.injEq, Prod.mk.injEq] at he
     obtain ⟨rfl, rfl⟩ := he
     exact frz (l := 0) (r := xs.length) hv hφ (bound_run' (dflt := 0) rfl hlo) (bound_run' (dflt := xs.length) rfl hhi) (by omega) (by omega) (by omega) (by simp)
    ·simp at he
   ·rename_i id
    split at he
    ·rename_i e' sz xs hc
     split at he
     ·rename_i l r hl hr
      simp only [Option.some.injEq, Prod.mk.injEq] at he
      obtain ⟨rfl, rfl⟩ := he
      obtain ⟨hsz, p1, p2, p3⟩ := hφ
      obtain ⟨bd, hb, q1, q2, q3, q4⟩ := M.get hs hc (by simp)
      simp only [RelA] at hv
      rw [hv.2.2 bd hb]
      rcases q4 with ⟨q5, rfl, q6⟩ | ⟨g, cap, cur, q5, q6, q7, q8, q9, _⟩
      ·simp only [List.length_nil] at *
       obtain rfl : l = 0 := by omega
       obtain rfl : r = 0 := by omega
       rw [q6]
       refine ⟨_, run none 0 0 (bound_run' hl hlo) (bound_run' hr hhi) (by omega) (by omega) (by omega) (by omega), ?_⟩
       simp only [RelA]
       refine ⟨hv.1, rfl, fun bd' hb' => ?_⟩
       rw [hb] at hb'; cases hb'
       exact ⟨none, 0, by simp, by simp, by simp, by simp [maxLen], .inl (by simp), fun _ => ⟨0, q6⟩⟩
      ·rw [q6]
       refine ⟨_, run _ _ _ (bound_run' hl hlo) (bound_run' hr hhi) p1 p2 p3 q8, ?_⟩
       simp only [RelA]
       refine ⟨hv.1, rfl, fun bd' hb' => ?_⟩
       rw [hb] at hb'; cases hb'
       refine ⟨_, _, rfl, by omega, by omega, by omega, ?_, ?_⟩
       ·by_cases hz : r.toNat - l.toNat = 0
        ·exact .inl hz
        ·refine .inr ⟨g, q5, ?_⟩
         rw [if_neg (by omega)]
         simp [Addr.add_lit, hsz, q1]
       ·intro h0
        refine ⟨xs.length, ?_⟩
        rw [q6, h0]
        split <;> simp [Addr.add_lit]
     ·simp at he
    ·simp at he
   ·rename_i id o n
    split at he
    ·rename_i e' sz xs hc
     split at he
     ·rename_i l r hl hr
      simp only [Option.some.injEq, Prod.mk.injEq] at he
      obtain ⟨rfl, rfl⟩ := he
      obtain ⟨hsz, p1, p2, p3⟩ := hφ
      obtain ⟨bd, hb, q1, q2, q3, q4⟩ := M.get hs hc (by simp)
      simp only [RelA] at hv
      obtain ⟨a, c, rfl, r1, r2, r3, r4, r5⟩ := hv.2.2 bd hb
      refine ⟨_, run _ _ _ (bound_run' hl hlo) (bound_run' hr hhi) p1 p2 p3 r2, ?_⟩
      simp only [RelA]
      refine ⟨hv.1, rfl, fun bd' hb' => ?_⟩
      rw [hb] at hb'; cases hb'
      refine ⟨_, _, rfl, by omega, by omega, by omega, ?_, ?_⟩
      ·by_cases hz : r.toNat - l.toNat = 0
       ·exact .inl hz
       ·rcases r4 with rfl | ⟨g, r4, rfl⟩
        ·omega
        ·refine .inr ⟨g, r4, ?_⟩
         rw [if_neg (by omega)]
         simp [Addr.add_lit, hsz, q1, Nat.add_mul]
      ·intro h0
       obtain ⟨n', hn'⟩ := r5 (by omega)
       have hl0 : l.toNat = 0 := by omega
       refine ⟨n', ?_⟩
       rw [hn', hl0]
       split
       ·simp
       ·cases a with
        | none => simp
        | some ad => simp [Addr.add]
     ·simp at he
    ·simp at he
   ·simp at he
  ·simp at he
 ·simp at he
theorem conv_run {a b : TypeId} {y x : AV} {φ : Prop} (he : convAV P hT a b y = some (φ, x)) {v : Value} (hv : RelA U w F β y v) : ∃ z, (convert a b v).run P w = .ok z w ∧ RelA U w F β x z := by
 unfold convAV at he
 split at he
 ·rename_i ta _ _ _ _ _ _ _ h1 h2
  obtain ⟨_, u1, _, k1, _⟩ := ty_d h1
  obtain ⟨_, _, _, k2, k3, _⟩ := ty_kind h2
  have := kind_int k3
  subst this
  obtain ⟨rfl, _⟩ := relC.1 hv
  simp only [Option.some.injEq, Prod.mk.injEq] at he
  obtain ⟨_, rfl⟩ := he
  refine ⟨_, ?_, relI.2 rfl⟩
  simp [convert, run_underlying k1, run_underlying k2, Conv.intToInt]
 ·rename_i h1 h2
  obtain ⟨_, _, _, k1, k4, _⟩ := ty_kind h1
  have := kind_str k4
  subst this
  obtain ⟨_, _, _, k2, k3, _⟩ := ty_kind h2
  have := kind_str k3
  subst this
  obtain ⟨rfl, _⟩ := relC.1 hv
  simp only [Option.some.injEq, Prod.mk.injEq] at he
  obtain ⟨_, rfl⟩ := he
  exact ⟨_, by simp [convert, run_underlying k1, run_underlying k2], relS.2 rfl⟩
 ·simp at he
theorem len_run (M : MemOk W N U F β h w) (hs : ∀ id, hT id ≠ .dead → hT id = h id) {t : TypeId} {y x : AV} {φ : Prop} (he : lenAV P hT t y = some (φ, x)) {v : Value} (hv : RelA U w F β y v) (ts : Array TypeId) (ht0 : ts[0]? = some t) (vs : Array Value) (hv0 : vs[0]? = some v) (ty' : TypeId) :
 ∃ z, (Builtin.len_ ts ty' vs).run P w = .ok z w ∧ RelA U w F β x z := by
 unfold lenAV at he
 split at he
 ·rename_i ht
  obtain ⟨_, _, _, k1, k4, _⟩ := ty_kind ht
  have := kind_str k4
  subst this
  obtain ⟨rfl, _⟩ := relC.1 hv
  simp only [Option.some.injEq, Prod.mk.injEq] at he
  obtain ⟨_, rfl⟩ := he
  exact ⟨_, by simp [Builtin.len_, ht0, hv0, run_underlying k1, goInt], relI.2 rfl⟩
 ·rename_i id _ l ht
  obtain ⟨_, _, _, k1, k4, _⟩ := ty_kind ht
  have := kind_sl k4
  subst this
  split at he
  ·simp at he
  ·rename_i hc
   simp only [Option.some.injEq, Prod.mk.injEq] at he
   obtain ⟨_, rfl⟩ := he
   obtain ⟨bd, hb, _⟩ := M.get hs (id := id) rfl hc
   simp only [RelA] at hv
   obtain ⟨a, c, rfl, _⟩ := hv.2.2 bd hb
   exact ⟨_, by simp [Builtin.len_, ht0, hv0, run_underlying k1, goInt], relI.2 rfl⟩
 ·rename_i ht _
  obtain ⟨_, _, _, k1, k4, _⟩ := ty_kind ht
  have := kind_sl k4
  subst this
  split at he
  ·rename_i sz xs hx
   simp only [Option.some.injEq, Prod.mk.injEq] at he
   obtain ⟨_, rfl⟩ := he
   obtain ⟨a, c, rfl, _⟩ := slOf_run M hs hx hv
   exact ⟨_, by simp [Builtin.len_, ht0, hv0, run_underlying k1, goInt], relI.2 rfl⟩
  ·simp at he
 ·rename_i ht
  obtain ⟨_, _, _, k1, k4, _⟩ := ty_kind ht
  have := kind_arr k4
  subst this
  simp only [Option.some.injEq, Prod.mk.injEq] at he
  obtain ⟨_, rfl⟩ := he
  exact ⟨_, by simp [Builtin.len_, ht0, hv0, run_underlying k1, goInt], relI.2 rfl⟩
 ·simp at he
theorem min_run {k : IntKind} : ∀ (xs : List AV) (x y : Int), minInts k x xs = some y → ∀ (vs : List Value), RelL U w F β xs vs → (vs.foldlM Builtin.min2 (.int k x)).run P w = .ok (.int k y) w
 | [], x, y, h, vs, hv => by
  simp only [RelL] at hv; subst hv
  simp only [minInts, Option.some.injEq] at h; subst h
  simp
 | a :: r, x, y, h, vs, hv => by
  unfold minInts at h
  split at h
  ·rename_i heq; simp at heq
  ·rename_i k' z r' heq
   simp only [List.cons.injEq] at heq
   obtain ⟨rfl, rfl⟩ := heq
   simp only [RelL] at hv
   obtain ⟨u, us, rfl, hu, hus⟩ := hv
   obtain ⟨rfl, _⟩ := relC.1 hu
   have := min_run r _ _ h us hus
   simp only [List.foldlM_cons, Builtin.min2, pure_bind]
   exact this
  ·simp at h
theorem max_run {k : IntKind} : ∀ (xs : List AV) (x y : Int), maxInts k x xs = some y → ∀ (vs : List Value), RelL U w F β xs vs → (vs.foldlM Builtin.max2 (.int k x)).run P w = .ok (.int k y) w
 | [], x, y, h, vs, hv => by
  simp only [RelL] at hv; subst hv
  simp only [maxInts, Option.some.injEq] at h; subst h
  simp
 | a :: r, x, y, h, vs, hv => by
  unfold maxInts at h
  split at h
  ·rename_i heq; simp at heq
  ·rename_i k' z r' heq
   simp only [List.cons.injEq] at heq
   obtain ⟨rfl, rfl⟩ := heq
   simp only [RelL] at hv
   obtain ⟨u, us, rfl, hu, hus⟩ := hv
   obtain ⟨rfl, _⟩ := relC.1 hu
   have := max_run r _ _ h us hus
   simp only [List.foldlM_cons, Builtin.max2, pure_bind]
   exact this
  ·simp at h
theorem nilCheck_run (M : MemOk W N U F β h w) (hs : ∀ id, hT id ≠ .dead → hT id = h id) {y : AV} (he : isPtr hT y = true) {v : Value} (hv : RelA U w F β y v) : (∃ a, v = .pointer (some a)) ∨ ∃ f a b, v = .func (.func f) a b := by
 unfold isPtr at he
 split at he
 ·rename_i id i o
  split at he
  ·simp at he
  ·rename_i hc
   obtain ⟨bd, hb, _⟩ := M.get hs (id := id) rfl hc
   simp only [RelA] at hv
   obtain ⟨g, _, rfl⟩ := hv.2.2 bd hb
   exact .inl ⟨_, rfl⟩
 ·simp only [RelA] at hv
  obtain ⟨b, p, rfl, _⟩ := hv
  exact .inl ⟨_, rfl⟩
 ·simp only [RelA] at hv
  obtain ⟨fs, cs, rfl, _⟩ := hv
  exact .inr ⟨_, _, _, rfl⟩
 ·simp at he
theorem map_rel {g : Operand → AV} {ev : Operand → Value} : ∀ l : List Operand, (∀ x ∈ l, RelA U w F β (g x) (ev x)) → RelL U w F β (l.map g) (l.map ev)
 | [], _ => by simp [RelL]
 | x :: r, G => by simp only [List.map_cons, RelL]; exact ⟨_, _, rfl, G x (by simp), map_rel r fun y hy => G y (by simp [hy])⟩
theorem opt_rel {g : Operand → AV} {ev : Operand → Value} (o : Option Operand) (G : ∀ x, o = some x → RelA U w F β (g x) (ev x)) : optRel U w F β (o.map g) (o.map ev) := by
 cases o with
 | none => simp [optRel]
 | some x => simpa [optRel] using G x rfl
theorem ex1_run (M : MemOk W N U F β h w) (hs : ∀ id, hT id ≠ .dead → hT id = h id) {g : Operand → AV} {ev : Operand → Value} {o : Oper} (G : ∀ x ∈ o.op.operands.toList, RelA U w F β (g x) (ev x)) {φ : Prop} {x : AV} (he : ex1 P g hT o.op = some (φ, x)) (hφ : φ) :
 ∃ z, (execOp ev o).run P w = .ok (.value z) w ∧ RelA U w F β x z := by
 unfold ex1 at he
 split at he
 ·rename_i y hop
  simp only [Option.some.injEq, Prod.mk.injEq] at he; obtain ⟨_, rfl⟩ := he
  exact ⟨ev y, by simp [execOp, hop], G y (by simp [hop, Op.operands, Call.operands])⟩
 ·rename_i y hop
  simp only [Option.some.injEq, Prod.mk.injEq] at he; obtain ⟨_, rfl⟩ := he
  exact ⟨ev y, by simp [execOp, hop], G y (by simp [hop, Op.operands, Call.operands])⟩
 ·rename_i c a b hop
  split at he
  ·rename_i t hc
   have hg := G c (by simp [hop, Op.operands, Call.operands])
   rw [hc] at hg
   refine ⟨if t then ev a else ev b, ?_, pick_run he hφ (G a (by simp [hop, Op.operands, Call.operands])) (G b (by simp [hop, Op.operands, Call.operands]))⟩
   simp [execOp, hop, (relB.1 hg), asBool]
  ·simp at he
 ·rename_i t a hop
  obtain ⟨z, h1, h2⟩ := load_run M hs he hφ (G a (by simp [hop, Op.operands, Call.operands]))
  exact ⟨z, by simp [execOp, hop, h1], h2⟩
 ·rename_i y hop
  split at he
  ·rename_i hp
   simp only [Option.some.injEq, Prod.mk.injEq] at he; obtain ⟨_, rfl⟩ := he
   refine ⟨ev y, ?_, G y (by simp [hop, Op.operands, Call.operands])⟩
   rcases nilCheck_run M hs hp (G y (by simp [hop, Op.operands, Call.operands])) with ⟨a, h1⟩ | ⟨f, a, b, h1⟩ <;> simp [execOp, hop, h1]
  ·simp at he
 ·rename_i op t y z _ hop
  obtain ⟨r, h1, h2⟩ := bin_run M hs he hφ (G y (by simp [hop, Op.operands, Call.operands])) (G z (by simp [hop, Op.operands, Call.operands])) y z
  refine ⟨r, ?_, h2⟩
  simp only [execOp, hop, Sem.run_bind, h1, Result.andThen_ok, Sem.run_pure]
 ·rename_i op _ y hop
  obtain ⟨r, h1, h2⟩ := un_run (P := P) he (G y (by simp [hop, Op.operands, Call.operands]))
  exact ⟨r, by simp [execOp, hop, h1], h2⟩
 ·rename_i a b y hop
  obtain ⟨r, h1, h2⟩ := conv_run (P := P) (w := w) he (G y (by simp [hop, Op.operands, Call.operands]))
  exact ⟨r, by simp [execOp, hop, h1], h2⟩
 ·rename_i t y hop
  split at he
  ·simp at he
  ·rename_i d hd hne
   obtain ⟨i, u, h1, h2, h3⟩ := ty_some hne
   simp only [Option.some.injEq, Prod.mk.injEq] at he; obtain ⟨_, rfl⟩ := he
   refine ⟨.iface t (ev y), ?_, by simp only [RelA]; exact ⟨_, rfl, G y (by simp [hop, Op.operands, Call.operands])⟩⟩
   cases u <;> first
    | (simp [execOp, hop, Instr.makeInterface, run_underlying h2]; done)
    | (exfalso; subst h3; exact hd _ _ _ _ rfl)
  ·simp at he
 ·rename_i f a c hop
  simp only [Option.some.injEq, Prod.mk.injEq] at he; obtain ⟨_, rfl⟩ := he
  refine ⟨.func f (a.map ev) (c.map ev), by simp [execOp, hop, Instr.makeFunc], ?_⟩
  simp only [RelA]
  exact ⟨_, _, rfl, by simpa using map_rel a.toList (fun x hx => G x (by simp [hop, Op.operands] at hx ⊢; exact .inl hx)), by simpa using map_rel c.toList (fun x hx => G x (by simp [hop, Op.operands] at hx ⊢; exact .inr hx))⟩
 ·rename_i t y lo hi hop
  obtain ⟨r, h1, h2⟩ := slice_run M hs he hφ (G y (by simp [hop, Op.operands, Call.operands])) (opt_rel lo (fun x hx => G x (by simp [hop, Op.operands, hx]))) (opt_rel hi (fun x hx => G x (by simp [hop, Op.operands, hx])))
  exact ⟨r, by simp [execOp, hop, h1], h2⟩
 ·rename_i s y f hop
  obtain ⟨r, h1, h2⟩ := fieldAddr_run M hs he (G y (by simp [hop, Op.operands, Call.operands]))
  exact ⟨r, by simp [execOp, hop, h1], h2⟩
 ·rename_i s y f hop
  obtain ⟨r, h1, h2⟩ := field_run he (G y (by simp [hop, Op.operands, Call.operands]))
  exact ⟨r, by simp [execOp, hop, h1], h2⟩
 ·rename_i t y i hop
  obtain ⟨r, h1, h2⟩ := indexAddr_run M hs he hφ (G y (by simp [hop, Op.operands, Call.operands])) (G i (by simp [hop, Op.operands, Call.operands]))
  exact ⟨r, by simp [execOp, hop, h1], h2⟩
 ·rename_i t y i hop
  obtain ⟨r, h1, h2⟩ := index_run he hφ (G y (by simp [hop, Op.operands, Call.operands])) (G i (by simp [hop, Op.operands, Call.operands]))
  exact ⟨r, by simp [execOp, hop, h1], h2⟩
 ·rename_i y i hop
  split at he
  ·rename_i xs hx
   split at he
   ·rename_i q hq
    simp only [Option.some.injEq, Prod.mk.injEq] at he; obtain ⟨_, rfl⟩ := he
    have hg := G y (by simp [hop, Op.operands, Call.operands])
    rw [hx] at hg
    simp only [RelA] at hg
    obtain ⟨vs, hvs, hr⟩ := hg
    obtain ⟨u, hu, hru⟩ := hr.at i q hq
    have hu' : vs[i]? = some u := by simpa using hu
    exact ⟨u, by simp [execOp, hop, Instr.extract, hvs, hu'], hru⟩
   ·simp at he
  ·simp at he
 ·rename_i args ts hop
  split at he
  ·rename_i t y ht hy
   obtain ⟨r, h1, h2⟩ := len_run M hs he (G y (by simp [hop, Op.operands, Call.operands]; exact Array.mem_of_getElem? hy)) ts ht (args.map ev) (by simp [hy]) o.type
   exact ⟨r, by simp [execOp, hop, resolve, invoke, builtin, h1], h2⟩
  ·simp at he
 ·rename_i args ts hop
  split at he
  ·rename_i k y r hl
   split at he
   ·rename_i q hq
    simp only [Option.some.injEq, Prod.mk.injEq] at he; obtain ⟨_, rfl⟩ := he
    have hr := map_rel (g := g) (ev := ev) args.toList (fun x hx => G x (by simp [hop, Op.operands, Call.operands] at hx ⊢; exact hx))
    rw [hl] at hr
    simp only [RelL] at hr
    obtain ⟨u, us, hus, hu, hrr⟩ := hr
    obtain ⟨rfl, _⟩ := relC.1 hu
    have hm := min_run (P := P) _ _ _ hq us hrr
    refine ⟨_, ?_, relI.2 rfl⟩
    have e : (args.map ev).toList = .int k y :: us := by simpa using hus
    simp [execOp, hop, resolve, invoke, builtin, Builtin.min_, hus, hm]
   ·simp at he
  ·simp at he
 ·rename_i args ts hop
  split at he
  ·rename_i k y r hl
   split at he
   ·rename_i q hq
    simp only [Option.some.injEq, Prod.mk.injEq] at he; obtain ⟨_, rfl⟩ := he
    have hr := map_rel (g := g) (ev := ev) args.toList (fun x hx => G x (by simp [hop, Op.operands, Call.operands] at hx ⊢; exact hx))
    rw [hl] at hr
    simp only [RelL] at hr
    obtain ⟨u, us, hus, hu, hrr⟩ := hr
    obtain ⟨rfl, _⟩ := relC.1 hu
    have hm := max_run (P := P) _ _ _ hq us hrr
    refine ⟨_, ?_, relI.2 rfl⟩
    simp [execOp, hop, resolve, invoke, builtin, Builtin.max_, hus, hm]
   ·simp at he
  ·simp at he
 ·simp at he
end
end Go.Proofs.Ytdkmndimmpilaaa
namespace Go.Proofs.Ytdkmndimmpilaaa
set_option linter.all false
open Go.RowKit
structure Eff where
 val : AV
 ups : List (Nat × Chunk)
 fresh : Nat
def toPV : AV → Option PV
 | .c p => some p
 | _ => none
def toPVs : List AV → Option (List PV)
 | [] => some []
 | x :: r => match toPV x, toPVs r with
  | some p, some ps => some (p :: ps)
  | _, _ => none
def splice {α : Type} (l : List α) (o : Nat) (ps : List α) : List α := l.take o ++ (ps ++ l.drop (o + ps.length))
def fillA (place : Nat → Option (Nat × Nat)) (cs : List AV) : List (Nat × AV) → Option (List AV)
 | [] => some cs
 | (i, x) :: r => match place i, cellsOf x with
  | some (o, n), some ys => if Nat.beq ys.length n && Nat.ble (o + n) cs.length then fillA place (splice cs o ys) r else none
  | _, _ => none
def plFs (fs : List (Option (Nat × Nat × Bool))) (i : Nat) : Option (Nat × Nat) :=
 match fs[i]? with
 | some (some (o, n, _)) => some (o, n)
 | _ => none
def buildAV (P : Program) (t : TypeId) (parts : List (Nat × AV)) : Option (Prop × AV) :=
 match ty P t with
 | some ⟨.st fs, _, _, _, z⟩ => if fs.all (·.isSome) && z.all (·.oneCell') && !z.isEmpty then match fillA (plFs fs) (z.map fun v => .c (.v v)) parts with
  | some cs => some (True, .agg cs)
  | none => none
  else none
 | some ⟨.arr _ e, _, _, _, z⟩ => match ty P e with
  | some d => if z.all (·.oneCell') && !z.isEmpty then match fillA (fun i => some (i * d.size, d.size)) (z.map fun v => .c (.v v)) parts with
   | some cs => some (True, .agg cs)
   | none => none
   else none
  | none => none
 | _ => none
def chunks {α : Type} (sz : Nat) : Nat → List α → List (List α)
 | 0, _ => []
 | n + 1, l => l.take sz :: chunks sz n (l.drop sz)
def sameO : Operand → Operand → Bool
 | .tmp a, .tmp b => Nat.beq a b
 | .const (.int _ a), .const (.int _ b) => decide (a = b)
 | _, _ => false
def makeAV (P : Program) (m : Nat) (t : TypeId) (same : Bool) (l c : AV) : Option (Prop × Eff) :=
 match ty P t, l, c with
 | some ⟨.sl e, _, _, _, _⟩, .c (.v (.int _ a)), .c (.v (.int _ b)) => match ty P e with
  | some d => if Nat.beq d.zero.length d.size && Nat.ble 1 d.size && d.zero.all (·.oneCell') then
   (if same then some (a = b ∧ 0 ≤ b ∧ (d.bytes : Int) * b ≤ 140737488355328 ∧ b ≤ 140737488355328, ⟨.own m, [(m, .row e d.size (List.replicate b.toNat (d.zero.map .v)))], 1⟩)
    else some (a = 0 ∧ 0 ≤ b ∧ (d.bytes : Int) * b ≤ 140737488355328 ∧ b ≤ 140737488355328, ⟨.own m, [(m, .row e d.size [])], 1⟩))
   else none
  | none => none
 | _, _, _ => none
def sliceLitAV (P : Program) (m : Nat) (t : TypeId) (len : Nat) (parts : List (Nat × AV)) : Option (Prop × Eff) :=
 match ty P t with
 | some ⟨.sl e, _, _, _, _⟩ => match ty P e with
  | some d => if Nat.beq d.zero.length d.size && Nat.ble 1 d.size && d.zero.all (·.oneCell') && Nat.ble (len * d.size) 16777216 then
   match fillA (fun i => some (i * d.size, d.size)) (List.replicate (len * d.size) (.c .undef)) parts with
   | some cs => match toPVs cs with
    | some ps => some (True, ⟨.own m, [(m, .row e d.size (chunks d.size len ps))], 1⟩)
    | none => none
   | none => none
   else none
  | none => none
 | _ => none
def storeAV (P : Program) (h : Nat → Chunk) (t : TypeId) (p x : AV) : Option (Prop × Eff) :=
 match ty P t, cellsOf x, p with
 | some d, some cs, .ptr id i o => if Nat.beq cs.length d.size then match h id with
  | .row e sz xs => match toPVs cs with
   | some ps => if Nat.beq o 0 && Nat.beq d.size sz then some (i < xs.length, ⟨.undef, [(id, .row e sz (xs.set i ps))], 0⟩)
    else if Nat.ble (o + d.size) sz then some (i < xs.length, ⟨.undef, [(id, .row e sz (xs.set i (splice (xs.getD i []) o ps)))], 0⟩) else none
   | none => none
  | .blk t' bs => if Nat.ble (o + d.size) bs.length then some (i = 0, ⟨.undef, [(id, .blk t' (splice bs o cs))], 0⟩) else none
  | _ => none
  else none
 | _, _, _ => none
def rowOf (h : Nat → Chunk) (sz : Nat) (e : TypeId) : AV → Option (List (Nat × Chunk) × List (List PV))
 | .own id => match h id with
  | .row e' sz' xs => if Nat.beq e e' && Nat.beq sz sz' then some ([(id, .dead)], xs) else none
  | _ => none
 | .view id 0 l => match h id with
  | .row e' sz' xs => if Nat.beq e e' && Nat.beq sz sz' then some ([(id, .dead)], xs.take l) else none
  | _ => none
 | .c (.v (.slice none 0 0)) => some ([], [])
 | _ => none
def appAV (P : Program) (h : Nat → Chunk) (m : Nat) (t : TypeId) (s x : AV) : Option (Prop × Eff) :=
 match ty P t with
 | some ⟨.sl e, _, _, _, _⟩ => match ty P e with
  | some d => if Nat.beq d.zero.length d.size && Nat.ble 1 d.size && Nat.ble 1 d.bytes then match rowOf h d.size e s, slOf h x with
   | some (ks, xs), some (sz, ys) => some ((sz = d.size ∨ ys = []) ∧ (xs.length + ys.length) * d.bytes ≤ 140737488355328, ⟨.own m, ks ++ [(m, .row e d.size (xs ++ ys))], 1⟩)
   | _, _ => none
   else none
  | none => none
 | _ => none
def ex2 (P : Program) (g : Operand → AV) (h : Nat → Chunk) (m : Nat) : Op → Option (Prop × Eff)
 | .alloc e => match ty P e with
  | some d => if Nat.beq d.zero.length d.size && Nat.ble 1 d.size && d.zero.all (·.oneCell') then some (True, ⟨.ptr m 0 0, [(m, .blk e (d.zero.map fun v => .c (.v v)))], 1⟩) else none
  | none => none
 | .box e x => match cellsOf (g x) with
  | some cs => some (True, ⟨.ptr m 0 0, [(m, .blk e cs)], 1⟩)
  | none => none
 | .build t parts => match buildAV P t (parts.toList.map fun p => (p.1, g p.2)) with
  | some (φ, x) => some (φ, ⟨x, [], 0⟩)
  | none => none
 | .buildSlice t len parts => sliceLitAV P m t len (parts.toList.map fun p => (p.1, g p.2))
 | .makeSlice t l c => makeAV P m t (sameO l c) (g l) (g c)
 | .store t a x => storeAV P h t (g a) (g x)
 | .call ⟨.builtin .append, args, ts⟩ => match args.toList, ts.toList with
  | [s, x], [t, t'] => if Nat.beq t t' then appAV P h m t (g s) (g x) else none
  | _, _ => none
 | op => match ex1 P g h op with
  | some (φ, x) => some (φ, ⟨x, [], 0⟩)
  | none => none
theorem MemOk.step {W : World} {N U F U' F' : Nat → Prop} {β β' : Nat → Option Bind} {h h' : Nat → Chunk} {w w' : World} (M : MemOk W N U F β h w) (T : Nat → Prop)
 (hβ : ∀ i, ¬ T i → β' i = β i) (hh : ∀ i, ¬ T i → h' i = h i) (hos : w'.os = w.os) (htp : w'.tape = w.tape) (hout : w'.output = w.output) (hsz : w.heap.size ≤ w'.heap.size)
 (hblk : ∀ b, b < w.heap.size → (∀ i bd, T i → β i = some bd → ¬ bd.has b) → w'.heap[b]? = w.heap[b]?)
 (hU : ∀ i, U i → U' i) (hF : ∀ b, F b → F' b) (hF' : ∀ b, F' b → b < w'.heap.size ∧ (F b ∨ w.heap.size ≤ b ∨ ∃ j bd, T j ∧ β j = some bd ∧ bd.has b))
 (hold : ∀ i bd, T i → U i → β' i = some bd → ∃ bs, β i = some ⟨bd.v, bd.b, bd.n, bd.sz, bs⟩)
 (hnew : ∀ i bd, T i → β' i = some bd → U' i ∧ ∀ b, bd.has b → b < w'.heap.size ∧ ¬ F' b ∧ (w.heap.size ≤ b ∨ ∃ j bd0, T j ∧ β j = some bd0 ∧ bd0.has b))
 (hdis : ∀ i j bi bj b, T i → T j → β' i = some bi → β' j = some bj → bi.has b → bj.has b → i = j)
 (hch : Ext U F β w U' F' β' w' → ∀ i, T i → h' i ≠ .dead → ∃ bd, β' i = some bd ∧ ChOk U' w' F' β' bd (h' i)) :
 MemOk W N U' F' β' h' w' ∧ Ext U F β w U' F' β' w' := by
 have E : Ext U F β w U' F' β' w' := by
  refine ⟨hU, fun b hb => ⟨hF b hb, hblk b (M.fin b hb) fun i bd _ hi hbb => (M.off i bd b hi hbb).1 hb⟩, fun i bd hi hb => ?_⟩
  rcases Classical.em (T i) with ht | ht
  ·exact hold i bd ht hi hb
  ·exact ⟨bd.bs, by rw [← hβ i ht]; exact hb⟩
 refine ⟨⟨Nat.le_trans M.size hsz, hos.trans M.os, htp.trans M.tape, hout.trans M.output, ?_, fun b hb => (hF' b hb).1, ?_, ?_, ?_, ?_⟩, E⟩
 ·intro b hb hN
  rw [hblk b (Nat.lt_of_lt_of_le hb M.size) fun i bd ht hi hbb => ?_]
  ·exact M.frame b hb hN
  ·rcases (M.off i bd b hi hbb).2.2 with h1 | h1
   ·omega
   ·exact hN h1
 ·intro i bd hb
  rcases Classical.em (T i) with ht | ht
  ·exact (hnew i bd ht hb).1
  ·rw [hβ i ht] at hb; exact hU i (M.used i bd hb)
 ·intro i hd
  rcases Classical.em (T i) with ht | ht
  ·exact hch E i ht hd
  ·rw [hh i ht] at hd ⊢
   obtain ⟨bd, hb, hc⟩ := M.ch i hd
   refine ⟨bd, by rw [hβ i ht]; exact hb, hc.mono E fun g hg => hblk g (M.off i bd g hb hg).2.1 fun j bj hj hbj hbb => ?_⟩
   exact ht (M.dis i j bd bj g hb hbj hg hbb ▸ hj)
 ·intro i j bi bj b hi hj hbi hbj
  have mix : ∀ i j bi bj, ¬ T i → T j → β' i = some bi → β' j = some bj → bi.has b → bj.has b → False := by
   intro i j bi bj ht hj hi hbj hbi hb2
   rw [hβ i ht] at hi
   rcases (hnew j bj hj hbj).2 b hb2 with ⟨_, _, h1 | ⟨k, bk, hk, hbk, hbb⟩⟩
   ·have := (M.off i bi b hi hbi).2.1; omega
   ·exact ht (M.dis i k bi bk b hi hbk hbi hbb ▸ hk)
  rcases Classical.em (T i) with ht | ht <;> rcases Classical.em (T j) with hs | hs
  ·exact hdis i j bi bj b ht hs hi hj hbi hbj
  ·exact (mix j i bj bi hs ht hj hi hbj hbi).elim
  ·exact (mix i j bi bj ht hs hi hj hbi hbj).elim
  ·rw [hβ i ht] at hi; rw [hβ j hs] at hj; exact M.dis i j bi bj b hi hj hbi hbj
 ·intro i bd b hi hb
  rcases Classical.em (T i) with ht | ht
  ·obtain ⟨h1, h2, h3⟩ := (hnew i bd ht hi).2 b hb
   refine ⟨h2, h1, ?_⟩
   rcases h3 with h3 | ⟨j, bj, hj, hbj, hbb⟩
   ·exact .inl (Nat.le_trans M.size h3)
   ·exact (M.off j bj b hbj hbb).2.2
  ·rw [hβ i ht] at hi
   obtain ⟨h1, h2, h3⟩ := M.off i bd b hi hb
   refine ⟨fun hf => ?_, Nat.lt_of_lt_of_le h2 hsz, h3⟩
   rcases (hF' b hf).2 with h4 | h4 | ⟨j, bj, hj, hbj, hbb⟩
   ·exact h1 h4
   ·omega
   ·exact ht (M.dis i j bd bj b hi hbj hb hbb ▸ hj)
def updB (β : Nat → Option Bind) (i : Nat) (x : Option Bind) (j : Nat) : Option Bind := if i = j then x else β j
def StepTo (W : World) (N U F : Nat → Prop) (β : Nat → Option Bind) (h : Nat → Chunk) (w : World) (m : Nat) (e : Eff) (v : Value) (w' : World) : Prop :=
 ∃ F' β', MemOk W N (fun i => U i ∨ (m ≤ i ∧ i < m + e.fresh)) F' β' (upd h e.ups) w' ∧ Ext U F β w (fun i => U i ∨ (m ≤ i ∧ i < m + e.fresh)) F' β' w' ∧ RelA (fun i => U i ∨ (m ≤ i ∧ i < m + e.fresh)) w' F' β' e.val v ∧ ∀ b, F' b → F b ∨ W.heap.size ≤ b ∨ N b
section
variable {P : Program} {W : World} {N U F : Nat → Prop} {β : Nat → Option Bind} {h hT : Nat → Chunk} {w : World}
theorem step_pure (M : MemOk W N U F β h w) (m : Nat) {x : AV} {v : Value} (hx : RelA U w F β x v) : StepTo W N U F β h w m ⟨x, [], 0⟩ v w := by
 have e : (fun i => U i ∨ (m ≤ i ∧ i < m + 0)) = U := by
  funext i; apply propext; constructor
  ·rintro (h | h)
   ·exact h
   ·omega
  ·exact .inl
 refine ⟨F, β, ?_, ?_, ?_, fun b hb => .inl hb⟩
 ·simp only [e]; exact M
 ·simp only [e]; exact Ext.refl _ _ _ _
 ·simp only [e]; exact hx
theorem step_new (M : MemOk W N U F β h w) {m : Nat} (hm : ¬ U m) (o : Obj) {x : AV} {v : Value} {c : Chunk} (bd : Bind) (hbd : bd.b = some w.heap.size)
 (hc : Ext U F β w (fun i => U i ∨ (m ≤ i ∧ i < m + 1)) F (updB β m (some bd)) (w.alloc o) → ChOk (fun i => U i ∨ (m ≤ i ∧ i < m + 1)) (w.alloc o) F (updB β m (some bd)) bd c)
 (hx : RelA (fun i => U i ∨ (m ≤ i ∧ i < m + 1)) (w.alloc o) F (updB β m (some bd)) x v) (hbs : bd.bs = [] := by rfl) : StepTo W N U F β h w m ⟨x, [(m, c)], 1⟩ v (w.alloc o) := by
 have hb0 : β m = none := by
  cases hb : β m with
  | none => rfl
  | some b => exact (hm (M.used m b hb)).elim
 have hsz : (w.alloc o).heap.size = w.heap.size + 1 := by show (w.heap.push o).size = _; simp
 obtain ⟨h1, h2⟩ := M.step (w' := w.alloc o) (h' := upd h [(m, c)]) (β' := updB β m (some bd)) (F' := F) (U' := fun i => U i ∨ (m ≤ i ∧ i < m + 1)) (fun i => i = m)
  (fun i hi => by simp [updB, Ne.symm hi]) (fun i hi => by simp [upd, Ne.symm hi]) rfl rfl rfl (by omega) (fun b hb _ => heap_alloc_old w o hb)
  (fun i hi => .inl hi) (fun b hb => hb) (fun b hb => ⟨by have := M.fin b hb; omega, .inl hb⟩)
  (fun i bd' hi hu => by subst hi; exact (hm hu).elim)
  (fun i bd' hi hb => by
   subst hi
   simp only [updB, if_true, Option.some.injEq] at hb
   subst hb
   refine ⟨.inr ⟨Nat.le_refl _, by omega⟩, fun b hb => ?_⟩
   have hb : bd.b = some b := by
    rcases hb with hb | hb
    ·exact hb
    ·rw [hbs] at hb; cases hb
   rw [hbd] at hb; cases hb
   exact ⟨by omega, fun hf => by have := M.fin _ hf; omega, .inl (Nat.le_refl _)⟩)
  (fun i j _ _ _ hi hj _ _ _ _ => by rw [hi, hj])
  (fun E i hi _ => by
   subst hi
   exact ⟨bd, by simp [updB], by simpa [upd] using hc E⟩)
 exact ⟨F, updB β m (some bd), h1, h2, hx, fun b hb => .inl hb⟩
theorem step_set (M : MemOk W N U F β h w) (m : Nat) {id : Nat} {bd : Bind} (hid : β id = some bd) {g : Nat} (hg : bd.b = some g) {w' : World} (hos : w'.os = w.os) (htp : w'.tape = w.tape) (hout : w'.output = w.output) (hsz : w'.heap.size = w.heap.size)
 (hblk : ∀ b, b ≠ g → w'.heap[b]? = w.heap[b]?) {c : Chunk} (hc : Ext U F β w U F β w' → ChOk U w' F β bd c) (v : Value) : StepTo W N U F β h w m ⟨.undef, [(id, c)], 0⟩ v w' := by
 have e : (fun i => U i ∨ (m ≤ i ∧ i < m + 0)) = U := by
  funext i; apply propext; constructor
  ·rintro (h | h)
   ·exact h
   ·omega
  ·exact .inl
 obtain ⟨h1, h2⟩ := M.step (w' := w') (h' := upd h [(id, c)]) (β' := β) (F' := F) (U' := U) (fun i => i = id)
  (fun i hi => rfl) (fun i hi => by simp [upd, Ne.symm hi]) hos htp hout (by omega)
  (fun b hb hn => hblk b fun hbg => hn id bd rfl hid (by rw [hbg]; exact .inl hg))
  (fun i hi => hi) (fun b hb => hb) (fun b hb => ⟨by have := M.fin b hb; omega, .inl hb⟩)
  (fun i bd' hi hu hb => ⟨_, hb⟩)
  (fun i bd' hi hb => by
   subst hi
   refine ⟨M.used _ _ hb, fun b hbb => ?_⟩
   have := M.off _ _ _ hb hbb
   exact ⟨by omega, this.1, .inr ⟨i, bd', rfl, hb, hbb⟩⟩)
  (fun i j _ _ _ hi hj _ _ _ _ => by rw [hi, hj])
  (fun E i hi _ => by
   subst hi
   exact ⟨bd, hid, by simpa [upd] using hc E⟩)
 refine ⟨F, β, ?_, ?_, ?_, fun b hb => .inl hb⟩
 ·simp only [e]; exact h1
 ·simp only [e]; exact h2
 ·simp only [RelA]
end
end Go.Proofs.Ytdkmndimmpilaaa
namespace Go.Proofs.Ytdkmndimmpilaaa
set_option linter.all false
open Go.RowKit
section
variable {P : Program} {W : World} {N U F : Nat → Prop} {β : Nat → Option Bind} {h hT : Nat → Chunk} {w : World}
theorem cellsOf_run {x : AV} {cs : List AV} (he : cellsOf x = some cs) {v : Value} (hv : RelA U w F β x v) : RelL U w F β cs v.cells.toList ∧ ∀ u ∈ v.cells.toList, u.oneCell' = true := by
 have one : v.oneCell' = true → RelL U w F β [x] v.cells.toList ∧ ∀ u ∈ v.cells.toList, u.oneCell' = true := by
  intro h1
  have e : v.cells = #[v] := by cases v <;> first | rfl | simp [Value.oneCell'] at h1
  rw [e]
  simp only [RelL]
  exact ⟨⟨v, [], rfl, hv, rfl⟩, by simpa using h1⟩
 unfold cellsOf at he
 split at he
 ·simp only [Option.some.injEq] at he; subst he
  simp only [RelA] at hv
  obtain ⟨vs, rfl, h1, h2⟩ := hv
  exact ⟨h1, h2⟩
 ·simp at he
 ·simp at he
 ·simp at he
 ·rename_i x' h1 h2 h3 h4
  simp only [Option.some.injEq] at he; subst he
  apply one
  cases x with
  | c p => simp only [RelA] at hv; exact hv.one
  | own id => simp only [RelA] at hv; exact hv.2.1
  | view id o l => simp only [RelA] at hv; exact hv.2.1
  | ptr id i o => simp only [RelA] at hv; exact hv.2.1
  | map id => simp only [RelA] at hv; exact hv.2.1
  | fel sz xs i o => simp only [RelA] at hv; obtain ⟨b, p, rfl, _⟩ := hv; rfl
  | clo f a b => simp only [RelA] at hv; obtain ⟨fs, cs, rfl, _⟩ := hv; rfl
  | ifc t y => simp only [RelA] at hv; obtain ⟨y, rfl, _⟩ := hv; rfl
  | undef => exact (h3 rfl).elim
  | agg xs => exact (h1 _ rfl).elim
  | tup xs => exact (h2 _ rfl).elim
  | opt t y => exact (h4 _ _ rfl).elim
theorem toPVs_run : ∀ {cs : List AV} {ps : List PV}, toPVs cs = some ps → cs = ps.map .c
 | [], ps, h => by simp only [toPVs, Option.some.injEq] at h; subst h; rfl
 | x :: r, ps, h => by
  unfold toPVs at h
  split at h
  ·rename_i p qs h1 h2
   simp only [Option.some.injEq] at h; subst h
   have := toPVs_run h2
   cases x <;> simp [toPV] at h1
   subst h1
   simp [← this]
  ·simp at h
theorem relL_map {ps : List PV} {vs : List Value} (h : RelL U w F β (ps.map .c) vs) (j : Nat) (p : PV) (hp : ps[j]? = some p) : ∃ u, vs[j]? = some u ∧ RelP w F p u := by
 obtain ⟨u, h1, h2⟩ := h.at j (.c p) (by simp [hp])
 exact ⟨u, h1, by simpa only [RelA] using h2⟩
theorem splice_len {α : Type} (l : List α) (o : Nat) (ps : List α) (h : o + ps.length ≤ l.length) : (splice l o ps).length = l.length := by
 simp [splice]; omega
theorem splice_get {α : Type} (l : List α) (o : Nat) (ps : List α) (h : o + ps.length ≤ l.length) (j : Nat) : (splice l o ps)[j]? = if o ≤ j ∧ j < o + ps.length then ps[j - o]? else l[j]? := by
 unfold splice
 by_cases h1 : j < o
 ·rw [List.getElem?_append_left (by simp; omega), List.getElem?_take, if_pos h1, if_neg (by omega)]
 ·rw [List.getElem?_append_right (by simp; omega)]
  simp only [List.length_take]
  rw [show min o l.length = o from by omega]
  by_cases h2 : j < o + ps.length
  ·rw [List.getElem?_append_left (by omega), if_pos (by omega)]
  ·rw [List.getElem?_append_right (by omega), if_neg (by omega), List.getElem?_drop]
   congr 1; omega
theorem relL_splice {xs ys : List AV} {us vs : List Value} (h1 : RelL U w F β xs us) (h2 : RelL U w F β ys vs) (o : Nat) : RelL U w F β (splice xs o ys) (splice us o vs) := by
 unfold splice
 rw [h2.len]
 exact (h1.take o).append (h2.append (h1.drop _))
theorem fold_splice : ∀ (l : List Value) (k o : Nat) (cs : Array Value), o + k + l.length ≤ cs.size → ((l.zipIdx k).foldl (fun cs (c, j) => cs.setIfInBounds (o + j) c) cs).toList = splice cs.toList (o + k) l
 | [], k, o, cs, _ => by simp [splice]
 | x :: l, k, o, cs, hl => by
  simp only [List.zipIdx_cons, List.foldl_cons]
  have ih := fold_splice l (k + 1) o (cs.setIfInBounds (o + k) x) (by simp at hl ⊢; omega)
  rw [ih]
  simp only [List.length_cons] at hl
  apply List.ext_getElem?
  intro j
  have hcl : cs.toList.length = cs.size := by simp
  rw [splice_get _ _ _ (by simp; omega), splice_get _ _ _ (by simp; omega), Array.toList_setIfInBounds, List.getElem?_set]
  simp only [List.length_cons, hcl]
  by_cases h1 : j = o + k
  ·subst h1
   rw [if_neg (by omega), if_pos rfl, if_pos (by omega), if_pos (by omega), Nat.sub_self]; rfl
  ·by_cases h2 : o + k ≤ j ∧ j < o + k + (l.length + 1)
   ·rw [if_pos (by omega), if_pos h2, show j - (o + k) = (j - (o + (k + 1))) + 1 from by omega, List.getElem?_cons_succ]
   ·rw [if_neg (by omega), if_neg (by omega), if_neg (by omega)]
theorem fill_run {place place' : Nat → Option (Nat × Nat)} (hpp : ∀ i x, place i = some x → place' i = some x) : ∀ (parts : List (Nat × AV)) (ps : List (Nat × Value)) (cs : List AV) (cs' : List AV) (us : Array Value), fillA place cs parts = some cs' → ps.length = parts.length →
 (∀ (i : Nat) (a : Nat × AV) (b : Nat × Value), parts[i]? = some a → ps[i]? = some b → a.1 = b.1 ∧ RelA U w F β a.2 b.2) → RelL U w F β cs us.toList → (∀ u ∈ us.toList, u.oneCell' = true) →
 ∃ us', Instr.fill place' us ps = some us' ∧ RelL U w F β cs' us'.toList ∧ (∀ u ∈ us'.toList, u.oneCell' = true)
 | [], ps, cs, cs', us, h, hl, _, hr, h1 => by
  obtain rfl : ps = [] := List.eq_nil_of_length_eq_zero hl
  simp only [fillA, Option.some.injEq] at h; subst h
  exact ⟨us, rfl, hr, h1⟩
 | (i, x) :: r, [], _, _, _, _, hl, _, _, _ => by simp at hl
 | (i, x) :: r, (i', v) :: ps, cs, cs', us, h, hl, hp, hr, h1 => by
  obtain ⟨h2, h3⟩ := hp 0 _ _ rfl rfl
  simp only at h2 h3
  subst h2
  unfold fillA at h
  split at h
  ·rename_i o n ys hpl hys
   split at h
   ·rename_i hc
    simp only [Bool.and_eq_true] at hc
    have hn := Nat.eq_of_beq_eq_true hc.1
    have hle := Nat.le_of_ble_eq_true hc.2
    obtain ⟨k1, k2⟩ := cellsOf_run hys h3
    have kl := k1.len
    have hul := hr.len
    have hcs : v.cells.size = n := by simpa [hn] using kl
    have hus : us.size = cs.length := by simpa using hul
    have hf := fold_splice v.cells.toList 0 o us (by simp; omega)
    simp only [Nat.add_zero] at hf
    have hx : ∀ u ∈ splice us.toList o v.cells.toList, u.oneCell' = true := by
     intro u hu
     unfold splice at hu
     rcases List.mem_append.1 hu with hu | hu
     ·exact h1 u (List.mem_of_mem_take hu)
     ·rcases List.mem_append.1 hu with hu | hu
      ·exact k2 u hu
      ·exact h1 u (List.mem_of_mem_drop hu)
    obtain ⟨us', e1, e2, e3⟩ := fill_run hpp r ps _ cs' (v.cells.zipIdx.foldl (fun cs (c, j) => cs.setIfInBounds (o + j) c) us) h (by simpa using hl) (fun i a b ha hb => hp (i + 1) a b ha hb)
     (by rw [← Array.foldl_toList, Array.toList_zipIdx, hf]; exact relL_splice hr k1 o) (by rw [← Array.foldl_toList, Array.toList_zipIdx, hf]; exact hx)
    refine ⟨us', ?_, e2, e3⟩
    unfold Instr.fill
    simp only [hpp _ _ hpl]
    rw [if_neg (by rw [hcs]; simp; omega)]
    exact e1
   ·simp at h
  ·simp at h
theorem parts_rel {g : Operand → AV} {ev : Operand → Value} (parts : Array (Nat × Operand)) (G : ∀ p ∈ parts.toList, RelA U w F β (g p.2) (ev p.2)) : ∀ (i : Nat) (a : Nat × AV) (b : Nat × Value), (parts.toList.map fun p => (p.1, g p.2))[i]? = some a → (parts.map fun (i, x) => (i, ev x)).toList[i]? = some b → a.1 = b.1 ∧ RelA U w F β a.2 b.2 := by
 intro i a b ha hb
 rw [Array.toList_map, List.getElem?_map] at hb
 rw [List.getElem?_map] at ha
 cases hp : parts.toList[i]? with
 | none => rw [hp] at ha; simp at ha
 | some p =>
  rw [hp] at ha hb
  simp only [Option.map_some, Option.some.injEq] at ha hb
  subst ha hb
  exact ⟨rfl, G p (List.mem_of_getElem? hp)⟩
theorem zero_rel {z : List Value} (hz : z.all (·.oneCell') = true) : RelL U w F β (z.map fun v => .c (.v v)) z := by
 refine RelL.of (by simp) fun i x u hx hu => ?_
 rw [List.getElem?_map, hu] at hx
 simp only [Option.map_some, Option.some.injEq] at hx
 subst hx
 exact relC.2 ⟨rfl, List.all_eq_true.1 hz u (List.mem_of_getElem? hu)⟩
theorem places_run (w : World) : ∀ (fs : List Field), (fs.map (fieldTD P)).all (·.isSome) = true → ∃ ps : List (Nat × Nat), (fs.mapM fun f => (do pure (f.offset, ← sizeOf f.type) : Sem (Nat × Nat))).run P w = .ok ps w ∧ ∀ i o n, plFs (fs.map (fieldTD P)) i = some (o, n) → ps[i]? = some (o, n)
 | [], _ => ⟨[], by simp, fun i o n h => by simp [plFs] at h⟩
 | f :: fs, h => by
  simp only [List.map_cons, List.all_cons, Bool.and_eq_true] at h
  obtain ⟨ps, h1, h2⟩ := places_run w fs h.2
  obtain ⟨⟨o, n, a⟩, ho⟩ := Option.isSome_iff_exists.1 h.1
  obtain ⟨fd, i, d, k1, k2, k3, k4, k5, k6⟩ := field_some (fs := #[f]) (f := 0) (o := o) (n := n) (a := a) (by simpa using ho)
  simp at k1
  subst k1
  refine ⟨(f.offset, i.size) :: ps, ?_, ?_⟩
  ·simp only [List.mapM_cons, Sem.run_bind, run_sizeOf' k3, Result.andThen_ok, Sem.run_pure, h1]
  ·intro j o' n' hj
   cases j with
   | zero =>
    simp only [plFs, List.map_cons, List.getElem?_cons_zero, ho] at hj
    simp at hj
    simp [k2, k4, hj]
   | succ j => exact h2 j o' n' (by simpa [plFs] using hj)
theorem build_run {g : Operand → AV} {ev : Operand → Value} {t : TypeId} {parts : Array (Nat × Operand)} (G : ∀ p ∈ parts.toList, RelA U w F β (g p.2) (ev p.2)) {φ : Prop} {x : AV} (he : buildAV P t (parts.toList.map fun p => (p.1, g p.2)) = some (φ, x)) :
 ∃ z, (Instr.build t (parts.map fun (i, x) => (i, ev x))).run P w = .ok z w ∧ RelA U w F β x z := by
 unfold buildAV at he
 split at he
 ·rename_i fs _ _ _ z ht
  obtain ⟨i, u, h1, h2, h3⟩ := ty_some ht
  simp only [TD.mk.injEq] at h3
  obtain ⟨fs', rfl, rfl⟩ := kind_st h3.1.symm
  have hz := h3.2.2.2.2
  split at he
  ·rename_i hc
   simp only [Bool.and_eq_true] at hc
   cases hiz : i.zero with
   | none => rw [hiz] at hz; simp [hz] at hc
   | some zv =>
    rw [hiz] at hz
    subst hz
    split at he
    ·rename_i cs hf
     simp only [Option.some.injEq, Prod.mk.injEq] at he
     obtain ⟨_, rfl⟩ := he
     obtain ⟨pl, hpl, hpl2⟩ := places_run (P := P) w fs'.toList hc.1.1
     obtain ⟨us', e1, e2, e3⟩ := fill_run (place' := (pl.toArray[·]?)) (fun i q hq => by simpa using hpl2 i q.1 q.2 hq) _ (parts.map fun (i, x) => (i, ev x)).toList _ _ zv.cells hf (by simp) (parts_rel parts G) (zero_rel hc.1.2) (fun u hu => List.all_eq_true.1 hc.1.2 u hu)
     refine ⟨.agg us', ?_, by simp only [RelA]; exact ⟨_, rfl, e2, e3⟩⟩
     have hm : (fs'.mapM fun f => (do pure (f.offset, ← sizeOf f.type) : Sem (Nat × Nat))).run P w = .ok pl.toArray w := by
      rw [Array.mapM_eq_mapM_toList]
      simp only [Sem.run_map, hpl, Result.andThen_ok]
     simp only [Instr.build, Sem.run_bind, run_zero' h1 hiz, Result.andThen_ok, run_underlying h2, hm, e1, Sem.run_pure]
    ·simp at he
  ·simp at he
 ·rename_i n e _ _ _ z ht
  obtain ⟨i, u, h1, h2, h3⟩ := ty_some ht
  simp only [TD.mk.injEq] at h3
  have := kind_arr h3.1.symm
  subst this
  have hz := h3.2.2.2.2
  split at he
  ·rename_i d hd
   obtain ⟨j, de, e1, _, _, _, e5, _⟩ := ty_d hd
   split at he
   ·rename_i hc
    simp only [Bool.and_eq_true] at hc
    cases hiz : i.zero with
    | none => rw [hiz] at hz; simp [hz] at hc
    | some zv =>
     rw [hiz] at hz
     subst hz
     split at he
     ·rename_i cs hf
      simp only [Option.some.injEq, Prod.mk.injEq] at he
      obtain ⟨_, rfl⟩ := he
      obtain ⟨us', k1, k2, k3⟩ := fill_run (place' := fun i => some (i * d.size, d.size)) (fun i q hq => hq) _ (parts.map fun (i, x) => (i, ev x)).toList _ _ zv.cells hf (by simp) (parts_rel parts G) (zero_rel hc.1) (fun u hu => List.all_eq_true.1 hc.1 u hu)
      refine ⟨.agg us', ?_, by simp only [RelA]; exact ⟨_, rfl, k2, k3⟩⟩
      simp only [Instr.build, Sem.run_bind, run_zero' h1 hiz, Result.andThen_ok, run_underlying h2, run_sizeOf' e1, e5, k1, Sem.run_pure]
     ·simp at he
   ·simp at he
  ·simp at he
 ·simp at he
theorem chunks_at {α : Type} (sz : Nat) : ∀ (n : Nat) (l : List α), l.length = n * sz → ∀ i cs, (chunks sz n l)[i]? = some cs → cs.length = sz ∧ ∀ j, j < sz → cs[j]? = l[i * sz + j]?
 | 0, l, _, i, cs, h => by simp [chunks] at h
 | n + 1, l, hl, i, cs, h => by
  rw [Nat.add_mul] at hl
  cases i with
  | zero =>
   simp only [chunks, List.getElem?_cons_zero, Option.some.injEq] at h
   subst h
   refine ⟨by simp; omega, fun j hj => ?_⟩
   rw [List.getElem?_take, if_pos hj]; simp
  | succ i =>
   simp only [chunks, List.getElem?_cons_succ] at h
   obtain ⟨h1, h2⟩ := chunks_at sz n (l.drop sz) (by simp; omega) i cs h
   refine ⟨h1, fun j hj => ?_⟩
   rw [h2 j hj, List.getElem?_drop]
   congr 1
   rw [Nat.add_mul]; omega
theorem chunks_len {α : Type} (sz : Nat) : ∀ (n : Nat) (l : List α), (chunks sz n l).length = n
 | 0, _ => rfl
 | n + 1, l => by simp [chunks, chunks_len sz n]
theorem relE_chunks {w' : World} {F' : Nat → Prop} {b sz n : Nat} {ps : List PV} (hl : ps.length = n * sz) (h : ∀ j p, ps[j]? = some p → ∃ u, w'.cell? ⟨b, j, none⟩ = some u ∧ RelP w' F' p u) : RelE w' F' b sz 0 (chunks sz n ps) := by
 refine RelE.of fun i cs hi => ?_
 obtain ⟨h1, h2⟩ := chunks_at sz n ps hl i cs hi
 refine ⟨h1, RelC.of fun j x hx => ?_⟩
 have hj : j < sz := by rw [← h1]; exact (List.getElem?_eq_some_iff.1 hx).1
 obtain ⟨u, k1, k2⟩ := h (i * sz + j) x (by rw [← h2 j hj]; exact hx)
 exact ⟨u, by simpa using k1, k2⟩
theorem cell_new (w : World) (cs : Array Value) (t : TypeId) (j : Nat) : (w.alloc (.cells cs t)).cell? ⟨w.heap.size, j, none⟩ = cs[j]? := by
 unfold World.cell?
 simp only [heap_alloc_new]
 rfl
def nv : Next → Value
 | .value v => v
 | _ => undef
def isVal : Next → Bool
 | .value _ | .skip => true
 | _ => false
theorem blk_new (M : MemOk W N U F β h w) {m : Nat} (hm : ¬ U m) (t : TypeId) {cs : List AV} {vs : Array Value} (h1 : RelL U w F β cs vs.toList) (h2 : ∀ u ∈ vs.toList, u.oneCell' = true) :
 StepTo W N U F β h w m ⟨.ptr m 0 0, [(m, .blk t cs)], 1⟩ (.pointer (some ⟨w.heap.size, 0, none⟩)) (w.alloc (.cells vs t)) := by
 refine step_new M hm (.cells vs t) ⟨.pointer (some ⟨w.heap.size, 0, none⟩), some w.heap.size, 1, cs.length, []⟩ rfl (fun E => ?_) ?_
 ·exact ⟨⟨rfl, rfl⟩, rfl, w.heap.size, vs, rfl, rfl, heap_alloc_new w _, RelL.mono E _ _ h1, h2⟩
 ·simp only [RelA]
  refine ⟨.inr ⟨Nat.le_refl _, by omega⟩, rfl, fun bd hb => ?_⟩
  simp only [updB, if_true, Option.some.injEq] at hb
  subst hb
  exact ⟨_, rfl, by simp⟩
theorem row_new (M : MemOk W N U F β h w) {m : Nat} (hm : ¬ U m) (e sz cap : Nat) {xs : List (List PV)} {cur : Array Value} (hx : ∀ cs ∈ xs, cs.length = sz) (hl : xs.length ≤ cap) (hcap : cap ≤ maxLen) (hcur : cur.size = cap * sz)
 (hE : ∀ F', Keeps w F (w.alloc (.cells cur e)) F' → RelE (w.alloc (.cells cur e)) F' w.heap.size sz 0 xs) :
 StepTo W N U F β h w m ⟨.own m, [(m, .row e sz xs)], 1⟩ (.slice (some ⟨w.heap.size, 0, none⟩) xs.length cap) (w.alloc (.cells cur e)) := by
 refine step_new M hm (.cells cur e) ⟨.slice (some ⟨w.heap.size, 0, none⟩) xs.length cap, some w.heap.size, xs.length, sz, []⟩ rfl (fun E => ?_) ?_
 ·exact ⟨⟨rfl, rfl⟩, rfl, hx, .inr ⟨w.heap.size, cap, cur, rfl, rfl, heap_alloc_new w _, hl, hcap, hcur, hE _ E.f⟩⟩
 ·simp only [RelA]
  refine ⟨.inr ⟨Nat.le_refl _, by omega⟩, rfl, fun bd hb => ?_⟩
  simp only [updB, if_true, Option.some.injEq] at hb
  subst hb
  rfl
theorem zero_info {e : TypeId} {d : TD} (hd : ty P e = some d) (h1 : Nat.beq d.zero.length d.size = true) (h2 : Nat.ble 1 d.size = true) : ∃ i z, P.info? e = some i ∧ i.zero = some z ∧ z.cells.toList = d.zero ∧ i.size = d.size ∧ i.bytes = d.bytes ∧ z.cells.size = d.size ∧ 0 < d.size := by
 obtain ⟨i, u, k1, k2, rfl⟩ := ty_some hd
 have e1 := Nat.eq_of_beq_eq_true h1
 have e2 := Nat.le_of_ble_eq_true h2
 simp only at e1 e2 ⊢
 cases hz : i.zero with
 | none => rw [hz] at e1; simp at e1; omega
 | some z =>
  rw [hz] at e1
  exact ⟨i, z, k1, hz, rfl, rfl, rfl, by simpa using e1, by omega⟩
theorem make_run (M : MemOk W N U F β h w) {m : Nat} (hm : ¬ U m) {t : TypeId} {same : Bool} {l c : AV} {φ : Prop} {x : Eff} (he : makeAV P m t same l c = some (φ, x)) (hφ : φ) {lv cv : Value} (hl : RelA U w F β l lv) (hc : RelA U w F β c cv) :
 ∃ z w', (Instr.makeSlice t lv cv).run P w = .ok z w' ∧ StepTo W N U F β h w m x z w' := by
 unfold makeAV at he
 split at he
 ·rename_i e _ _ _ _ k a k' b ht
  obtain ⟨rfl, _⟩ := relC.1 hl
  obtain ⟨rfl, _⟩ := relC.1 hc
  obtain ⟨_, _, _, q2, q3, _⟩ := ty_kind ht
  have := kind_sl q3
  subst this
  split at he
  ·rename_i d hd
   split at he
   ·rename_i hcd
    simp only [Bool.and_eq_true] at hcd
    obtain ⟨i, z, k1, k2, k3, k4, k5, k6, k7⟩ := zero_info hd hcd.1.1 hcd.1.2
    have main : 0 ≤ a → a ≤ b → (d.bytes : Int) * b ≤ 140737488355328 → b ≤ 140737488355328 → ∀ xs : List (List PV), xs.length = a.toNat → xs = List.replicate a.toNat (d.zero.map .v) →
     ∃ z w', (Instr.makeSlice t (.int k a) (.int k' b)).run P w = .ok z w' ∧ StepTo W N U F β h w m ⟨.own m, [(m, .row e d.size xs)], 1⟩ z w' := by
     intro h0 hab hby hb xs hxl hxs
     have hr := run_make (P := P) w t e i z q2 k1 k2 k k' a b h0 hab (by rw [k5]; omega) (by omega)
     refine ⟨_, _, hr, ?_⟩
     have := row_new M hm e d.size b.toNat (xs := xs) (cur := madeCells z.cells (b.toNat * i.size)) (by
      intro cs hcs
      rw [hxs] at hcs
      obtain ⟨_, rfl⟩ := List.mem_replicate.1 hcs
      simpa using Nat.eq_of_beq_eq_true hcd.1.1) (by omega) (by unfold maxLen; omega) (by rw [size_madeCells, k4]) (fun F' _ => RelE.of fun j cs hj => ?_)
     ·rw [hxl] at this; exact this
     ·rw [hxs] at hj
      have hj2 : j < a.toNat := by have := (List.getElem?_eq_some_iff.1 hj).1; simpa using this
      rw [List.getElem?_replicate, if_pos hj2, Option.some.injEq] at hj
      subst hj
      refine ⟨by simpa using Nat.eq_of_beq_eq_true hcd.1.1, RelC.of fun q p hq => ?_⟩
      rw [List.getElem?_map] at hq
      cases hz : d.zero[q]? with
      | none => rw [hz] at hq; simp at hq
      | some u =>
       rw [hz] at hq
       simp only [Option.map_some, Option.some.injEq] at hq
       subst hq
       have hqs : q < d.size := by have := (List.getElem?_eq_some_iff.1 hz).1; have e1 := Nat.eq_of_beq_eq_true hcd.1.1; omega
       refine ⟨u, ?_, by unfold RelP; exact ⟨rfl, List.all_eq_true.1 hcd.2 u (List.mem_of_getElem? hz)⟩⟩
       rw [cell_new]
       have hlt : 0 + j * d.size + q < b.toNat * i.size := by
        rw [k4]
        have : (j + 1) * d.size ≤ b.toNat * d.size := Nat.mul_le_mul_right _ (by omega)
        rw [Nat.add_mul] at this
        omega
       have hmod : (0 + j * d.size + q) % z.cells.size = q := by
        rw [k6, Nat.zero_add, Nat.mul_comm, Nat.mul_add_mod]
        exact Nat.mod_eq_of_lt hqs
       have hzu : z.cells[q]? = some u := by rw [← k3] at hz; simpa using hz
       have hzq : z.cells[q]! = u := by simp [getElem!_def, hzu]
       unfold madeCells
       rw [Array.getElem?_map, Array.getElem?_range, if_pos hlt]
       simp only [Option.map_some, Option.some.injEq]
       rw [hmod, hzq]
    split at he
    ·simp only [Option.some.injEq, Prod.mk.injEq] at he
     obtain ⟨rfl, rfl⟩ := he
     obtain ⟨rfl, h0, h1, h2⟩ := hφ
     exact main h0 (Int.le_refl _) h1 h2 _ (by simp) rfl
    ·simp only [Option.some.injEq, Prod.mk.injEq] at he
     obtain ⟨rfl, rfl⟩ := he
     obtain ⟨rfl, h0, h1, h2⟩ := hφ
     exact main (Int.le_refl _) h0 h1 h2 _ (by simp) (by simp)
   ·simp at he
  ·simp at he
 ·simp at he
theorem sliceLit_run (M : MemOk W N U F β h w) {m : Nat} (hm : ¬ U m) {g : Operand → AV} {ev : Operand → Value} {t : TypeId} {len : Nat} {parts : Array (Nat × Operand)} (G : ∀ p ∈ parts.toList, RelA U w F β (g p.2) (ev p.2)) {φ : Prop} {x : Eff}
 (he : sliceLitAV P m t len (parts.toList.map fun p => (p.1, g p.2)) = some (φ, x)) : ∃ z w', (Instr.buildSlice t len (parts.map fun (i, x) => (i, ev x))).run P w = .ok z w' ∧ StepTo W N U F β h w m x z w' := by
 unfold sliceLitAV at he
 split at he
 ·rename_i e _ _ _ _ ht
  obtain ⟨_, _, _, q2, q3, _⟩ := ty_kind ht
  have := kind_sl q3
  subst this
  split at he
  ·rename_i d hd
   split at he
   ·rename_i hcd
    simp only [Bool.and_eq_true] at hcd
    obtain ⟨i, z, k1, k2, k3, k4, k5, k6, k7⟩ := zero_info hd hcd.1.1.1 hcd.1.1.2
    split at he
    ·rename_i cs hf
     split at he
     ·rename_i ps hps
      simp only [Option.some.injEq, Prod.mk.injEq] at he
      obtain ⟨_, rfl⟩ := he
      have hle := Nat.le_of_ble_eq_true hcd.2
      obtain ⟨zz, hzz, hz0⟩ : ∃ zz : Array Value, ((len * i.size = 0 ∧ zz = #[]) ∨ (¬ len * i.size = 0 ∧ zz = z.cells)) ∧ ∀ u ∈ ((Array.range (len * i.size)).map (zz[· % zz.size]!)).toList, u.oneCell' = true := by
       by_cases h0 : len * i.size = 0
       ·exact ⟨#[], .inl ⟨h0, rfl⟩, by rw [h0]; simp⟩
       ·refine ⟨z.cells, .inr ⟨h0, rfl⟩, ?_⟩
        intro u hu
        simp only [Array.toList_map, List.mem_map] at hu
        obtain ⟨j, hj, rfl⟩ := hu
        have hlt : j % z.cells.size < z.cells.size := Nat.mod_lt _ (by omega)
        have e1 : z.cells[j % z.cells.size]! = z.cells[j % z.cells.size] := by simp [hlt]
        rw [e1]
        exact List.all_eq_true.1 hcd.1.2 _ (by rw [← k3]; simp)
      generalize hus0 : (Array.range (len * i.size)).map (zz[· % zz.size]!) = us0 at hz0
      have hs0 : us0.size = len * d.size := by rw [← hus0, ← k4]; simp
      have hb : RelL U w F β (List.replicate (len * d.size) (.c .undef)) us0.toList := by
       refine RelL.of (by simp [hs0]) fun j x u hx hu => ?_
       have := List.eq_of_mem_replicate (List.mem_of_getElem? hx)
       subst this
       simp only [RelA, RelP]
       exact hz0 u (List.mem_of_getElem? hu)
      obtain ⟨us', e1, e2, e3⟩ := fill_run (place' := fun i => some (i * d.size, d.size)) (fun i q hq => hq) _ (parts.map fun (i, x) => (i, ev x)).toList _ _ us0 hf (by simp) (parts_rel parts G) hb hz0
      have hcs := toPVs_run hps
      subst hcs
      have hpl : ps.length = len * d.size := by
       have l1 := e2.len
       have l2 : ∀ (r : List (Nat × AV)) (place : Nat → Option (Nat × Nat)) (a b : List AV), fillA place a r = some b → b.length = a.length := by
        intro r place
        induction r with
        | nil => intro a b h; simp only [fillA, Option.some.injEq] at h; subst h; rfl
        | cons p r ih =>
         intro a b h
         unfold fillA at h
         split at h
         ·split at h
          ·rename_i hc
           simp only [Bool.and_eq_true] at hc
           have n1 := Nat.eq_of_beq_eq_true hc.1
           have n2 := Nat.le_of_ble_eq_true hc.2
           rw [ih _ _ h, splice_len _ _ _ (by omega)]
          ·simp at h
         ·simp at h
       have := l2 _ _ _ _ hf
       simpa using this
      have hus : us'.size = len * d.size := by have := e2.len; simpa [hpl] using this
      have := row_new M hm e d.size len (xs := chunks d.size len ps) (cur := us') (by
       intro cs hcs
       obtain ⟨j, hj⟩ := List.getElem?_of_mem hcs
       exact (chunks_at _ _ _ hpl j cs hj).1) (by rw [chunks_len]; exact Nat.le_refl _) (by
        have h1 : len * 1 ≤ len * d.size := Nat.mul_le_mul_left _ k7
        unfold maxLen; omega) hus (fun F' K => relE_chunks hpl fun j p hp => ?_)
      ·rw [chunks_len] at this
       refine ⟨_, _, ?_, this⟩
       have hnot : ¬ (len * i.size > 2 ^ 24) := by rw [k4]; omega
       rw [k4] at hzz hus0 hnot
       rcases hzz with ⟨h0, rfl⟩ | ⟨h0, rfl⟩
       ·simp only [Instr.buildSlice, Sem.run_bind, run_underlying q2, Result.andThen_ok, run_sizeOf' k1, k4, Sem.run_ite, if_neg hnot, if_pos h0, Sem.run_pure, hus0, e1]
        rfl
       ·simp only [Instr.buildSlice, Sem.run_bind, run_underlying q2, Result.andThen_ok, run_sizeOf' k1, k4, Sem.run_ite, if_neg hnot, if_neg h0, run_zero' k1 k2, Sem.run_pure, hus0, e1]
        rfl
      ·obtain ⟨u, k8, k9⟩ := relL_map e2 j p hp
       refine ⟨u, ?_, RelP.mono K p u k9⟩
       rw [cell_new]
       simpa using k8
     ·simp at he
    ·simp at he
   ·simp at he
  ·simp at he
 ·simp at he
theorem setRow_grown (w : World) (g : Nat) (cs : Array Value) : (w.setRow g cs).os = w.os ∧ (w.setRow g cs).tape = w.tape ∧ (w.setRow g cs).output = w.output ∧ (w.setRow g cs).heap.size = w.heap.size ∧ ∀ b, b ≠ g → (w.setRow g cs).heap[b]? = w.heap[b]? :=
 ⟨rfl, rfl, rfl, setRow_size w g cs, fun b hb => setRow_other w g b cs hb⟩
theorem store_run (M : MemOk W N U F β h w) (hs : ∀ id, hT id ≠ .dead → hT id = h id) (m : Nat) {t : TypeId} {p x : AV} {φ : Prop} {r : Eff} (he : storeAV P hT t p x = some (φ, r)) (hφ : φ) {pv xv : Value} (hp : RelA U w F β p pv) (hx : RelA U w F β x xv) :
 ∃ w', (Instr.storeAt t pv xv).run P w = .ok () w' ∧ StepTo W N U F β h w m r undef w' := by
 unfold storeAV at he
 split at he
 ·rename_i d cs id i o hd hcs
  obtain ⟨k1, k2⟩ := cellsOf_run hcs hx
  obtain ⟨j, de, e1, e2, e3, e4, e5, _⟩ := ty_d hd
  split at he
  ·rename_i hlen
   have hl := Nat.eq_of_beq_eq_true hlen
   have hcl : xv.cells.size = d.size := by have := k1.len; simpa [hl] using this
   have main : ∀ {g o' : Nat} {cur : Array Value} {T : TypeId}, w.heap[g]? = some (.cells cur T (0, 0)) → o' + d.size ≤ cur.size →
    (Instr.storeAt t (.pointer (some ⟨g, o', none⟩)) xv).run P w = .ok () (w.setRow g (splice cur.toList o' xv.cells.toList).toArray) := by
    intro g o' cur T hg hle
    have := run_storeCells_at P g o' T xv.cells.toList 0 cur w hg (by simp [hcl]; omega) k2
    simp only [Instr.storeAt, Instr.sureAddr, storeVar, Sem.run_bind, Sem.run_pure, Result.andThen_ok, run_sizeOf' e1, hcl, e5, ne_eq, not_true_eq_false, if_false, Sem.run_ite]
    simpa [splice] using this
   split at he
   ·rename_i e sz xs hc
    obtain ⟨bd, hb, h1, h2, h3, h4⟩ := M.get hs hc (by simp)
    simp only [RelA] at hp
    obtain ⟨g, hg, rfl⟩ := hp.2.2 bd hb
    split at he
    ·rename_i ps hps
     have hpe := toPVs_run hps
     subst hpe
     have hpl : ps.length = d.size := by simpa using hl
     rcases h4 with ⟨h5, _⟩ | ⟨g', cap, cur, h5, h6, h7, h8, h9, h10, hE⟩
     ·rw [hg] at h5; simp at h5
     rw [hg] at h5
     cases h5
     have fin : o + d.size ≤ sz → i < xs.length → StepTo W N U F β h w m ⟨.undef, [(id, .row e sz (xs.set i (splice (xs.getD i []) o ps)))], 0⟩ undef (w.setRow g (splice cur.toList (i * sz + o) xv.cells.toList).toArray) ∧ i * sz + o + d.size ≤ cur.size := by
      intro hle hi
      have hsz : i * sz + sz ≤ xs.length * sz := by rw [← Nat.succ_mul]; exact Nat.mul_le_mul_right _ hi
      have hsz2 : xs.length * sz ≤ cap * sz := Nat.mul_le_mul_right _ h8
      have hfit : i * sz + o + d.size ≤ cur.size := by rw [h10]; omega
      refine ⟨?_, hfit⟩
      obtain ⟨s1, s2, s3, s4, s5⟩ := setRow_grown w g (splice cur.toList (i * sz + o) xv.cells.toList).toArray
      have hheap := setRow_heap w g cur (splice cur.toList (i * sz + o) xv.cells.toList).toArray e (0, 0) h7
      have hxi : xs.getD i [] = xs[i] := by simp [hi]
      have hxl : xs[i].length = sz := h3 _ (List.getElem_mem hi)
      refine step_set M m hb hg s1 s2 s3 s4 s5 (fun E => ?_) undef
      refine ⟨h1, by simp [h2], ?_, .inr ⟨g, cap, _, hg, by simpa using h6, hheap, by simpa using h8, h9, ?_, ?_⟩⟩
      ·intro cs hcs
       rcases List.mem_or_eq_of_mem_set hcs with hm | rfl
       ·exact h3 cs hm
       ·rw [splice_len _ _ _ (by rw [hxi, hxl]; omega), hxi, hxl]
      ·simp only [List.size_toArray]
       rw [splice_len _ _ _ (by simp [hcl]; omega)]
       simpa using h10
      ·refine RelE.of fun q cs hq => ?_
       have hcell : ∀ c, (w.setRow g (splice cur.toList (i * sz + o) xv.cells.toList).toArray).cell? ⟨g, c, none⟩ = if i * sz + o ≤ c ∧ c < i * sz + o + d.size then xv.cells[c - (i * sz + o)]? else w.cell? ⟨g, c, none⟩ := by
        intro c
        have e0 : w.cell? ⟨g, c, none⟩ = cur[c]? := by simp [World.cell?, h7]
        rw [e0]
        simp only [World.cell?, hheap, Option.isSome_none, Bool.false_eq_true, if_false]
        have := splice_get cur.toList (i * sz + o) xv.cells.toList (by simp [hcl]; omega) c
        simp only [Array.length_toList, hcl, Array.getElem?_toList] at this
        simpa using this
       rw [List.getElem?_set] at hq
       by_cases hqi : i = q
       ·subst hqi
        simp only [if_true, hi, Option.some.injEq] at hq
        subst hq
        obtain ⟨_, hC⟩ := hE.at i xs[i] (by simp [hi])
        refine ⟨by rw [splice_len _ _ _ (by rw [hxi, hxl]; omega), hxi, hxl], RelC.of fun c y hy => ?_⟩
        rw [splice_get _ _ _ (by rw [hxi, hxl]; omega)] at hy
        rw [hcell]
        split at hy
        ·rename_i hr
         rw [if_pos (by omega)]
         obtain ⟨u, hu1, hu2⟩ := relL_map k1 (c - o) y hy
         refine ⟨u, ?_, RelP.mono E.f y u hu2⟩
         rw [show 0 + i * sz + c - (i * sz + o) = c - o from by omega]
         simpa using hu1
        ·rename_i hr
         have hcs : c < sz := by rw [hxi] at hy; have := (List.getElem?_eq_some_iff.1 hy).1; omega
         rw [if_neg (by omega)]
         rw [hxi] at hy
         obtain ⟨u, hu1, hu2⟩ := hC.at c y hy
         exact ⟨u, hu1, RelP.mono E.f y u hu2⟩
       ·rw [if_neg hqi] at hq
        obtain ⟨hl2, hC⟩ := hE.at q cs hq
        refine ⟨hl2, RelC.of fun c y hy => ?_⟩
        have hcs : c < sz := by rw [← hl2]; exact (List.getElem?_eq_some_iff.1 hy).1
        rw [hcell, if_neg (by
         rcases Nat.lt_or_gt_of_ne hqi with hlt | hgt
         ·have : (i + 1) * sz ≤ q * sz := Nat.mul_le_mul_right _ hlt
          rw [Nat.add_mul] at this; omega
         ·have : (q + 1) * sz ≤ i * sz := Nat.mul_le_mul_right _ hgt
          rw [Nat.add_mul] at this; omega)]
        obtain ⟨u, hu1, hu2⟩ := hC.at c y hy
        exact ⟨u, hu1, RelP.mono E.f y u hu2⟩
     split at he
     ·rename_i ho
      simp only [Bool.and_eq_true] at ho
      have ho0 := Nat.eq_of_beq_eq_true ho.1
      have hds := Nat.eq_of_beq_eq_true ho.2
      simp only [Option.some.injEq, Prod.mk.injEq] at he
      obtain ⟨rfl, rfl⟩ := he
      subst ho0
      obtain ⟨f1, f2⟩ := fin (by omega) hφ
      have hi : i < xs.length := hφ
      have hxl : (xs.getD i []).length = sz := by
       have e1 : xs.getD i [] = xs[i] := by simp [hi]
       rw [e1]; exact h3 _ (List.getElem_mem hi)
      have hsp : splice (xs.getD i []) 0 ps = ps := by
       unfold splice
       rw [List.take_zero, List.nil_append, Nat.zero_add, List.drop_eq_nil_of_le (by omega), List.append_nil]
      rw [hsp] at f1
      exact ⟨_, main (o' := i * bd.sz + 0) h7 (by rw [h1.1]; exact f2), by rw [h1.1]; exact f1⟩
     ·split at he
      ·rename_i hle
       simp only [Option.some.injEq, Prod.mk.injEq] at he
       obtain ⟨rfl, rfl⟩ := he
       obtain ⟨f1, f2⟩ := fin (Nat.le_of_ble_eq_true hle) hφ
       exact ⟨_, main (o' := i * bd.sz + o) h7 (by rw [h1.1]; exact f2), by rw [h1.1]; exact f1⟩
      ·simp at he
    ·simp at he
   ·rename_i t' bs hc
    split at he
    ·rename_i hle
     have hle := Nat.le_of_ble_eq_true hle
     simp only [Option.some.injEq, Prod.mk.injEq] at he
     obtain ⟨rfl, rfl⟩ := he
     subst hφ
     obtain ⟨bd, hb, h1, h2, g, vs, h3, h4, h5, h6, h7⟩ := M.get hs hc (by simp)
     simp only [RelA] at hp
     obtain ⟨g', hg, rfl⟩ := hp.2.2 bd hb
     rw [h3] at hg
     cases hg
     have hvl : vs.size = bs.length := by simpa using h6.len
     simp only [Nat.zero_mul, Nat.zero_add]
     refine ⟨_, main h5 (by omega), ?_⟩
     obtain ⟨s1, s2, s3, s4, s5⟩ := setRow_grown w g (splice vs.toList o xv.cells.toList).toArray
     refine step_set M m hb h3 s1 s2 s3 s4 s5 (fun E => ?_) undef
     refine ⟨by rw [splice_len _ _ _ (by omega)]; exact h1, h2, g, _, h3, h4, setRow_heap w g vs _ t' (0, 0) h5, ?_, ?_⟩
     ·exact RelL.mono E _ _ (relL_splice h6 k1 o)
     ·intro u hu
      simp only [splice] at hu
      rcases List.mem_append.1 hu with hu | hu
      ·exact h7 u (List.mem_of_mem_take hu)
      ·rcases List.mem_append.1 hu with hu | hu
       ·exact k2 u hu
       ·exact h7 u (List.mem_of_mem_drop hu)
    ·simp at he
   ·simp at he
  ·simp at he
 ·simp at he
end
end Go.Proofs.Ytdkmndimmpilaaa
namespace Go.Proofs.Ytdkmndimmpilaaa
set_option linter.all false
open Go.RowKit
section
variable {P : Program} {W : World} {N U F : Nat → Prop} {β : Nat → Option Bind} {h hT : Nat → Chunk} {w : World}
theorem relE_flat {b sz : Nat} : ∀ {xs : List (List PV)} {o : Nat}, RelE w F b sz o xs → RelC w F b o xs.flatten
 | [], _, _ => by simp [RelC]
 | x :: r, o, h => by
  simp only [RelE] at h
  have ih := relE_flat h.2.2
  rw [List.flatten_cons]
  refine RelC.of fun j y hy => ?_
  by_cases hj : j < x.length
  ·rw [List.getElem?_append_left hj] at hy
   exact h.2.1.at j y hy
  ·rw [List.getElem?_append_right (by omega)] at hy
   have := ih.at _ y hy
   rwa [h.1, show o + sz + (j - sz) = o + j from by omega] at this
theorem flat_len {sz : Nat} : ∀ {xs : List (List PV)}, (∀ cs ∈ xs, cs.length = sz) → xs.flatten.length = xs.length * sz
 | [], _ => by simp
 | x :: r, h => by
  rw [List.flatten_cons, List.length_append, h x (by simp), flat_len fun cs hc => h cs (by simp [hc]), List.length_cons, Nat.add_mul]; omega
theorem relE_unflat {b sz : Nat} : ∀ {xs : List (List PV)} {o : Nat}, (∀ cs ∈ xs, cs.length = sz) → RelC w F b o xs.flatten → RelE w F b sz o xs
 | [], _, _, _ => by simp [RelE]
 | x :: r, o, hl, h => by
  simp only [RelE]
  have hx := hl x (by simp)
  rw [List.flatten_cons] at h
  refine ⟨hx, RelC.of fun j y hy => ?_, relE_unflat (fun cs hc => hl cs (by simp [hc])) (RelC.of fun j y hy => ?_)⟩
  ·exact h.at j y (by rw [List.getElem?_append_left (List.getElem?_eq_some_iff.1 hy).1]; exact hy)
  ·have := h.at (sz + j) y (by rw [List.getElem?_append_right (by omega), hx]; simpa using hy)
   rwa [← Nat.add_assoc] at this
theorem run_app {P : Program} (w : World) (base t ty e size bytes : Nat) {z : Value} {i : TypeInfo} (ht : P.underlying t = some (.slice e)) (hi : P.info? e = some i) (hz : i.zero = some z) (hsize : i.size = size) (hby : i.bytes = bytes) (hzs : z.cells.size = size) (hsz : 0 < size) (v : Value) (n : Nat) (xs : List Value) (hown : w.ownsRow base e size v n xs)
 (a : Addr) (m c : Nat) (news : List Value) (hl : news.length = m * size) (hnews : ∀ j u, news[j]? = some u → w.cell? (a.add j) = some u) (h1 : ∀ u ∈ news, u.oneCell' = true)
 (h63 : n + m ≤ maxLen) (hbytes : (n + m) * bytes ≤ 140737488355328) (hbase : base ≤ w.heap.size) :
 ∃ v' w', (Builtin.append_ #[t, t] ty #[v, .slice (some a) m c]).run P w = .ok v' w' ∧ w'.ownsRow base e size v' (n + m) (xs ++ news) ∧ w.grownBy w' v.ownBlock ∧
  (v'.ownBlock = v.ownBlock ∨ ∀ q, v'.ownBlock = some q → w.heap.size ≤ q) := by
 obtain ⟨v', w', hr, h2, h3, h4⟩ := run_append_own (P := P) w base t ty e i z size bytes ht hi hz hsize hby hzs hsz v n xs hown a m c news hl hnews h1 h63 hbytes hbase
 refine ⟨v', w', hr, h2, h3, ?_⟩
 subst hsize
 subst hby
 have hsmall : n + m ≤ 9223372036854775807 := by simp only [maxLen] at h63; omega
 rcases hown.2 with ⟨rfl, rfl⟩ | ⟨g, cap, cur, rfl, hbg, hg, hnc, hcm, hcs, htake⟩
 ·by_cases hm : m = 0
  ·exact .inl (by rw [h4.2 ⟨rfl, hm⟩])
  ·have hr2 := run_append_nil (P := P) w t ty e i z ht hi hz a m c news hl hnews (by omega) (by omega) (by simp only [Nat.zero_add] at hbytes; omega)
   rw [hr2] at hr
   cases hr
   exact .inr (fun q hq => by simp [Value.ownBlock] at hq; omega)
 ·by_cases hroom : n + m ≤ cap
  ·have hr2 := run_append_room (P := P) w t ty e i ht hi g n cap cur hg a m c news hl hnews h1 hroom (by rw [hl, hcs, ← Nat.add_mul]; exact Nat.mul_le_mul_right _ hroom)
   rw [hr2] at hr
   cases hr
   exact .inl rfl
  ·have hr2 := run_append_grow (P := P) w t ty e i z ht hi hz ⟨g, 0, none⟩ n cap xs hown.1 (hown.cells (g := g) rfl) a m c news hl hnews (by omega) (by omega) (growslice_fits (by omega) hbytes)
   rw [hr2] at hr
   cases hr
   exact .inr (fun q hq => by simp [Value.ownBlock] at hq; omega)
theorem run_app0 {P : Program} (w : World) (t ty e : Nat) {i : TypeInfo} (ht : P.underlying t = some (.slice e)) (hi : P.info? e = some i) (a : Option Addr) (n c : Nat) (hn : n ≤ c) (b : Option Addr) (c' : Nat) :
 (Builtin.append_ #[t, t] ty #[.slice a n c, .slice b 0 c']).run P w = .ok (.slice a n c) w := by
 cases a <;> cases b <;> simp [Builtin.append_, run_underlying ht, sizeOf, typeInfo, hi, Builtin.lenOf, hn, Builtin.firstCells, loadCells, loadCellsFrom, storeCells]
theorem relC_of_vals {w' : World} {F' : Nat → Prop} {g : Nat} {ps : List PV} {vs : List Value} (hr : ∀ (j : Nat) (p : PV), ps[j]? = some p → ∃ u, vs[j]? = some u ∧ RelP w' F' p u) (hc : ∀ j u, vs[j]? = some u → w'.cell? ⟨g, j, none⟩ = some u) : RelC w' F' g 0 ps :=
 RelC.of fun j p hp => by
  obtain ⟨u, h1, h2⟩ := hr j p hp
  exact ⟨u, by simpa using hc j u h1, h2⟩
theorem app_run (M : MemOk W N U F β h w) (hs : ∀ id, hT id ≠ .dead → hT id = h id) {m : Nat} (hm : ¬ U m) {t ty' : TypeId} {s x : AV} {φ : Prop} {r : Eff} (he : appAV P hT m t s x = some (φ, r)) (hφ : φ) {sv xv : Value} (hsv : RelA U w F β s sv) (hxv : RelA U w F β x xv) :
 ∃ z w', (Builtin.append_ #[t, t] ty' #[sv, xv]).run P w = .ok z w' ∧ StepTo W N U F β h w m r z w' := by
 unfold appAV at he
 split at he
 ·rename_i e _ _ _ _ ht
  obtain ⟨_, _, _, q2, q3, _⟩ := ty_kind ht
  have := kind_sl q3
  subst this
  split at he
  ·rename_i d hd
   split at he
   ·rename_i hcd
    simp only [Bool.and_eq_true] at hcd
    obtain ⟨i, z, k1, k2, k3, k4, k5, k6, k7⟩ := zero_info hd hcd.1.1 hcd.1.2
    have hby1 := Nat.le_of_ble_eq_true hcd.2
    split at he
    ·rename_i ks xs sz ys hrow hsl
     simp only [Option.some.injEq, Prod.mk.injEq] at he
     obtain ⟨rfl, rfl⟩ := he
     obtain ⟨hsz, hbytes⟩ := hφ
     obtain ⟨xa, xc, rfl, hxl, _, hxE⟩ := slOf_run M hs hsl hxv
     have hlenb : xs.length + ys.length ≤ 140737488355328 := by
      have : (xs.length + ys.length) * 1 ≤ (xs.length + ys.length) * d.bytes := Nat.mul_le_mul_left _ hby1
      omega
     have hmax : xs.length + ys.length ≤ maxLen := by unfold maxLen; omega
     -- what is appended to
     have hA : ∃ K : Nat → Prop, ∃ cells : List Value, (∀ k, K k ↔ ∃ c, (k, c) ∈ ks) ∧ (∀ p ∈ ks, p.2 = Chunk.dead) ∧ ks.length ≤ 1 ∧ (∀ k, K k → U k) ∧
      w.ownsRow 0 e d.size sv xs.length cells ∧ (∀ cs ∈ xs, cs.length = d.size) ∧ (∀ (j : Nat) (p : PV), xs.flatten[j]? = some p → ∃ u, cells[j]? = some u ∧ RelP w F p u) ∧
      (∀ q, sv.ownBlock = some q → ∃ k bd, K k ∧ β k = some bd ∧ bd.b = some q) ∧ (∀ k bd b, K k → β k = some bd → bd.b = some b → sv.ownBlock = some b) := by
      have own : ∀ {id sz' : Nat} {zs : List (List PV)} {l : Nat} {bd : Bind}, hT id = .row e sz' zs → β id = some bd → ChOk U w F β bd (.row e sz' zs) → sz' = d.size → l ≤ zs.length → (∃ g cap, bd.b = some g ∧ bd.v = .slice (some ⟨g, 0, none⟩) zs.length cap ∧ sv = .slice (some ⟨g, 0, none⟩) l cap ∨ bd.b = none ∧ sv = .slice none 0 0 ∧ l = 0) → U id →
       ∃ K : Nat → Prop, ∃ cells : List Value, (∀ k, K k ↔ ∃ c, (k, c) ∈ [(id, Chunk.dead)]) ∧ (∀ p ∈ [(id, Chunk.dead)], p.2 = Chunk.dead) ∧ [(id, Chunk.dead)].length ≤ 1 ∧ (∀ k, K k → U k) ∧
       w.ownsRow 0 e d.size sv (zs.take l).length cells ∧ (∀ cs ∈ zs.take l, cs.length = d.size) ∧ (∀ (j : Nat) (p : PV), (zs.take l).flatten[j]? = some p → ∃ u, cells[j]? = some u ∧ RelP w F p u) ∧
       (∀ q, sv.ownBlock = some q → ∃ k bd, K k ∧ β k = some bd ∧ bd.b = some q) ∧ (∀ k bd b, K k → β k = some bd → bd.b = some b → sv.ownBlock = some b) := by
       intro id sz' zs l bd hc hb hk hsz' hl hv hU
       obtain ⟨h1, h2, h3, h4⟩ := hk
       subst hsz'
       refine ⟨fun k => k = id, ?_⟩
       have htl : (zs.take l).length = l := by simp; omega
       rcases hv with ⟨g, cap, ⟨g1, g2, rfl⟩ | ⟨g1, rfl, rfl⟩⟩
       ·rcases h4 with ⟨h5, _⟩ | ⟨g', cap', cur, h5, h6, h7, h8, h9, h10, hE⟩
        ·rw [g1] at h5; simp at h5
        ·rw [g1] at h5; cases h5
         rw [g2] at h6
         simp only [Value.slice.injEq, true_and] at h6
         subst h6
         have hle : l * d.size ≤ cap * d.size := Nat.mul_le_mul_right _ (by omega)
         refine ⟨cur.toList.take (l * d.size), by simp, by simp, by simp, by rintro k rfl; exact hU, ⟨by rw [htl, List.length_take, Array.length_toList, h10]; exact Nat.min_eq_left hle, .inr ⟨g, cap, cur, by rw [htl], Nat.zero_le _, h7, by omega, h9, h10, by rw [htl]⟩⟩, fun cs hc => h3 cs (List.mem_of_mem_take hc), fun j p hp => ?_, ?_, ?_⟩
         ·have hEl : RelE w F g d.size 0 (zs.take l) := RelE.of fun q cs hq => by
           rw [List.getElem?_take] at hq
           split at hq
           ·exact hE.at q cs hq
           ·simp at hq
          obtain ⟨u, hu1, hu2⟩ := (relE_flat hEl).at j p hp
          have hj : j < l * d.size := by
           have := (List.getElem?_eq_some_iff.1 hp).1
           rwa [flat_len (sz := d.size) (fun cs hc => h3 cs (List.mem_of_mem_take hc)), htl] at this
          refine ⟨u, ?_, hu2⟩
          rw [List.getElem?_take, if_pos hj]
          simp only [World.cell?, h7, Nat.zero_add, Option.isSome_none, Bool.false_eq_true, if_false] at hu1
          simpa using hu1
         ·intro q hq
          simp only [Value.ownBlock, Option.some.injEq] at hq
          subst hq
          exact ⟨id, bd, rfl, hb, g1⟩
         ·rintro k bd' b rfl hb' hbb
          rw [hb] at hb'; cases hb'
          rw [g1] at hbb; cases hbb
          rfl
       ·refine ⟨[], by simp, by simp, by simp, by rintro k rfl; exact hU, by simpa using World.ownsRow_nil w 0 e d.size, by simp, by simp, by simp [Value.ownBlock], ?_⟩
        rintro k bd' b rfl hb' hbb
        rw [hb] at hb'; cases hb'
        rw [g1] at hbb; simp at hbb
      unfold rowOf at hrow
      split at hrow
      ·rename_i id
       split at hrow
       ·rename_i e' sz' zs hc
        split at hrow
        ·rename_i heq
         simp only [Bool.and_eq_true] at heq
         have e1 := Nat.eq_of_beq_eq_true heq.1
         have e2 := Nat.eq_of_beq_eq_true heq.2
         subst e1
         simp only [Option.some.injEq, Prod.mk.injEq] at hrow
         obtain ⟨rfl, rfl⟩ := hrow
         obtain ⟨bd, hb, hk⟩ := M.get hs hc (by simp)
         simp only [RelA] at hsv
         have hsv2 := hsv.2.2 bd hb
         have := own (l := zs.length) hc hb hk e2.symm (Nat.le_refl _) ?_ hsv.1
         ·simpa only [List.take_length] using this
         ·obtain ⟨_, _, _, h4⟩ := hk
          rcases h4 with ⟨h5, rfl, h6⟩ | ⟨g, cap, cur, h5, h6, _⟩
          ·exact ⟨0, 0, .inr ⟨h5, by rw [hsv2, h6], rfl⟩⟩
          ·exact ⟨g, cap, .inl ⟨h5, h6, by rw [hsv2, h6]⟩⟩
        ·simp at hrow
       ·simp at hrow
      ·rename_i id l
       split at hrow
       ·rename_i e' sz' zs hc
        split at hrow
        ·rename_i heq
         simp only [Bool.and_eq_true] at heq
         have e1 := Nat.eq_of_beq_eq_true heq.1
         have e2 := Nat.eq_of_beq_eq_true heq.2
         subst e1
         simp only [Option.some.injEq, Prod.mk.injEq] at hrow
         obtain ⟨rfl, rfl⟩ := hrow
         obtain ⟨bd, hb, hk⟩ := M.get hs hc (by simp)
         simp only [RelA] at hsv
         obtain ⟨a, c, rfl, r1, r2, r3, _, r5⟩ := hsv.2.2 bd hb
         obtain ⟨n', hn'⟩ := r5 trivial
         refine own (l := l) hc hb hk e2.symm (by rw [← hk.2.1]; omega) ?_ hsv.1
         obtain ⟨_, h2, _, h4⟩ := hk
         rcases h4 with ⟨h5, rfl, h6⟩ | ⟨g, cap, cur, h5, h6, _⟩
         ·rw [h6] at hn'
          simp only [Value.slice.injEq] at hn'
          obtain ⟨rfl, _, rfl⟩ := hn'
          have : l = 0 := by omega
          subst this
          exact ⟨0, 0, .inr ⟨h5, rfl, rfl⟩⟩
         ·rw [h6] at hn'
          simp only [Value.slice.injEq] at hn'
          obtain ⟨rfl, _, rfl⟩ := hn'
          exact ⟨g, cap, .inl ⟨h5, h6, rfl⟩⟩
        ·simp at hrow
       ·simp at hrow
      ·simp only [Option.some.injEq, Prod.mk.injEq] at hrow
       obtain ⟨rfl, rfl⟩ := hrow
       obtain ⟨rfl, _⟩ := relC.1 hsv
       exact ⟨fun _ => False, [], by simp, by simp, by simp, by simp, by simpa using World.ownsRow_nil w 0 e d.size, by simp, by simp, by simp [Value.ownBlock], by simp⟩
      ·simp at hrow
     obtain ⟨K, cells, hK1, hK2, hK3, hKU, hown, hxs, hcells, hblk1, hblk2⟩ := hA
     -- what is appended
     have hB : ∃ news : List Value, (∀ cs ∈ ys, cs.length = d.size) ∧ news.length = ys.length * d.size ∧ (∀ ad, xa = some ad → ∀ j u, news[j]? = some u → w.cell? (ad.add j) = some u) ∧ (∀ u ∈ news, u.oneCell' = true) ∧ (xa = none → ys = []) ∧ (∀ (j : Nat) (p : PV), ys.flatten[j]? = some p → ∃ u, news[j]? = some u ∧ RelP w F p u) := by
      rcases hxE with rfl | ⟨b, o, rfl, hE⟩
      ·exact ⟨[], by simp, by simp, by simp, by simp, fun _ => rfl, by simp⟩
      ·by_cases hy0 : ys = []
       ·subst hy0; exact ⟨[], by simp, by simp, by simp, by simp, fun _ => rfl, by simp⟩
       ·have hsz' : sz = d.size := hsz.resolve_right hy0
        subst hsz'
        have hyl : ∀ cs ∈ ys, cs.length = d.size := by
         intro cs hc
         obtain ⟨q, hq⟩ := List.getElem?_of_mem hc
         exact (hE.at q cs hq).1
        obtain ⟨vs, v1, v2, v3⟩ := RelC.vals (U := U) (β := β) (relE_flat hE)
        have hvl := v1.len
        rw [List.length_map, flat_len hyl] at hvl
        refine ⟨vs, hyl, hvl, ?_, v3, by simp, fun j p hp => relL_map v1 j p hp⟩
        rintro ad h j u hu
        cases h
        rw [Addr.add_lit]
        exact v2 j u hu
     obtain ⟨news, hys, hnl, hnews, hn1, hnone, hncells⟩ := hB
     -- the run
     have hR : ∃ v' w', (Builtin.append_ #[t, t] ty' #[sv, .slice xa ys.length xc]).run P w = .ok v' w' ∧ w'.ownsRow 0 e d.size v' (xs.length + ys.length) (cells ++ news) ∧ w.grownBy w' sv.ownBlock ∧
      (v'.ownBlock = sv.ownBlock ∨ ∀ q, v'.ownBlock = some q → w.heap.size ≤ q) := by
      cases hxa : xa with
      | some ad =>
       exact run_app w 0 t ty' e d.size d.bytes q2 k1 k2 k4 k5 k6 k7 sv xs.length cells hown ad ys.length xc news hnl (hnews ad hxa) hn1 hmax hbytes (Nat.zero_le _)
      | none =>
       have hy0 := hnone hxa
       subst hy0
       obtain rfl : news = [] := List.eq_nil_of_length_eq_zero (by simpa using hnl)
       obtain ⟨a, n, c, rfl, hnc⟩ : ∃ a n c, sv = .slice a n c ∧ n ≤ c := by
        rcases hown.2 with ⟨rfl, _⟩ | ⟨g, cap, cur, rfl, _, _, hnc, _⟩
        ·exact ⟨none, 0, 0, rfl, Nat.le_refl _⟩
        ·exact ⟨_, _, _, rfl, hnc⟩
       refine ⟨_, w, run_app0 w t ty' e q2 k1 a n c hnc none xc, by simpa using hown, ⟨rfl, rfl, rfl, Nat.le_refl _, fun k _ _ => rfl⟩, .inl rfl⟩
     obtain ⟨v', w', hr, hown', hgr, hob⟩ := hR
     refine ⟨v', w', hr, ?_⟩
     -- the step
     have hfl : ∀ k, (∃ c, (k, c) ∈ ks) → upd h (ks ++ [(m, Chunk.row e d.size (xs ++ ys))]) k = .dead := by
      intro k hk
      obtain ⟨c, hc⟩ := hk
      match ks, hK3, hK2, hc with
      | [(k', c')], _, hd, hc =>
       simp only [List.mem_singleton, Prod.mk.injEq] at hc
       obtain ⟨rfl, rfl⟩ := hc
       have := hd (k, c) (by simp)
       simp only at this
       simp [upd, this]
      | [], _, _, hc => simp at hc
      | _ :: _ :: _, hl, _, _ => simp at hl
     have hoth : ∀ k, ¬ (K k ∨ k = m) → upd h (ks ++ [(m, Chunk.row e d.size (xs ++ ys))]) k = h k := by
      intro k hk
      have h1 : ¬ K k := fun h => hk (.inl h)
      have h2 : k ≠ m := fun h => hk (.inr h)
      rw [hK1] at h1
      match ks, hK3, h1 with
      | [(k', c')], _, h1 =>
       have : k' ≠ k := fun h => h1 ⟨c', by simp [h]⟩
       simp [upd, this, Ne.symm h2]
      | [], _, _ => simp [upd, Ne.symm h2]
      | _ :: _ :: _, hl, _ => simp at hl
     have hmm : upd h (ks ++ [(m, Chunk.row e d.size (xs ++ ys))]) m = .row e d.size (xs ++ ys) := by
      have h1 : ¬ K m := fun h => hm (hKU m h)
      rw [hK1] at h1
      match ks, hK3, h1 with
      | [(k', c')], _, h1 =>
       have : k' ≠ m := fun h => h1 ⟨c', by simp [h]⟩
       simp [upd, this]
      | [], _, _ => simp [upd]
      | _ :: _ :: _, hl, _ => simp at hl
     have hKm : ¬ K m := fun h => hm (hKU m h)
     classical
     let bd' : Bind := ⟨v', v'.ownBlock, xs.length + ys.length, d.size, []⟩
     have hvlt : ∀ q, v'.ownBlock = some q → q < w'.heap.size ∧ (w.heap.size ≤ q ∨ sv.ownBlock = some q) := by
      intro q hq
      refine ⟨(hown'.lt q hq).2, ?_⟩
      rcases hob with h | h
      ·exact .inr (by rw [← h]; exact hq)
      ·exact .inl (h q hq)
     obtain ⟨S1, S2⟩ := M.step (w' := w') (h' := upd h (ks ++ [(m, Chunk.row e d.size (xs ++ ys))])) (β' := fun i => if K i then none else if i = m then some bd' else β i) (F' := F) (U' := fun i => U i ∨ (m ≤ i ∧ i < m + 1)) (fun i => K i ∨ i = m)
      (fun i hi => by
       have h1 : ¬ K i := fun h => hi (.inl h)
       have h2 : i ≠ m := fun h => hi (.inr h)
       simp [h1, h2])
      hoth hgr.os hgr.tape hgr.output hgr.size
      (fun b hb hn => hgr.block b hb fun he => by
       obtain ⟨k, bd, hk, hbd, hbb⟩ := hblk1 b he.symm
       exact hn k bd (.inl hk) hbd (.inl hbb))
      (fun i hi => .inl hi) (fun b hb => hb) (fun b hb => ⟨Nat.lt_of_lt_of_le (M.fin b hb) hgr.size, .inl hb⟩)
      (fun i bd hi hu hb => by
       rcases hi with hi | rfl
       ·simp [hi] at hb
       ·exact (hm hu).elim)
      (fun i bd hi hb => by
       rcases hi with hi | rfl
       ·simp [hi] at hb
       ·simp only [hKm, if_false, if_true, Option.some.injEq] at hb
        subst hb
        refine ⟨.inr ⟨Nat.le_refl _, by omega⟩, fun b hbb => ?_⟩
        obtain ⟨h1, h2⟩ := hvlt b (Bind.has_nil hbb)
        refine ⟨h1, ?_, ?_⟩
        ·rcases h2 with h2 | h2
         ·intro hf; have := M.fin b hf; omega
         ·obtain ⟨k, bd, hk, hbd, hbb2⟩ := hblk1 b h2
          exact (M.off k bd b hbd (.inl hbb2)).1
        ·rcases h2 with h2 | h2
         ·exact .inl h2
         ·obtain ⟨k, bd, hk, hbd, hbb2⟩ := hblk1 b h2
          exact .inr ⟨k, bd, .inl hk, hbd, .inl hbb2⟩)
      (fun i j bi bj b hi hj hbi hbj _ _ => by
       rcases hi with hi | rfl
       ·simp [hi] at hbi
       ·rcases hj with hj | rfl
        ·simp [hj] at hbj
        ·rfl)
      (fun E i hi hd => by
       rcases hi with hi | rfl
       ·exact (hd (hfl i ((hK1 i).1 hi))).elim
       ·refine ⟨bd', by simp [hKm], ?_⟩
        rw [hmm]
        have hall : ∀ cs ∈ xs ++ ys, cs.length = d.size := by
         intro cs hc
         rcases List.mem_append.1 hc with hc | hc
         ·exact hxs cs hc
         ·exact hys cs hc
        refine ⟨⟨rfl, rfl⟩, by simp [bd'], hall, ?_⟩
        rcases hown'.2 with ⟨hv0, hn0⟩ | ⟨g, cap, cur, hv0, _, hg, hnc, hcm, hcs, htake⟩
        ·refine .inl ⟨by simp [bd', hv0, Value.ownBlock], ?_, hv0⟩
         exact List.eq_nil_of_length_eq_zero (by simpa using hn0)
        ·refine .inr ⟨g, cap, cur, by simp [bd', hv0, Value.ownBlock], by simpa [bd'] using hv0, hg, by simpa using hnc, hcm, hcs, relE_unflat hall ?_⟩
         refine relC_of_vals (vs := cells ++ news) ?_ ?_
         ·intro j p hp
          rw [List.flatten_append] at hp
          have hcl : cells.length = xs.flatten.length := by rw [flat_len hxs]; exact hown.1
          by_cases hj : j < xs.flatten.length
          ·rw [List.getElem?_append_left hj] at hp
           obtain ⟨u, hu1, hu2⟩ := hcells j p hp
           exact ⟨u, by rw [List.getElem?_append_left (by omega)]; exact hu1, RelP.mono E.f p u hu2⟩
          ·rw [List.getElem?_append_right (by omega)] at hp
           obtain ⟨u, hu1, hu2⟩ := hncells _ p hp
           exact ⟨u, by rw [List.getElem?_append_right (by omega), hcl]; exact hu1, RelP.mono E.f p u hu2⟩
         ·intro j u hu
          have := hown'.cells (g := g) (by rw [hv0]; rfl) j u hu
          rw [Addr.add_lit, Nat.zero_add] at this
          exact this)
     refine ⟨F, _, S1, S2, ?_, fun b hb => .inl hb⟩
     simp only [RelA]
     refine ⟨.inr ⟨Nat.le_refl _, by omega⟩, ?_, fun bd hb => ?_⟩
     ·rcases hown'.2 with ⟨hv0, _⟩ | ⟨g, cap, cur, hv0, _⟩ <;> rw [hv0] <;> rfl
     ·simp only [hKm, if_false, if_true, Option.some.injEq] at hb
      subst hb; rfl
    ·simp at he
   ·simp at he
  ·simp at he
 ·simp at he
theorem ex2_run (M : MemOk W N U F β h w) (hs : ∀ id, hT id ≠ .dead → hT id = h id) {m : Nat} (hm : ¬ U m) {g : Operand → AV} {ev : Operand → Value} {o : Oper} (G : ∀ x ∈ o.op.operands.toList, RelA U w F β (g x) (ev x)) {φ : Prop} {r : Eff} (he : ex2 P g hT m o.op = some (φ, r)) (hφ : φ) :
 ∃ n w', (execOp ev o).run P w = .ok n w' ∧ isVal n = true ∧ StepTo W N U F β h w m r (nv n) w' := by
 unfold ex2 at he
 split at he
 ·rename_i e hop
  split at he
  ·rename_i d hd
   split at he
   ·rename_i hcd
    simp only [Bool.and_eq_true] at hcd
    obtain ⟨i, z, k1, k2, k3, k4, k5, k6, k7⟩ := zero_info hd hcd.1.1 hcd.1.2
    simp only [Option.some.injEq, Prod.mk.injEq] at he
    obtain ⟨_, rfl⟩ := he
    have := blk_new M hm e (cs := d.zero.map fun v => .c (.v v)) (vs := z.cells) (by rw [k3]; exact zero_rel hcd.2) (by rw [k3]; exact fun u hu => List.all_eq_true.1 hcd.2 u hu)
    refine ⟨.value _, _, ?_, rfl, this⟩
    simp only [execOp, hop, Instr.alloc, Sem.run_bind, run_zero' k1 k2, Result.andThen_ok, newVar, newRow, run_newObj, Sem.run_pure]
    rfl
   ·simp at he
  ·simp at he
 ·rename_i e x hop
  split at he
  ·rename_i cs hcs
   simp only [Option.some.injEq, Prod.mk.injEq] at he
   obtain ⟨_, rfl⟩ := he
   obtain ⟨h1, h2⟩ := cellsOf_run hcs (G x (by simp [hop, Op.operands]))
   refine ⟨.value _, _, ?_, rfl, blk_new M hm e h1 h2⟩
   simp only [execOp, hop, Instr.box, Sem.run_bind, newVar, newRow, run_newObj, Result.andThen_ok, Sem.run_pure]
   rfl
  ·simp at he
 ·rename_i t parts hop
  split at he
  ·rename_i φ' x hb
   simp only [Option.some.injEq, Prod.mk.injEq] at he
   obtain ⟨rfl, rfl⟩ := he
   obtain ⟨z, h1, h2⟩ := build_run (w := w) (fun p hp => G p.2 (by simp [hop, Op.operands]; exact ⟨_, by simpa using hp⟩)) hb
   exact ⟨.value z, w, by simp only [execOp, hop, Sem.run_bind, h1, Result.andThen_ok, Sem.run_pure], rfl, step_pure M m h2⟩
  ·simp at he
 ·rename_i t len parts hop
  obtain ⟨z, w', h1, h2⟩ := sliceLit_run M hm (fun p hp => G p.2 (by simp [hop, Op.operands]; exact ⟨_, by simpa using hp⟩)) he
  exact ⟨.value z, w', by simp only [execOp, hop, Sem.run_bind, h1, Result.andThen_ok, Sem.run_pure], rfl, h2⟩
 ·rename_i t l c hop
  obtain ⟨z, w', h1, h2⟩ := make_run M hm he hφ (G l (by simp [hop, Op.operands])) (G c (by simp [hop, Op.operands]))
  exact ⟨.value z, w', by simp only [execOp, hop, Sem.run_bind, h1, Result.andThen_ok, Sem.run_pure], rfl, h2⟩
 ·rename_i t a x hop
  obtain ⟨w', h1, h2⟩ := store_run M hs m he hφ (G a (by simp [hop, Op.operands])) (G x (by simp [hop, Op.operands]))
  exact ⟨.skip, w', by simp only [execOp, hop, Sem.run_bind, h1, Result.andThen_ok, Sem.run_pure], rfl, h2⟩
 ·rename_i args ts hop
  split at he
  ·rename_i s x t t' ha ht
   split at he
   ·rename_i heq
    have := Nat.eq_of_beq_eq_true heq
    subst this
    have ha' : args = #[s, x] := by rw [← ha]
    have ht' : ts = #[t, t] := by rw [← ht]
    subst ha' ht'
    obtain ⟨z, w', h1, h2⟩ := app_run (ty' := o.type) M hs hm he hφ (G s (by simp [hop, Op.operands, Call.operands])) (G x (by simp [hop, Op.operands, Call.operands]))
    refine ⟨.value z, w', ?_, rfl, h2⟩
    simp only [execOp, hop, resolve, Sem.run_bind, Sem.run_pure, Result.andThen_ok, invoke, builtin, List.map_toArray, List.map_cons, List.map_nil, h1]
   ·simp at he
  ·simp at he
 ·split at he
  ·rename_i φ' x hx
   simp only [Option.some.injEq, Prod.mk.injEq] at he
   obtain ⟨rfl, rfl⟩ := he
   obtain ⟨z, h1, h2⟩ := ex1_run M hs G hx hφ
   exact ⟨.value z, w, h1, rfl, step_pure M m h2⟩
  ·simp at he
end
end Go.Proofs.Ytdkmndimmpilaaa
namespace Go.Proofs.Ytdkmndimmpilaaa
set_option linter.all false
open Go.RowKit
def inZ : List Nat → Nat → Bool
 | [], _ => false
 | a :: r, i => if a = i then true else inZ r i
mutual
/-- A value where the pieces Z are given up: rows are read from then on. -/
def fz (Z : List Nat) (h : Nat → Chunk) : AV → AV
 | .undef => .undef
 | .c p => .c p
 | .agg xs => .agg (fzL Z h xs)
 | .tup xs => .tup (fzL Z h xs)
 | .own id => match inZ Z id with
  | false => .own id
  | true => match h id with | .row _ sz xs => .c (.sl sz xs) | _ => .undef
 | .view id o l => match inZ Z id with
  | false => .view id o l
  | true => match h id with | .row _ sz xs => .c (.sl sz ((xs.drop o).take l)) | _ => .undef
 | .ptr id i o => match inZ Z id with
  | false => .ptr id i o
  | true => .undef
 | .fel sz xs i o => .fel sz xs i o
 | .clo f a b => .clo f (fzL Z h a) (fzL Z h b)
 | .ifc t x => .ifc t (fz Z h x)
 | .map id => match inZ Z id with
  | false => .map id
  | true => .undef
 | .opt t x => .opt t (fz Z h x)
def fzL (Z : List Nat) (h : Nat → Chunk) : List AV → List AV
 | [] => []
 | x :: r => fz Z h x :: fzL Z h r
end
def fzF (Z : List Nat) (F : Nat → Prop) (β : Nat → Option Bind) (b : Nat) : Prop := F b ∨ ∃ id bd, inZ Z id = true ∧ β id = some bd ∧ bd.b = some b
def fzB (Z : List Nat) (β : Nat → Option Bind) (i : Nat) : Option Bind := match inZ Z i with | true => none | false => β i
def fzH (Z : List Nat) (h : Nat → Chunk) (i : Nat) : Chunk := match inZ Z i with | true => .dead | false => h i
section
variable {P : Program} {W : World} {N U F : Nat → Prop} {β : Nat → Option Bind} {h hT : Nat → Chunk} {w : World}
theorem fzB_some {Z : List Nat} {i : Nat} {bd : Bind} (h : fzB Z β i = some bd) : inZ Z i = false ∧ β i = some bd := by
 unfold fzB at h
 split at h
 ·simp at h
 ·rename_i hz; exact ⟨hz, h⟩
theorem fz_keeps (Z : List Nat) : Keeps w F w (fzF Z F β) := fun b hb => ⟨.inl hb, rfl⟩
theorem fz_row (M : MemOk W N U F β h w) (hs : ∀ id, hT id ≠ .dead → hT id = h id) {Z : List Nat} {id e sz : Nat} {xs : List (List PV)} (hn : inZ Z id = true) (hc : hT id = .row e sz xs) : ∃ bd, β id = some bd ∧ bd.sz = sz ∧ bd.n = xs.length ∧
 ((bd.b = none ∧ xs = [] ∧ bd.v = .slice none 0 0) ∨ ∃ g cap, bd.b = some g ∧ bd.v = .slice (some ⟨g, 0, none⟩) xs.length cap ∧ xs.length ≤ cap ∧ cap ≤ maxLen ∧ fzF Z F β g ∧ RelE w (fzF Z F β) g sz 0 xs) := by
 obtain ⟨bd, hb, h1, h2, h3, h4⟩ := M.get hs hc (by simp)
 refine ⟨bd, hb, h1.1, h2, ?_⟩
 rcases h4 with h4 | ⟨g, cap, cur, h5, h6, h7, h8, h9, h10, hE⟩
 ·exact .inl h4
 ·exact .inr ⟨g, cap, h5, h6, h8, h9, .inr ⟨id, bd, hn, hb, h5⟩, RelE.mono (fz_keeps Z) rfl _ _ _ hE⟩
theorem fz_own (M : MemOk W N U F β h w) (hs : ∀ id, hT id ≠ .dead → hT id = h id) {Z : List Nat} {id e sz : Nat} {xs : List (List PV)} (hn : inZ Z id = true) (hc : hT id = .row e sz xs) {v : Value} (hv : ∀ bd, β id = some bd → v = bd.v) : RelP w (fzF Z F β) (.sl sz xs) v := by
 obtain ⟨bd, hb, h1, h2, h4⟩ := fz_row M hs hn hc
 rw [hv bd hb]
 simp only [RelP]
 rcases h4 with ⟨_, rfl, h6⟩ | ⟨g, cap, h5, h6, h8, h9, hF, hE⟩
 ·exact ⟨none, 0, h6, Nat.le_refl _, Nat.zero_le _, .inl rfl⟩
 ·exact ⟨_, cap, h6, h8, h9, .inr ⟨g, 0, rfl, hF, hE⟩⟩
theorem fz_view (M : MemOk W N U F β h w) (hs : ∀ id, hT id ≠ .dead → hT id = h id) {Z : List Nat} {id e sz o l : Nat} {xs : List (List PV)} (hn : inZ Z id = true) (hc : hT id = .row e sz xs) {v : Value}
 (hv : ∀ bd, β id = some bd → ∃ a c, v = .slice a l c ∧ o + l ≤ bd.n ∧ l ≤ c ∧ c ≤ maxLen ∧ (l = 0 ∨ ∃ g, bd.b = some g ∧ a = some ⟨g, o * bd.sz, none⟩) ∧ (o = 0 → ∃ n, bd.v = .slice a n c)) : RelP w (fzF Z F β) (.sl sz ((xs.drop o).take l)) v := by
 obtain ⟨bd, hb, h1, h2, h4⟩ := fz_row M hs hn hc
 obtain ⟨a, c, rfl, k1, k2, k3, k4, _⟩ := hv bd hb
 have hl : ((xs.drop o).take l).length = l := by simp; omega
 simp only [RelP]
 refine ⟨a, c, by rw [hl], by omega, k3, ?_⟩
 rcases k4 with rfl | ⟨g, k5, k6⟩
 ·exact .inl (by simp)
 ·rcases h4 with ⟨h5, _⟩ | ⟨g', cap, h5, _, _, _, hF, hE⟩
  ·rw [k5] at h5; simp at h5
  ·rw [k5] at h5; cases h5
   refine .inr ⟨g, _, k6, hF, RelE.of fun i cs hi => ?_⟩
   rw [List.getElem?_take] at hi
   split at hi
   ·rw [List.getElem?_drop] at hi
    have := hE.at _ _ hi
    rw [h1, ← Nat.add_mul]
    simpa using this
   ·simp at hi
mutual
theorem fz_run (M : MemOk W N U F β h w) (hs : ∀ id, hT id ≠ .dead → hT id = h id) (Z : List Nat) : ∀ (x : AV) (v : Value), RelA U w F β x v → RelA U w (fzF Z F β) (fzB Z β) (fz Z hT x) v
 | .undef, v, hv => by simp only [fz, RelA]
 | .c p, v, hv => by simp only [fz, RelA] at hv ⊢; exact RelP.mono (fz_keeps Z) _ _ hv
 | .agg xs, v, hv => by
  simp only [fz, RelA] at hv ⊢
  obtain ⟨vs, rfl, k1, k2⟩ := hv
  exact ⟨vs, rfl, fzL_run M hs Z xs _ k1, k2⟩
 | .tup xs, v, hv => by
  simp only [fz, RelA] at hv ⊢
  obtain ⟨vs, rfl, k1⟩ := hv
  exact ⟨vs, rfl, fzL_run M hs Z xs _ k1⟩
 | .own id, v, hv => by
  simp only [fz]
  simp only [RelA] at hv
  split
  ·simp only [RelA]; exact ⟨hv.1, hv.2.1, fun bd hb => hv.2.2 bd (fzB_some hb).2⟩
  ·rename_i hz
   split
   ·rename_i hc; simp only [RelA]; exact fz_own M hs hz hc hv.2.2
   ·simp only [RelA]
 | .view id o l, v, hv => by
  simp only [fz]
  simp only [RelA] at hv
  split
  ·simp only [RelA]; exact ⟨hv.1, hv.2.1, fun bd hb => hv.2.2 bd (fzB_some hb).2⟩
  ·rename_i hz
   split
   ·rename_i hc; simp only [RelA]; exact fz_view M hs hz hc hv.2.2
   ·simp only [RelA]
 | .ptr id i o, v, hv => by
  simp only [fz]
  simp only [RelA] at hv
  split
  ·simp only [RelA]; exact ⟨hv.1, hv.2.1, fun bd hb => hv.2.2 bd (fzB_some hb).2⟩
  ·simp only [RelA]
 | .fel sz xs i o, v, hv => by
  simp only [fz, RelA] at hv ⊢
  obtain ⟨b, p, rfl, hb, hE⟩ := hv
  exact ⟨b, p, rfl, .inl hb, RelE.mono (fz_keeps Z) rfl _ _ _ hE⟩
 | .clo f a b, v, hv => by
  simp only [fz, RelA] at hv ⊢
  obtain ⟨fs, cs, rfl, k1, k2⟩ := hv
  exact ⟨fs, cs, rfl, fzL_run M hs Z a _ k1, fzL_run M hs Z b _ k2⟩
 | .ifc t x, v, hv => by
  simp only [fz, RelA] at hv ⊢
  obtain ⟨y, rfl, k1⟩ := hv
  exact ⟨y, rfl, fz_run M hs Z x y k1⟩
 | .map id, v, hv => by
  simp only [fz]
  simp only [RelA] at hv
  split
  ·simp only [RelA]; exact ⟨hv.1, hv.2.1, fun bd hb => hv.2.2 bd (fzB_some hb).2⟩
  ·simp only [RelA]
 | .opt t x, v, hv => by
  simp only [fz, RelA] at hv ⊢
  exact ⟨fun ht => fz_run M hs Z x v (hv.1 ht), hv.2⟩
theorem fzL_run (M : MemOk W N U F β h w) (hs : ∀ id, hT id ≠ .dead → hT id = h id) (Z : List Nat) : ∀ (xs : List AV) (vs : List Value), RelL U w F β xs vs → RelL U w (fzF Z F β) (fzB Z β) (fzL Z hT xs) vs
 | [], vs, hv => by simp only [fzL, RelL] at hv ⊢; exact hv
 | x :: r, vs, hv => by
  simp only [fzL, RelL] at hv ⊢
  obtain ⟨u, us, rfl, k1, k2⟩ := hv
  exact ⟨u, us, rfl, fz_run M hs Z x u k1, fzL_run M hs Z r us k2⟩
end
theorem fz_ext (Z : List Nat) : Ext U F β w U (fzF Z F β) (fzB Z β) w := ⟨fun _ h => h, fz_keeps Z, fun _ _ _ hb => ⟨_, (fzB_some hb).2⟩⟩
theorem fz_mem (M : MemOk W N U F β h w) (Z : List Nat) : MemOk W N U (fzF Z F β) (fzB Z β) (fzH Z h) w := by
 refine ⟨M.size, M.os, M.tape, M.output, M.frame, fun b hb => ?_, fun id bd hb => M.used id bd (fzB_some hb).2, fun id hd => ?_, fun i j bi bj b hi hj => M.dis i j bi bj b (fzB_some hi).2 (fzB_some hj).2, fun i bd b hi hb => ?_⟩
 ·rcases hb with hb | ⟨id, bd, _, h1, h2⟩
  ·exact M.fin b hb
  ·exact (M.off id bd b h1 (.inl h2)).2.1
 ·unfold fzH at hd ⊢
  cases hz : inZ Z id with
  | true => rw [hz] at hd; exact absurd rfl hd
  | false =>
   rw [hz] at hd
   obtain ⟨bd, hb, hk⟩ := M.ch id hd
   exact ⟨bd, by unfold fzB; rw [hz]; exact hb, hk.mono (fz_ext Z) fun _ _ => rfl⟩
 ·obtain ⟨hz, hi⟩ := fzB_some hi
  obtain ⟨h1, h2, h3⟩ := M.off i bd b hi hb
  refine ⟨fun hf => ?_, h2, h3⟩
  rcases hf with hf | ⟨id, bd', hz', hb', hbb⟩
  ·exact h1 hf
  ·have := M.dis i id bd bd' b hi hb' hb (.inl hbb)
   subst this
   rw [hz] at hz'; simp at hz'
def deadsOf (Z : List Nat) : List (Nat × Chunk) := Z.map fun i => (i, .dead)
theorem upd_deads (h : Nat → Chunk) : ∀ (Z : List Nat), upd h (deadsOf Z) = fzH Z h
 | [] => by funext i; simp [deadsOf, upd, fzH, inZ]
 | a :: r => by
  funext i
  have := congrFun (upd_deads h r) i
  simp only [deadsOf, List.map_cons, upd] at this ⊢
  unfold fzH inZ
  by_cases e : a = i
  ·simp [e]
  ·rw [if_neg e, if_neg e, this]; rfl
theorem upd_append (h : Nat → Chunk) : ∀ (xs ys : List (Nat × Chunk)), upd h (xs ++ ys) = upd (upd h ys) xs
 | [], ys => rfl
 | (k, c) :: r, ys => by
  funext i
  have := congrFun (upd_append h r ys) i
  simp only [List.cons_append, upd, this]
theorem StepTo.behind (M : MemOk W N U F β h w) (Z : List Nat) {m : Nat} {e : Eff} {v : Value} {w' : World} (S : StepTo W N U (fzF Z F β) (fzB Z β) (fzH Z h) w m e v w') : StepTo W N U F β h w m ⟨e.val, e.ups ++ deadsOf Z, e.fresh⟩ v w' := by
 obtain ⟨F', β', M', E', hr, hF⟩ := S
 refine ⟨F', β', ?_, (fz_ext Z).trans E', hr, fun b hb => ?_⟩
 ·rw [upd_append, upd_deads]; exact M'
 ·rcases hF b hb with h1 | h1
  ·rcases h1 with h1 | ⟨id, bd, _, h2, h3⟩
   ·exact .inl h1
   ·exact .inr (M.off id bd b h2 (.inl h3)).2.2
  ·exact .inr h1
end
mutual
/-- The rows that a value names. -/
def rowsA (h : Nat → Chunk) : AV → List Nat
 | .agg xs => rowsL h xs
 | .own id => match h id with | .row _ _ _ => [id] | _ => []
 | .view id _ _ => match h id with | .row _ _ _ => [id] | _ => []
 | _ => []
def rowsL (h : Nat → Chunk) : List AV → List Nat
 | [] => []
 | x :: r => rowsA h x ++ rowsL h r
end
def fzEff (Z : List Nat) : Option (Prop × Eff) → Option (Prop × Eff)
 | some (φ, ⟨v, ups, fr⟩) => some (φ, ⟨v, ups ++ deadsOf Z, fr⟩)
 | none => none
end Go.Proofs.Ytdkmndimmpilaaa
namespace Go.Proofs.Ytdkmndimmpilaaa
set_option linter.all false
open Go.RowKit
def partOf (h : Nat → Chunk) : AV → Option (Nat × Nat × Nat × TypeId × Nat × List (List PV))
 | .own id => match h id with | .row e sz xs => some (id, 0, xs.length, e, sz, xs) | _ => none
 | .view id o l => match h id with | .row e sz xs => some (id, o, l, e, sz, xs) | _ => none
 | _ => none
def copyAV (P : Program) (h : Nat → Chunk) (t : TypeId) (d s : AV) : Option (Prop × Eff) :=
 match ty P t with
 | some ⟨.sl e, _, _, _, _⟩ => match ty P e with
  | some de => match partOf h d, slOf h s with
   | some (id, o, l, e', sz, xs), some (sz', ys) => if Nat.beq de.size sz && Nat.ble 1 sz then some ((sz' = sz ∨ ys = []) ∧ o + l ≤ xs.length, ⟨I .i64 ((min ys.length l : Nat) : Int), [(id, .row e' sz (splice xs o (ys.take l)))], 0⟩) else none
   | _, _ => none
  | none => none
 | _ => none
section
variable {P : Program} {W : World} {N U F : Nat → Prop} {β : Nat → Option Bind} {h hT : Nat → Chunk} {w : World}
theorem upd_here (h : Nat → Chunk) (id : Nat) (c : Chunk) (hc : h id = c) : upd h [(id, c)] = h := by
 funext i
 simp only [upd]
 by_cases e : id = i
 ·subst e; rw [if_pos rfl, hc]
 ·rw [if_neg e]
theorem partOf_run (M : MemOk W N U F β h w) (hs : ∀ id, hT id ≠ .dead → hT id = h id) {d : AV} {id o l sz : Nat} {e : TypeId} {xs : List (List PV)} (he : partOf hT d = some (id, o, l, e, sz, xs)) {v : Value} (hv : RelA U w F β d v) :
 hT id = .row e sz xs ∧ ∃ bd a c, β id = some bd ∧ ChOk U w F β bd (.row e sz xs) ∧ v = .slice a l c ∧ (l = 0 ∨ ∃ g, bd.b = some g ∧ a = some ⟨g, o * sz, none⟩) := by
 unfold partOf at he
 split at he
 ·rename_i id'
  split at he
  ·rename_i e' sz' xs' hc
   simp only [Option.some.injEq, Prod.mk.injEq] at he
   obtain ⟨rfl, rfl, rfl, rfl, rfl, rfl⟩ := he
   obtain ⟨bd, hb, hok⟩ := M.get hs hc (by simp)
   simp only [RelA] at hv
   obtain ⟨_, _, hv⟩ := hv
   have hvb := hv bd hb
   refine ⟨hc, bd, ?_⟩
   obtain ⟨h1, h2, h3, h4⟩ := hok
   rcases h4 with ⟨h5, h6, h7⟩ | ⟨g, cap, cur, h5, h6, h7, h8, h9, h10, hE⟩
   ·exact ⟨none, 0, hb, ⟨h1, h2, h3, .inl ⟨h5, h6, h7⟩⟩, by rw [hvb, h7, h6]; rfl, .inl (by rw [h6]; rfl)⟩
   ·exact ⟨some ⟨g, 0, none⟩, cap, hb, ⟨h1, h2, h3, .inr ⟨g, cap, cur, h5, h6, h7, h8, h9, h10, hE⟩⟩, by rw [hvb, h6], .inr ⟨g, h5, by rw [Nat.zero_mul]⟩⟩
  ·simp at he
 ·rename_i id' o' l'
  split at he
  ·rename_i e' sz' xs' hc
   simp only [Option.some.injEq, Prod.mk.injEq] at he
   obtain ⟨rfl, rfl, rfl, rfl, rfl, rfl⟩ := he
   obtain ⟨bd, hb, hok⟩ := M.get hs hc (by simp)
   simp only [RelA] at hv
   obtain ⟨_, _, hv⟩ := hv
   obtain ⟨a, c, q1, q2, q3, q4, q5, _⟩ := hv bd hb
   have hbs := hok.1
   exact ⟨hc, bd, a, c, hb, hok, q1, by rw [← hbs.1]; exact q5⟩
  ·simp at he
 ·simp at he
theorem copy_run (M : MemOk W N U F β h w) (hs : ∀ id, hT id ≠ .dead → hT id = h id) (m : Nat) {t ty' : TypeId} {d s : AV} {φ : Prop} {r : Eff} (he : copyAV P hT t d s = some (φ, r)) (hφ : φ) {dv sv : Value} (hd : RelA U w F β d dv) (hsv : RelA U w F β s sv) :
 ∃ z w', (Builtin.copy_ #[t, t] ty' #[dv, sv]).run P w = .ok z w' ∧ StepTo W N U F β h w m r z w' := by
 unfold copyAV at he
 split at he
 ·rename_i e _ _ _ _ ht
  split at he
  ·rename_i de hde
   split at he
   ·rename_i id o l e' sz xs sz' ys hp hsl
    split at he
    ·rename_i hcond
     simp only [Bool.and_eq_true] at hcond
     have hdz := Nat.eq_of_beq_eq_true hcond.1
     have hz1 := Nat.le_of_ble_eq_true hcond.2
     simp only [Option.some.injEq, Prod.mk.injEq] at he
     obtain ⟨rfl, rfl⟩ := he
     obtain ⟨hszy, hol⟩ := hφ
     obtain ⟨hc, bd, a, c, hb, hok, rfl, haddr⟩ := partOf_run M hs hp hd
     obtain ⟨a2, c2, rfl, hyc, _, hE2⟩ := slOf_run M hs hsl hsv
     obtain ⟨_, u, _, hu, hku, _⟩ := ty_kind ht
     have hue := kind_sl hku
     subst hue
     obtain ⟨je, due, f1, f2, f3, f4, f5, _⟩ := ty_d hde
     have hlen : (Builtin.lenOf (.slice a2 ys.length c2)).run P w = .ok ys.length w := by simp [Builtin.lenOf]
     have hn : Nat.min ys.length l = min ys.length l := rfl
     have hid : h id = .row e' sz xs := by rw [← hs id (by rw [hc]; simp)]; exact hc
     by_cases hn0 : min ys.length l = 0
     · -- nothing is copied
      have hsame : splice xs o (ys.take l) = xs := by
       have : ys.take l = [] := by rw [← List.length_eq_zero_iff, List.length_take]; omega
       rw [this]; unfold splice; simp
      refine ⟨.int .i64 0, w, ?_, ?_⟩
      ·have hfc : (Builtin.firstCells de.size 0 (.slice a2 ys.length c2)).run P w = .ok #[] w := by
        cases a2 with
        | none => exact run_firstCells_none _ _ _ _ _
        | some b => exact run_firstCells_some _ _ _ _ _ _ [] (by simp) (by simp)
       have hst : ∀ b : Addr, (storeCells b []).run P w = .ok () w := fun b => by simp [storeCells]
       unfold Builtin.copy_
       simp only [List.getElem?_toArray, List.getElem?_cons_zero, List.getElem?_cons_succ, Sem.run_bind, run_underlying hu, Result.andThen_ok, hlen, run_sizeOf' f1, f5, hn, hn0, hfc]
       cases a <;> simp [hst, goInt]
      ·rw [hsame, hn0]
       obtain ⟨F', β', q1, q2, q3, q4⟩ := step_pure (W := W) (N := N) M m (x := I .i64 ((0 : Nat) : Int)) (v := .int .i64 0) (relI.2 rfl)
       exact ⟨F', β', by rw [upd_here _ _ _ hid]; exact q1, q2, q3, q4⟩
     ·have hl0 : l ≠ 0 := by intro e0; rw [e0] at hn0; simp at hn0
      have hy0 : ys ≠ [] := by intro e0; rw [e0] at hn0; simp at hn0
      have hszz : sz' = sz := hszy.resolve_right hy0
      subst hszz
      obtain ⟨g, hg, rfl⟩ := haddr.resolve_left hl0
      obtain ⟨b, o2, rfl, hEs⟩ := hE2.resolve_left hy0
      obtain ⟨h1, h2, h3, h4⟩ := hok
      rcases h4 with ⟨h5, _⟩ | ⟨g', cap, cur, h5, h6, h7, h8, h9, h10, hE⟩
      ·rw [hg] at h5; simp at h5
      rw [hg] at h5
      cases h5
      obtain ⟨n, hnn⟩ : ∃ n, n = min ys.length l := ⟨_, rfl⟩
      have hny : n ≤ ys.length := by omega
      have hnl : n ≤ l := by omega
      -- the cells that are read
      have hrd : ∃ us : List Value, us.length = n * sz' ∧ (∀ j v, us[j]? = some v → w.cell? ⟨b, o2 + j, none⟩ = some v) ∧ (∀ v ∈ us, v.oneCell' = true) := by
       obtain ⟨vs, v1, v2, v3⟩ := RelC.vals (U := U) (β := β) (relE_flat hEs)
       have hvl : vs.length = ys.length * sz' := by
        have q := v1.len
        rw [List.length_map, flat_len (sz := sz') (fun cs hcs => by
         obtain ⟨i, hi, rfl⟩ := List.getElem_of_mem hcs
         exact (hEs.at i _ (by simp [hi])).1)] at q
        exact q
       refine ⟨vs.take (n * sz'), by rw [List.length_take, hvl]; exact Nat.min_eq_left (Nat.mul_le_mul_right _ hny), fun j v hj => v2 j v ?_, fun v hv => v3 v (List.mem_of_mem_take hv)⟩
       rw [List.getElem?_take] at hj
       split at hj
       ·exact hj
       ·simp at hj
      obtain ⟨us, ul, uc, u1⟩ := hrd
      have hsz : (o + l) * sz' ≤ xs.length * sz' := Nat.mul_le_mul_right _ hol
      have hsz2 : xs.length * sz' ≤ cap * sz' := Nat.mul_le_mul_right _ h8
      have hnsz : n * sz' ≤ l * sz' := Nat.mul_le_mul_right _ hnl
      rw [Nat.add_mul] at hsz
      have hfit : o * sz' + us.length ≤ cur.size := by rw [ul, h10]; omega
      have hst := run_storeCells_at P g (o * sz') e' us 0 cur w h7 (by omega) u1
      have hsp : cur.toList.take (o * sz' + 0) ++ us ++ cur.toList.drop (o * sz' + 0 + us.length) = splice cur.toList (o * sz') us := by unfold splice; simp
      rw [hsp] at hst
      refine ⟨.int .i64 ((n : Nat) : Int), w.setRow g (splice cur.toList (o * sz') us).toArray, ?_, ?_⟩
      ·have hfc : (Builtin.firstCells de.size n (.slice (some ⟨b, o2, none⟩) ys.length c2)).run P w = .ok us.toArray w :=
        run_firstCells_some _ _ _ _ _ _ us (by rw [ul, hdz]) (fun j v hj => by have := uc j v hj; simpa [Addr.add_lit] using this)
       unfold Builtin.copy_
       simp only [List.getElem?_toArray, List.getElem?_cons_zero, List.getElem?_cons_succ, Sem.run_bind, run_underlying hu, Result.andThen_ok, hlen, run_sizeOf' f1, f5, hn, ← hnn, hfc, hst, Sem.run_pure]
       rfl
      ·obtain ⟨s1, s2, s3, s4, s5⟩ := setRow_grown w g (splice cur.toList (o * sz') us).toArray
       have hheap := setRow_heap w g cur (splice cur.toList (o * sz') us).toArray e' (0, 0) h7
       have htl : (ys.take l).length = n := by rw [List.length_take]; omega
       have hspl : o + (ys.take l).length ≤ xs.length := by omega
       have base := step_set (W := W) (N := N) M m hb hg s1 s2 s3 s4 s5 (c := .row e' sz' (splice xs o (ys.take l))) (fun E => ?_) undef
       ·obtain ⟨F', β', q1, q2, q3, q4⟩ := base
        refine ⟨F', β', q1, q2, ?_, q4⟩
        rw [hnn]; exact relI.2 rfl
       refine ⟨h1, by rw [splice_len _ _ _ hspl]; exact h2, ?_, .inr ⟨g, cap, _, hg, by rw [splice_len _ _ _ hspl]; exact h6, hheap, by rw [splice_len _ _ _ hspl]; exact h8, h9, ?_, ?_⟩⟩
       ·intro cs hcs
        unfold splice at hcs
        rcases List.mem_append.1 hcs with hm | hm
        ·exact h3 cs (List.mem_of_mem_take hm)
        ·rcases List.mem_append.1 hm with hm | hm
         ·obtain ⟨i, hi, rfl⟩ := List.getElem_of_mem (List.mem_of_mem_take hm)
          exact (hEs.at i _ (by simp [hi])).1
         ·exact h3 cs (List.mem_of_mem_drop hm)
       ·simp only [List.size_toArray]
        rw [splice_len _ _ _ (by simpa using hfit)]
        simpa using h10
       ·refine RelE.of fun q cs hq => ?_
        have hcell : ∀ k, (w.setRow g (splice cur.toList (o * sz') us).toArray).cell? ⟨g, k, none⟩ = if o * sz' ≤ k ∧ k < o * sz' + n * sz' then us[k - o * sz']? else w.cell? ⟨g, k, none⟩ := by
         intro k
         have e0 : w.cell? ⟨g, k, none⟩ = cur[k]? := by simp [World.cell?, h7]
         rw [e0]
         simp only [World.cell?, hheap, Option.isSome_none, Bool.false_eq_true, if_false]
         have := splice_get cur.toList (o * sz') us (by simpa using hfit) k
         rw [ul] at this
         simpa using this
        rw [splice_get _ _ _ hspl, htl] at hq
        split at hq
        ·rename_i hr
         rw [List.getElem?_take] at hq
         split at hq
         ·obtain ⟨k1, k2⟩ := hEs.at (q - o) cs hq
          refine ⟨k1, RelC.of fun j x hx => ?_⟩
          have hj : j < sz' := by rw [← k1]; exact (List.getElem?_eq_some_iff.1 hx).1
          obtain ⟨u, hu1, hu2⟩ := k2.at j x hx
          have hqo : (q - o) * sz' + sz' ≤ n * sz' := by rw [← Nat.succ_mul]; exact Nat.mul_le_mul_right _ (by omega)
          have hqq : q * sz' = o * sz' + (q - o) * sz' := by rw [← Nat.add_mul]; congr 1; omega
          refine ⟨u, ?_, RelP.mono E.f x u hu2⟩
          rw [hcell, if_pos (by omega)]
          have hlt : 0 + q * sz' + j - o * sz' < us.length := by rw [ul]; omega
          have := uc (0 + q * sz' + j - o * sz') us[0 + q * sz' + j - o * sz'] (by simp [hlt])
          rw [show o2 + (0 + q * sz' + j - o * sz') = o2 + (q - o) * sz' + j from by omega, hu1] at this
          rw [List.getElem?_eq_getElem hlt, ← this]
         ·simp at hq
        ·rename_i hr
         obtain ⟨hl2, hC⟩ := hE.at q cs hq
         refine ⟨hl2, RelC.of fun j y hy => ?_⟩
         have hj : j < sz' := by rw [← hl2]; exact (List.getElem?_eq_some_iff.1 hy).1
         rw [hcell, if_neg (by
          intro hh
          apply hr
          constructor
          ·rcases Nat.lt_or_ge q o with h' | h'
           ·have : (q + 1) * sz' ≤ o * sz' := Nat.mul_le_mul_right _ h'
            rw [Nat.add_mul] at this; omega
           ·exact h'
          ·rcases Nat.lt_or_ge q (o + n) with h' | h'
           ·exact h'
           ·have : (o + n) * sz' ≤ q * sz' := Nat.mul_le_mul_right _ h'
            rw [Nat.add_mul] at this; omega)]
         obtain ⟨u, hu1, hu2⟩ := hC.at j y hy
         exact ⟨u, hu1, RelP.mono E.f y u hu2⟩
    ·simp at he
   ·simp at he
  ·simp at he
 ·simp at he
end
end Go.Proofs.Ytdkmndimmpilaaa
