/- Small facts on lists that lie in memory: a slice that reads as a list, kept while the world below a block stays as it was. -/
import Derived.Test.YtibknlfadoeglaaProg
import Derived.WalkKit
import Derived.Handy
import Derived.WalkSpells
import Derived.WalkLawsBesides
import Derived.Lib.Hide
import Derived.Lib.BitFns
import Derived.Laws.BitsAllLaws
import Derived.Laws.AppendOwnNone
import Derived.Lib.SliceRun

import Derived.Deep.Draws
import Derived.Deep.QuietTactic
namespace Go.Proofs.Ytibknlfadoeglaa
set_option linter.all false
open Go.RowKit

/-- The cells of a slice's elements: each element is a row of sz cells. -/
def Els {α : Type} (w : World) (B : Nat) (a : Option Addr) (sz : Nat) (enc : α → List Value) (xs : List α) : Prop :=
  xs = [] ∨ ∃ b o, a = some ⟨b, o, none⟩ ∧ b < B ∧ ∀ i j v, (xs[i]?).bind (fun x => (enc x)[j]?) = some v → w.cell? ⟨b, o + (i * sz + j), none⟩ = some v

theorem Els.nil {α : Type} (w : World) (B : Nat) (a : Option Addr) (sz : Nat) (enc : α → List Value) : Els w B a sz enc [] := .inl rfl

theorem Els.get {α : Type} {w : World} {B : Nat} {a : Option Addr} {sz : Nat} {enc : α → List Value} {xs : List α} (h : Els w B a sz enc xs) (i : Nat) (hi : i < xs.length) :
    ∃ b o, a = some ⟨b, o, none⟩ ∧ b < B ∧ ∀ j v, (enc xs[i])[j]? = some v → w.cell? ⟨b, o + (i * sz + j), none⟩ = some v := by
  rcases h with rfl | ⟨b, o, ha, hb, hc⟩
  · simp at hi
  · exact ⟨b, o, ha, hb, fun j v hv => hc i j v (by simp [hi, hv])⟩

theorem Els.below {α : Type} {w w' : World} {B B' : Nat} {a : Option Addr} {sz : Nat} {enc : α → List Value} {xs : List α} (h : Els w B a sz enc xs) (hb : Below B' w w') (hB : B ≤ B') : Els w' B a sz enc xs := by
  rcases h with rfl | ⟨b, o, ha, hlt, hc⟩
  · exact .inl rfl
  · exact .inr ⟨b, o, ha, hlt, fun i j v hv => (hb.cell (p := ⟨b, _, none⟩) (Nat.lt_of_lt_of_le hlt hB)).trans (hc i j v hv)⟩

theorem Els.mono {α : Type} {w : World} {B B' : Nat} {a : Option Addr} {sz : Nat} {enc : α → List Value} {xs : List α} (h : Els w B a sz enc xs) (hB : B ≤ B') : Els w B' a sz enc xs := by
  rcases h with rfl | ⟨b, o, ha, hlt, hc⟩
  · exact .inl rfl
  · exact .inr ⟨b, o, ha, by omega, hc⟩

theorem below_lit (w : World) (o : Obj) : Below w.heap.size w (w.alloc o) := (Below.refl _ _).alloc (Nat.le_refl _) _
theorem Els.lt_some {α : Type} {w : World} {B : Nat} {a : Option Addr} {sz : Nat} {enc : α → List Value} {xs : List α} (h : Els w B a sz enc xs) (o : Obj) (hB : B ≤ w.heap.size) : Els (w.alloc o) B a sz enc xs := h.below (below_lit w o) hB

theorem bcell {W w1 : World} {B : Nat} (hb : Below B W w1) : (∀ b o, b < B → w1.cell? ⟨b, o, none⟩ = W.cell? ⟨b, o, none⟩) ∧ (∀ b o, b < B → w1.frozen? ⟨b, o, none⟩ = W.frozen? ⟨b, o, none⟩) :=
  ⟨fun b o h => hb.cell (p := ⟨b, o, none⟩) h, fun b o h => hb.frozen (p := ⟨b, o, none⟩) h⟩
theorem _root_.Go.RowKit.Below.drewn {B : Nat} {a w : World} (h : Below B a w) (n : Nat) : Below B a (w.drewN n) := ⟨h.os, h.tape, h.output, h.size, h.block⟩

def e64 (n : Nat) : List Value := [.int .u64 n]
def e32 (n : Nat) : List Value := [.int .u32 n]
def ei64 (n : Int) : List Value := [.int .i64 n]

theorem Els.u64 {w : World} {B : Nat} {a : Option Addr} {xs : List Nat} (h : Els w B a 1 e64 xs) (i : Nat) (hi : i < xs.length) :
    ∃ b o, a = some ⟨b, o, none⟩ ∧ b < B ∧ w.cell? ⟨b, o + i, none⟩ = some (.int .u64 (xs[i] : Nat)) := by
  obtain ⟨b, o, ha, hb, hc⟩ := h.get i hi
  exact ⟨b, o, ha, hb, by simpa using hc 0 _ rfl⟩
theorem Els.i64 {w : World} {B : Nat} {a : Option Addr} {xs : List Int} (h : Els w B a 1 ei64 xs) (i : Nat) (hi : i < xs.length) :
    ∃ b o, a = some ⟨b, o, none⟩ ∧ b < B ∧ w.cell? ⟨b, o + i, none⟩ = some (.int .i64 xs[i]) := by
  obtain ⟨b, o, ha, hb, hc⟩ := h.get i hi
  exact ⟨b, o, ha, hb, by simpa using hc 0 _ rfl⟩

theorem Els.u32 {w : World} {B : Nat} {a : Option Addr} {xs : List Nat} (h : Els w B a 1 e32 xs) (i : Nat) (hi : i < xs.length) :
    ∃ b o, a = some ⟨b, o, none⟩ ∧ b < B ∧ w.cell? ⟨b, o + i, none⟩ = some (.int .u32 (xs[i] : Nat)) := by
  obtain ⟨b, o, ha, hb, hc⟩ := h.get i hi
  exact ⟨b, o, ha, hb, by simpa using hc 0 _ rfl⟩
theorem take_snoc' {α : Type} (xs : List α) (k : Nat) (h : k < xs.length) : xs.take (k + 1) = xs.take k ++ [xs[k]] := by
  rw [List.take_succ_eq_append_getElem h]

/-- A list of rows of sz cells, read at its place. -/
theorem flatMap_get {α β : Type} (enc : α → List β) (sz : Nat) : ∀ (xs : List α), (∀ x ∈ xs, (enc x).length = sz) → ∀ i j, j < sz → (xs.flatMap enc)[i * sz + j]? = (xs[i]?).bind fun x => (enc x)[j]? := by
  intro xs
  induction xs with
  | nil => intro _ i j _; simp
  | cons x xs ih =>
    intro h i j hj
    have hx := h x (by simp)
    cases i with
    | zero => simp [List.flatMap_cons, List.getElem?_append, hx, hj]
    | succ i =>
      have e : (i + 1) * sz + j = sz + (i * sz + j) := by rw [Nat.add_mul]; omega
      rw [List.flatMap_cons, List.getElem?_append_right (by omega), e, hx, Nat.add_sub_cancel_left, ih (fun y hy => h y (by simp [hy])) i j hj]
      simp
theorem flatMap_len {α β : Type} (enc : α → List β) (sz : Nat) (xs : List α) (h : ∀ x ∈ xs, (enc x).length = sz) : (xs.flatMap enc).length = xs.length * sz := by
  induction xs with
  | nil => simp
  | cons x xs ih => rw [List.flatMap_cons, List.length_append, h x (by simp), ih fun y hy => h y (by simp [hy]), List.length_cons, Nat.add_mul]; omega
theorem mul_div_lt {j sz n : Nat} (h : j < n * sz) : j / sz < n ∧ j / sz * sz + j % sz = j ∧ j % sz < sz := by
  have hs : 0 < sz := by
    rcases Nat.eq_zero_or_pos sz with rfl | h0
    · simp at h
    · exact h0
  exact ⟨(Nat.div_lt_iff_lt_mul hs).2 h, by rw [Nat.mul_comm]; exact Nat.div_add_mod j sz, Nat.mod_lt _ hs⟩

theorem Els.news {α : Type} {w : World} {B : Nat} {a : Option Addr} {sz : Nat} {enc : α → List Value} {xs : List α} (h : Els w B a sz enc xs) (he : ∀ x ∈ xs, (enc x).length = sz) :
    ∀ ad, a = some ad → ∀ j u, (xs.flatMap enc)[j]? = some u → w.cell? (ad.add j) = some u := by
  intro ad had j u hu
  rcases h with rfl | ⟨b, o, ha, hb, hc⟩
  · simp at hu
  · rw [ha] at had
    obtain rfl := Option.some.inj had
    have hj : j < xs.length * sz := by rw [← flatMap_len enc sz xs he]; exact (List.getElem?_eq_some_iff.1 hu).1
    obtain ⟨h1, h2, h3⟩ := mul_div_lt hj
    have := hc (j / sz) (j % sz) u (by rw [← flatMap_get enc sz xs he _ _ h3, h2]; exact hu)
    rw [h2] at this
    rw [Addr.add_lit]; exact this

theorem Els.ofOwn {α : Type} {w : World} {base e sz n : Nat} {v : Value} {enc : α → List Value} {xs : List α} (h : w.ownsRow base e sz v n (xs.flatMap enc)) (he : ∀ x ∈ xs, (enc x).length = sz) (hsz : 0 < sz) :
    ∃ a c, v = .slice a xs.length c ∧ n = xs.length ∧ Els w w.heap.size a sz enc xs ∧ xs.length ≤ c ∧ c ≤ maxLen := by
  have hn : n = xs.length := by
    have := h.1; rw [flatMap_len enc sz xs he] at this
    exact (Nat.eq_of_mul_eq_mul_right hsz this).symm
  subst hn
  rcases h.2 with ⟨rfl, h0⟩ | ⟨g, cap, cur, rfl, hb, hg, hnc, hcm, hcs, ht⟩
  · exact ⟨none, 0, by rw [h0], rfl, .inl (List.eq_nil_of_length_eq_zero h0), by omega, by unfold maxLen; omega⟩
  · refine ⟨some ⟨g, 0, none⟩, cap, rfl, rfl, .inr ⟨g, 0, rfl, ?_, fun i j u hu => ?_⟩, hnc, hcm⟩
    · exact (Array.getElem?_eq_some_iff.1 hg).1
    · have hj : j < sz := by
        cases hx : xs[i]? with
        | none => rw [hx] at hu; simp at hu
        | some x =>
          rw [hx] at hu
          have := (List.getElem?_eq_some_iff.1 hu).1
          rwa [he x (List.mem_of_getElem? hx)] at this
      have hc := h.cells (g := g) rfl (i * sz + j) u (by rw [flatMap_get enc sz xs he i j hj]; exact hu)
      rw [Addr.add_lit] at hc; exact hc

theorem Els.take {α : Type} {w : World} {B : Nat} {a : Option Addr} {sz : Nat} {enc : α → List Value} {xs : List α} (h : Els w B a sz enc xs) (m : Nat) : Els w B a sz enc (xs.take m) := by
  rcases h with rfl | ⟨b, o, ha, hb, hc⟩
  · exact .inl (by simp)
  · refine .inr ⟨b, o, ha, hb, fun i j v hv => ?_⟩
    rw [List.getElem?_take] at hv
    split at hv
    · exact hc i j v hv
    · simp at hv
theorem Els.drop {α : Type} {w : World} {B b o : Nat} {sz : Nat} {enc : α → List Value} {xs : List α} (h : Els w B (some ⟨b, o, none⟩) sz enc xs) (m : Nat) : Els w B (some ⟨b, o + m * sz, none⟩) sz enc (xs.drop m) := by
  rcases h with rfl | ⟨b', o', ha, hb, hc⟩
  · exact .inl (by simp)
  · simp only [Option.some.injEq, Addr.mk.injEq, and_true] at ha
    obtain ⟨rfl, rfl⟩ := ha
    refine .inr ⟨b, o + m * sz, rfl, hb, fun i j v hv => ?_⟩
    rw [List.getElem?_drop] at hv
    have := hc (m + i) j v hv
    rwa [Nat.add_mul, show o + (m * sz + i * sz + j) = o + m * sz + (i * sz + j) from by omega] at this
theorem Els.drewn {α : Type} {w : World} {B : Nat} {a : Option Addr} {sz : Nat} {enc : α → List Value} {xs : List α} (h : Els w B a sz enc xs) (n : Nat) : Els (w.drewN n) B a sz enc xs := h

theorem els_dr {α : Type} {w w' : World} {B : Nat} {a : Option Addr} {sz : Nat} {enc : α → List Value} {xs : List α} (h : Els w B a sz enc xs) (hq : ∃ m, w' = w.drewN m) : Els w' B a sz enc xs := by
  obtain ⟨m, rfl⟩ := hq; exact h
theorem dr_drew {w w' : World} (hq : ∃ m, w' = w.drewN m) : ∃ m, w'.drew = w.drewN m := by
  obtain ⟨m, rfl⟩ := hq; exact ⟨m + 1, rfl⟩
theorem Els.b0 {α : Type} {w : World} {B : Nat} {a : Option Addr} {sz : Nat} {enc : α → List Value} {xs : List α} (h : Els w B a sz enc xs) : xs = [] ∨ ∃ b o, a = some ⟨b, o, none⟩ ∧ b < B := by
  rcases h with h | ⟨b, o, h1, h2, _⟩
  · exact .inl h
  · exact .inr ⟨b, o, h1, h2⟩

/-- What the table of types says of a slice type: its element's number, cells and bytes. -/
def ElT (P : Program) (t e size bytes : Nat) (z : Value) : Prop :=
  P.underlying t = some (.slice e) ∧ 0 < size ∧ ∃ i, P.info? e = some i ∧ i.zero = some z ∧ i.size = size ∧ i.bytes = bytes ∧ z.cells.size = size
theorem ElT.mk' {P : Program} {t e size bytes : Nat} {z : Value} (h1 : P.underlying t = some (.slice e)) (h2 : (P.info? e).map (fun i => (i.zero, i.size, i.bytes)) = some (some z, size, bytes)) (h3 : z.cells.size = size) (h4 : 0 < size) : ElT P t e size bytes z := by
  obtain ⟨i, hi, hz0, hz1, hz2⟩ := info_parts h2
  exact ⟨h1, h4, i, hi, hz0, hz1, hz2, h3⟩

/-- append onto a row of the call's own, whatever the source. -/
theorem wpApp {P : Program} (w : World) {ops : Array Oper} {rest : List Oper} {o : Oper} {a : Act} {Q : Exit → Act → World → Prop} (hgd : o.guard = none) (s x : Operand) (t : TypeId)
    (ho : o.op = .call { callee := .builtin .append, args := #[s, x], argTypes := #[t, t] })
    (base e size bytes : Nat) {z : Value} (hT : ElT P t e size bytes z)
    (v : Value) (n : Nat) (xs : List Value) (hs : a.eval s = v) (hown : w.ownsRow base e size v n xs)
    (ao : Option Addr) (m c : Nat) (news : List Value) (hx : a.eval x = .slice ao m c) (hl : news.length = m * size) (hnone : ao = none → m = 0 ∧ c = 0)
    (hnews : ∀ ad, ao = some ad → ∀ j u, news[j]? = some u → w.cell? (ad.add j) = some u) (h1 : ∀ u ∈ news, u.oneCell' = true)
    (h63 : n + m ≤ maxLen) (hbytes : (n + m) * bytes ≤ 140737488355328) (hbase : base ≤ w.heap.size)
    (h : ∀ v' w', w'.ownsRow base e size v' (n + m) (xs ++ news) → w.grownBy w' v.ownBlock → (v' = .slice none 0 0 ↔ v = .slice none 0 0 ∧ m = 0) → wpList P ops Q rest (a.put o.dst v') w') : wpList P ops Q (o :: rest) a w := by
  obtain ⟨ht, hsz, i, hi, hz, hsize, hby, hzs⟩ := hT
  cases ao with
  | some ad => exact wpList_append_own w hgd s x t ho base e i z size bytes ht hi hz hsize hby hzs hsz v n xs hs hown ad m c news hx hl (hnews ad rfl) h1 h63 hbytes hbase h
  | none =>
    obtain ⟨rfl, rfl⟩ := hnone rfl
    have hn : news = [] := List.eq_nil_of_length_eq_zero (by simpa using hl)
    subst hn
    exact wpList_append_own_none hgd s x t ho base e i size ht hi v n xs hs hown hx (by simpa using h v w (by simpa using hown) (World.grownBy.refl _ _) (by simp))

/-- append onto a row of the call's own, as one step of a region that draws its order. -/
theorem stepApp {P : Program} {ops : Array Oper} {o : Oper} {a : Act} {w : World} {K : Act → World → Prop} {Q : Exit → Act → World → Prop} {E : Prop} (hgd : o.guard = none) (s x : Operand) (t : TypeId)
    (ho : o.op = .call { callee := .builtin .append, args := #[s, x], argTypes := #[t, t] })
    (base e size bytes : Nat) {z : Value} (hT : ElT P t e size bytes z)
    (v : Value) (n : Nat) (xs : List Value) (hs : a.eval s = v) (hown : w.ownsRow base e size v n xs)
    (ad : Addr) (m c : Nat) (news : List Value) (hx : a.eval x = .slice (some ad) m c) (hl : news.length = m * size)
    (hnews : ∀ j u, news[j]? = some u → w.cell? (ad.add j) = some u) (h1 : ∀ u ∈ news, u.oneCell' = true)
    (h63 : n + m ≤ maxLen) (hbytes : (n + m) * bytes ≤ 140737488355328) (hbase : base ≤ w.heap.size)
    (h : ∀ v' w', w'.ownsRow base e size v' (n + m) (xs ++ news) → w.grownBy w' v.ownBlock → K (a.put o.dst v') w') : if Region.wanted o (yielded ops a.tmps) = true then Oper.wp P o a w K Q else E := by
  obtain ⟨ht, hsz, i, hi, hz, hsize, hby, hzs⟩ := hT
  have hw : Region.wanted o (yielded ops a.tmps) = true := by simp [Region.wanted, hgd]
  rw [if_pos hw]
  exact wp_append_own w s x t ho base e i z size bytes ht hi hz hsize hby hzs hsz v n xs hs hown ad m c news hx hl hnews h1 h63 hbytes hbase fun v' w' h2 h3 _ => h v' w' h2 h3

/-- append of one element that lies in a fresh block, onto a row of the call's own. -/
theorem wpApp1 {P : Program} {W w1 : World} {ty : TypeId} {arr : Array Value} {ops : Array Oper} {rest : List Oper} {o : Oper} {a : Act} {Q : Exit → Act → World → Prop} (hgd : o.guard = none) (s x : Operand) (t : TypeId)
    (ho : o.op = .call { callee := .builtin .append, args := #[s, x], argTypes := #[t, t] })
    (base e size bytes : Nat) {z : Value} (hT : ElT P t e size bytes z)
    (v : Value) (n : Nat) (xs : List Value) (hs : a.eval s = v) (hown : w1.ownsRow base e size v n xs) (HB : Below base W w1)
    (hx : a.eval x = .slice (some ⟨w1.heap.size, 0, none⟩) 1 1) (hl : arr.size = size) (h1 : ∀ u ∈ arr.toList, u.oneCell' = true)
    (hn : n ≤ 1000000000) (hby : bytes ≤ 100) (hbase : base ≤ w1.heap.size)
    (h : ∀ v' w', PLift (w'.ownsRow base e size v' (n + 1) (xs ++ arr.toList)) → PLift (Below base W w') → wpList P ops Q rest (a.put o.dst v') w') : wpList P ops Q (o :: rest) a (w1.alloc (.cells arr ty)) := by
  refine wpApp _ hgd s x t ho base e size bytes hT v n xs hs (hown.alloc _) (some ⟨w1.heap.size, 0, none⟩) 1 1 arr.toList hx (by simp [hl]) (by simp) ?_ h1 (by simp only [maxLen]; omega) ?_ (by simp; omega) ?_
  · intro ad had j u hu
    obtain rfl := Option.some.inj had
    rw [Addr.add_lit, World.cell?_alloc_at _ _ _ _ rfl]
    simpa using hu
  · have : (n + 1) * bytes ≤ (n + 1) * 100 := Nat.mul_le_mul_left _ hby
    omega
  · intro v' w2 h2 h3 _
    exact h v' w2 (.up h2) (.up ((HB.alloc hbase _).grown h3 (by simp; omega) (fun q hq => (hown.lt q hq).1)))
/-- .. in a region that draws its order. -/
theorem stepApp1 {P : Program} {W w1 w' : World} {ty : TypeId} {arr : Array Value} {ops : Array Oper} {o : Oper} {a : Act} {K : Act → World → Prop} {Q : Exit → Act → World → Prop} {E : Prop} (hgd : o.guard = none) (s x : Operand) (t : TypeId)
    (ho : o.op = .call { callee := .builtin .append, args := #[s, x], argTypes := #[t, t] })
    (base e size bytes : Nat) {z : Value} (hT : ElT P t e size bytes z)
    (v : Value) (n : Nat) (xs : List Value) (hs : a.eval s = v) (hown : w1.ownsRow base e size v n xs) (HB : Below base W w1)
    (hh : w'.heap = (w1.alloc (.cells arr ty)).heap) (hos : w'.os = w1.os) (htp : w'.tape = w1.tape) (hop : w'.output = w1.output)
    (hx : a.eval x = .slice (some ⟨w1.heap.size, 0, none⟩) 1 1) (hl : arr.size = size) (h1 : ∀ u ∈ arr.toList, u.oneCell' = true)
    (hn : n ≤ 1000000000) (hby : bytes ≤ 100) (hbase : base ≤ w1.heap.size)
    (h : ∀ v' w', PLift (w'.ownsRow base e size v' (n + 1) (xs ++ arr.toList)) → PLift (Below base W w') → K (a.put o.dst v') w') : if Region.wanted o (yielded ops a.tmps) = true then Oper.wp P o a w' K Q else E := by
  have ho' : w'.ownsRow base e size v n xs := by
    have := hown.alloc (.cells arr ty)
    unfold World.ownsRow at this ⊢
    rw [hh]; exact this
  have hB : Below base W w' := by
    have := HB.alloc hbase (.cells arr ty)
    exact ⟨hos.trans this.os, htp.trans this.tape, hop.trans this.output, by rw [hh]; exact this.size, fun k hk => by rw [hh]; exact this.block k hk⟩
  refine stepApp hgd s x t ho base e size bytes hT v n xs hs ho' ⟨w1.heap.size, 0, none⟩ 1 1 arr.toList hx (by simp [hl]) ?_ h1 (by simp only [maxLen]; omega) ?_ (by rw [hh]; simp; omega) ?_
  · intro j u hu
    rw [Addr.add_lit]
    have e1 : w'.cell? ⟨w1.heap.size, 0 + j, none⟩ = (w1.alloc (.cells arr ty)).cell? ⟨w1.heap.size, 0 + j, none⟩ := by unfold World.cell?; rw [hh]
    rw [e1, World.cell?_alloc_at _ _ _ _ rfl]
    simpa using hu
  · have : (n + 1) * bytes ≤ (n + 1) * 100 := Nat.mul_le_mul_left _ hby
    omega
  · intro v' w2 h2 h3
    exact h v' w2 (.up h2) (.up (hB.grown h3 (by rw [hh]; simp; omega) (fun q hq => (hown.lt q hq).1)))

theorem madeCells_rep (z : Value) (n size : Nat) (h : z.cells.size = size) (_ : 0 < size) : (madeCells z.cells (n * size)).toList = (List.replicate n z.cells.toList).flatten := by
  have hl : ∀ x ∈ List.replicate n z.cells.toList, x.length = size := by
    intro x hx
    obtain ⟨_, rfl⟩ := List.mem_replicate.1 hx
    simpa using h
  apply List.ext_getElem?
  intro j
  have hflat : (List.replicate n z.cells.toList).flatten = (List.replicate n z.cells.toList).flatMap id := by rw [List.flatMap_id]
  rw [hflat]
  by_cases hj : j < n * size
  · obtain ⟨h1, h2, h3⟩ := mul_div_lt hj
    have := flatMap_get (id : List Value → List Value) size (List.replicate n z.cells.toList) hl (j / size) (j % size) h3
    rw [h2] at this
    rw [this]
    simp only [madeCells]
    rw [List.getElem?_replicate, if_pos h1]
    simp only [Array.toList_map, Array.toList_range, List.getElem?_map, List.getElem?_range hj, Option.map_some, Option.bind_some, id]
    have hlt : j % size < z.cells.size := by omega
    rw [h]
    simp [hlt]
  · have hlen := flatMap_len (id : List Value → List Value) size (List.replicate n z.cells.toList) hl
    rw [List.length_replicate] at hlen
    rw [List.getElem?_eq_none (by simp [madeCells]; omega), List.getElem?_eq_none (by omega)]

/-- make of n zero elements. -/
theorem wpMake {P : Program} (w : World) {ops : Array Oper} {rest : List Oper} {o : Oper} {a : Act} {Q : Exit → Act → World → Prop}
    (hg : o.guard = none) (l c : Operand) (t : TypeId) (hop : o.op = Op.makeSlice t l c)
    (base e size bytes : Nat) {z : Value} (hT : ElT P t e size bytes z) (n : Nat) (L C : Int) (hl : a.eval l = .int .i64 L) (hc : a.eval c = .int .i64 C) (hL : L = (n : Int)) (hC : C = (n : Int))
    (b2 : bytes * n ≤ 281474976710656) (b3 : n ≤ maxLen) (b4 : base ≤ w.heap.size)
    (hK : ∀ w', w'.ownsRow base e size (.slice (some ⟨w.heap.size, 0, none⟩) n n) n (List.replicate n z.cells.toList).flatten → w.grownBy w' none → wpList P ops Q rest (a.put o.dst (.slice (some ⟨w.heap.size, 0, none⟩) n n)) w') :
    wpList P ops Q (o :: rest) a w := by
  obtain ⟨ht, hsz, i, hi, hz, hsize, hby, hzs⟩ := hT
  refine wpList_make_full w hg l c t hop base e i z size ht hi hz hsize .i64 .i64 L C n hl hc hL hC (by rw [hby]; exact b2) b3 b4 fun w' h1 h2 => ?_
  rw [madeCells_rep z n size hzs hsz] at h1
  exact hK w' h1 h2
theorem i64_and_nat (a b : Nat) (ha : a < 9223372036854775808) (hb : b < 9223372036854775808) : bits .and .i64 (a : Int) (b : Int) = ((a &&& b : Nat) : Int) := by
  show IntKind.i64.wrap ((BitVec.ofInt 64 (a : Int) &&& BitVec.ofInt 64 (b : Int)).toNat : Nat) = _
  rw [BitVec.toNat_and, BitVec.ofInt_natCast, BitVec.ofInt_natCast, BitVec.toNat_ofNat, BitVec.toNat_ofNat, Nat.mod_eq_of_lt (show a < 2 ^ 64 by omega), Nat.mod_eq_of_lt (show b < 2 ^ 64 by omega), IntKind.wrap_i64]
  have : a &&& b ≤ a := Nat.and_le_left
  omega
theorem wrap64_nat (n : Nat) (h : n < 9223372036854775808) : wrap64 (n : Int) = n := by unfold wrap64; omega
def I64 (n : Int) : Prop := -9223372036854775808 ≤ n ∧ n ≤ 9223372036854775807
theorem ret_bool {a b : Bool} (h : a = b) : Ending.returned (.bool a) = .returned (.bool b) := by rw [h]
theorem ret_u32 {a b : Int} (h : a = b) : Ending.returned (.int .u32 a) = .returned (.int .u32 b) := by rw [h]
theorem ret_u64 {a b : Int} (h : a = b) : Ending.returned (.int .u64 a) = .returned (.int .u64 b) := by rw [h]
theorem ret_i64 {a b : Int} (h : a = b) : Ending.returned (.int .i64 a) = .returned (.int .i64 b) := by rw [h]
theorem bytes_snoc (s : ByteArray) (k : Nat) (h : k < s.size) : s.data.toList.take (k + 1) = s.data.toList.take k ++ [s[k]] := by
  rw [List.take_succ_eq_append_getElem (by simpa using h)]; rfl
theorem take_all (s : ByteArray) : s.data.toList.take s.size = s.data.toList := List.take_of_length_le (Nat.le_of_eq Array.length_toList)
theorem u8_ofNat_toNat (x : Nat) (h : x < 256) : (UInt8.ofNat x).toNat = x := by simp; omega
theorem bs_append (l k : List UInt8) : (⟨l.toArray⟩ : ByteArray) ++ ⟨k.toArray⟩ = ⟨(l ++ k).toArray⟩ := by
  apply ByteArray.ext; simp
theorem bs_size (l : List UInt8) : (⟨l.toArray⟩ : ByteArray).size = l.length := by show l.toArray.size = _; simp
theorem str_ne {t s : ByteArray} (h : ¬ t = s) : (t.toList == s.toList) = false := by
  rw [beq_eq_false_iff_ne]
  intro he
  apply h
  rw [ByteArray.toList_eq, ByteArray.toList_eq] at he
  cases t; cases s
  simp only [ByteArray.mk.injEq] at *
  exact Array.toList_inj.1 he
theorem getD_lt {α : Type} (xs : List α) (i : Nat) (d : α) (h : i < xs.length) : xs.getD i d = xs[i] := by simp [List.getD, h]
def ixOf {α : Type} (p : α → Bool) (xs : List α) : Int := match xs.findIdx? p with | none => -1 | some i => (i : Int)
theorem ixOf_hit {α : Type} (p : α → Bool) (xs : List α) (k : Nat) (hk : k < xs.length) (h : p xs[k] = true) (h0 : ∀ j (hj : j < xs.length), j < k → p xs[j] = false) : ixOf p xs = k := by
  have : xs.findIdx? p = some k := List.findIdx?_eq_some_iff_getElem.2 ⟨hk, h, fun j hj => by rw [h0 j (by omega) hj]; decide⟩
  rw [ixOf, this]
theorem ixOf_miss {α : Type} (p : α → Bool) (xs : List α) (h0 : ∀ j (hj : j < xs.length), p xs[j] = false) : ixOf p xs = -1 := by
  have : xs.findIdx? p = none := by
    rw [List.findIdx?_eq_none_iff]
    intro x hx
    obtain ⟨j, hj, rfl⟩ := List.mem_iff_getElem.1 hx
    exact h0 j hj
  rw [ixOf, this]
def slLen : Value → Nat | .slice _ n _ => n | _ => 0
theorem own_slice {w : World} {base e sz n : Nat} {v : Value} {xs : List Value} (h : w.ownsRow base e sz v n xs) : ∃ a c, v = .slice a n c := by
  rcases h.2 with ⟨rfl, rfl⟩ | ⟨g, cap, cur, rfl, _⟩
  · exact ⟨none, 0, rfl⟩
  · exact ⟨_, _, rfl⟩
theorem own_below {w w' : World} {base e sz n : Nat} {v : Value} {xs : List Value} (h : w.ownsRow base e sz v n xs) (hb : Below w.heap.size w w') : w'.ownsRow base e sz v n xs := by
  refine ⟨h.1, ?_⟩
  rcases h.2 with ⟨h1, h2⟩ | ⟨g, cap, cur, h1, h2, h3, h4⟩
  · exact .inl ⟨h1, h2⟩
  · exact .inr ⟨g, cap, cur, h1, h2, (hb.block g (Array.getElem?_eq_some_iff.1 h3).1).trans h3, h4⟩
theorem quiet_left {P : Program} {f : FuncId} {args : Array Value} {w : World} {n : Nat} {v : Value}
    (h : Calls P f args (w.drewN n) fun e w' => e = .returned v ∧ w.drewN n = w') : Calls P f args (w.drewN n) fun e w'' => e = .returned v ∧ ∃ m, w'' = w.drewN m :=
  h.mono fun _ _ ⟨he, hm⟩ => ⟨he, n, hm.symm⟩
theorem elT_u8 : ElT Try.prog 235 5 1 1 (.int .u8 0) := ElT.mk' Try.underlying235 (by kernel_rfl) rfl (by decide)
theorem elT_i64 : ElT Try.prog 38 3 1 8 (.int .i64 0) := ElT.mk' Try.underlying38 (by kernel_rfl) rfl (by decide)
theorem elT_u64 : ElT Try.prog 68 67 1 8 (.int .u64 0) := ElT.mk' Try.underlying68 (by kernel_rfl) rfl (by decide)
theorem elT_str : ElT Try.prog 66 9 1 16 (.string ByteArray.empty) := ElT.mk' Try.underlying66 (by kernel_rfl) rfl (by decide)
theorem elT_u32 : ElT Try.prog 23 22 1 4 (.int .u32 0) := ElT.mk' Try.underlying23 (by kernel_rfl) rfl (by decide)
end Go.Proofs.Ytibknlfadoeglaa
