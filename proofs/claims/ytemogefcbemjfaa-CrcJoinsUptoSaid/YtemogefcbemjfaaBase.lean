/- Small facts on lists that lie in memory: a slice that reads as a list, kept while the world below a block stays as it was. -/
import Derived.Test.YtemogefcbemjfaaProg
import Derived.WalkKit
import Derived.Handy
import Derived.WalkSpells
import Derived.WalkLawsBesides
import Derived.Lib.Hide
import Derived.Lib.BitFns
import Derived.Laws.BitsAllLaws
import Derived.Laws.AppendOwnNone
import Derived.Lib.SliceRun

import Derived.Deep.Draws
namespace Go.Proofs.Ytemogefcbemjfaa
open Go.RowKit

/-- The cells of a slice's elements: each element is a row of sz cells. -/
def Els {α : Type} (w : World) (B : Nat) (a : Option Addr) (sz : Nat) (enc : α → List Value) (xs : List α) : Prop :=
  xs = [] ∨ ∃ b o, a = some ⟨b, o, none⟩ ∧ b < B ∧ ∀ i j v, (xs[i]?).bind (fun x => (enc x)[j]?) = some v → w.cell? ⟨b, o + (i * sz + j), none⟩ = some v

theorem Els.nil {α : Type} (w : World) (B : Nat) (a : Option Addr) (sz : Nat) (enc : α → List Value) : Els w B a sz enc [] := .inl rfl

theorem Els.get {α : Type} {w : World} {B : Nat} {a : Option Addr} {sz : Nat} {enc : α → List Value} {xs : List α} (h : Els w B a sz enc xs) (i : Nat) (hi : i < xs.length) :
    ∃ b o, a = some ⟨b, o, none⟩ ∧ b < B ∧ ∀ j v, (enc xs[i])[j]? = some v → w.cell? ⟨b, o + (i * sz + j), none⟩ = some v := by
  rcases h with rfl | ⟨b, o, ha, hb, hc⟩
  · simp at hi
  · exact ⟨b, o, ha, hb, fun j v hv => hc i j v (by simp [hi, hv])⟩

theorem Els.below {α : Type} {w w' : World} {B B' : Nat} {a : Option Addr} {sz : Nat} {enc : α → List Value} {xs : List α} (h : Els w B a sz enc xs) (hb : Below B' w w') (hB : B ≤ B') : Els w' B a sz enc xs := by
  rcases h with rfl | ⟨b, o, ha, hlt, hc⟩
  · exact .inl rfl
  · exact .inr ⟨b, o, ha, hlt, fun i j v hv => (hb.cell (p := ⟨b, _, none⟩) (Nat.lt_of_lt_of_le hlt hB)).trans (hc i j v hv)⟩

theorem Els.mono {α : Type} {w : World} {B B' : Nat} {a : Option Addr} {sz : Nat} {enc : α → List Value} {xs : List α} (h : Els w B a sz enc xs) (hB : B ≤ B') : Els w B' a sz enc xs := by
  rcases h with rfl | ⟨b, o, ha, hlt, hc⟩
  · exact .inl rfl
  · exact .inr ⟨b, o, ha, by omega, hc⟩

theorem below_lit (w : World) (o : Obj) : Below w.heap.size w (w.alloc o) := (Below.refl _ _).alloc (Nat.le_refl _) _
theorem Els.lt_some {α : Type} {w : World} {B : Nat} {a : Option Addr} {sz : Nat} {enc : α → List Value} {xs : List α} (h : Els w B a sz enc xs) (o : Obj) (hB : B ≤ w.heap.size) : Els (w.alloc o) B a sz enc xs := h.below (below_lit w o) hB

theorem bcell {W w1 : World} {B : Nat} (hb : Below B W w1) : (∀ b o, b < B → w1.cell? ⟨b, o, none⟩ = W.cell? ⟨b, o, none⟩) ∧ (∀ b o, b < B → w1.frozen? ⟨b, o, none⟩ = W.frozen? ⟨b, o, none⟩) :=
  ⟨fun b o h => hb.cell (p := ⟨b, o, none⟩) h, fun b o h => hb.frozen (p := ⟨b, o, none⟩) h⟩
theorem _root_.Go.RowKit.Below.drewn {B : Nat} {a w : World} (h : Below B a w) (n : Nat) : Below B a (w.drewN n) := ⟨h.os, h.tape, h.output, h.size, h.block⟩

def e64 (n : Nat) : List Value := [.int .u64 n]
def ei64 (n : Int) : List Value := [.int .i64 n]

theorem Els.u64 {w : World} {B : Nat} {a : Option Addr} {xs : List Nat} (h : Els w B a 1 e64 xs) (i : Nat) (hi : i < xs.length) :
    ∃ b o, a = some ⟨b, o, none⟩ ∧ b < B ∧ w.cell? ⟨b, o + i, none⟩ = some (.int .u64 (xs[i] : Nat)) := by
  obtain ⟨b, o, ha, hb, hc⟩ := h.get i hi
  exact ⟨b, o, ha, hb, by simpa using hc 0 _ rfl⟩
theorem Els.i64 {w : World} {B : Nat} {a : Option Addr} {xs : List Int} (h : Els w B a 1 ei64 xs) (i : Nat) (hi : i < xs.length) :
    ∃ b o, a = some ⟨b, o, none⟩ ∧ b < B ∧ w.cell? ⟨b, o + i, none⟩ = some (.int .i64 xs[i]) := by
  obtain ⟨b, o, ha, hb, hc⟩ := h.get i hi
  exact ⟨b, o, ha, hb, by simpa using hc 0 _ rfl⟩

theorem take_snoc' {α : Type} (xs : List α) (k : Nat) (h : k < xs.length) : xs.take (k + 1) = xs.take k ++ [xs[k]] := by
  rw [List.take_succ_eq_append_getElem h]

/-- A list of rows of sz cells, read at its place. -/
theorem flatMap_get {α β : Type} (enc : α → List β) (sz : Nat) : ∀ (xs : List α), (∀ x ∈ xs, (enc x).length = sz) → ∀ i j, j < sz → (xs.flatMap enc)[i * sz + j]? = (xs[i]?).bind fun x => (enc x)[j]? := by
  intro xs
  induction xs with
  | nil => intro _ i j _; simp
  | cons x xs ih =>
    intro h i j hj
    have hx := h x (by simp)
    cases i with
    | zero => simp [List.flatMap_cons, List.getElem?_append, hx, hj]
    | succ i =>
      have e : (i + 1) * sz + j = sz + (i * sz + j) := by rw [Nat.add_mul]; omega
      rw [List.flatMap_cons, List.getElem?_append_right (by omega), e, hx, Nat.add_sub_cancel_left, ih (fun y hy => h y (by simp [hy])) i j hj]
      simp
theorem flatMap_len {α β : Type} (enc : α → List β) (sz : Nat) (xs : List α) (h : ∀ x ∈ xs, (enc x).length = sz) : (xs.flatMap enc).length = xs.length * sz := by
  induction xs with
  | nil => simp
  | cons x xs ih => rw [List.flatMap_cons, List.length_append, h x (by simp), ih fun y hy => h y (by simp [hy]), List.length_cons, Nat.add_mul]; omega
theorem mul_div_lt {j sz n : Nat} (h : j < n * sz) : j / sz < n ∧ j / sz * sz + j % sz = j ∧ j % sz < sz := by
  have hs : 0 < sz := by
    rcases Nat.eq_zero_or_pos sz with rfl | h0
    · simp at h
    · exact h0
  exact ⟨(Nat.div_lt_iff_lt_mul hs).2 h, by rw [Nat.mul_comm]; exact Nat.div_add_mod j sz, Nat.mod_lt _ hs⟩

theorem Els.news {α : Type} {w : World} {B : Nat} {a : Option Addr} {sz : Nat} {enc : α → List Value} {xs : List α} (h : Els w B a sz enc xs) (he : ∀ x ∈ xs, (enc x).length = sz) :
    ∀ ad, a = some ad → ∀ j u, (xs.flatMap enc)[j]? = some u → w.cell? (ad.add j) = some u := by
  intro ad had j u hu
  rcases h with rfl | ⟨b, o, ha, hb, hc⟩
  · simp at hu
  · rw [ha] at had
    obtain rfl := Option.some.inj had
    have hj : j < xs.length * sz := by rw [← flatMap_len enc sz xs he]; exact (List.getElem?_eq_some_iff.1 hu).1
    obtain ⟨h1, h2, h3⟩ := mul_div_lt hj
    have := hc (j / sz) (j % sz) u (by rw [← flatMap_get enc sz xs he _ _ h3, h2]; exact hu)
    rw [h2] at this
    rw [Addr.add_lit]; exact this

theorem Els.ofOwn {α : Type} {w : World} {base e sz n : Nat} {v : Value} {enc : α → List Value} {xs : List α} (h : w.ownsRow base e sz v n (xs.flatMap enc)) (he : ∀ x ∈ xs, (enc x).length = sz) (hsz : 0 < sz) :
    ∃ a c, v = .slice a xs.length c ∧ n = xs.length ∧ Els w w.heap.size a sz enc xs ∧ xs.length ≤ c ∧ c ≤ maxLen := by
  have hn : n = xs.length := by
    have := h.1; rw [flatMap_len enc sz xs he] at this
    exact (Nat.eq_of_mul_eq_mul_right hsz this).symm
  subst hn
  rcases h.2 with ⟨rfl, h0⟩ | ⟨g, cap, cur, rfl, hb, hg, hnc, hcm, hcs, ht⟩
  · exact ⟨none, 0, by rw [h0], rfl, .inl (List.eq_nil_of_length_eq_zero h0), by omega, by unfold maxLen; omega⟩
  · refine ⟨some ⟨g, 0, none⟩, cap, rfl, rfl, .inr ⟨g, 0, rfl, ?_, fun i j u hu => ?_⟩, hnc, hcm⟩
    · exact (Array.getElem?_eq_some_iff.1 hg).1
    · have hj : j < sz := by
        cases hx : xs[i]? with
        | none => rw [hx] at hu; simp at hu
        | some x =>
          rw [hx] at hu
          have := (List.getElem?_eq_some_iff.1 hu).1
          rwa [he x (List.mem_of_getElem? hx)] at this
      have hc := h.cells (g := g) rfl (i * sz + j) u (by rw [flatMap_get enc sz xs he i j hj]; exact hu)
      rw [Addr.add_lit] at hc; exact hc

theorem Els.take {α : Type} {w : World} {B : Nat} {a : Option Addr} {sz : Nat} {enc : α → List Value} {xs : List α} (h : Els w B a sz enc xs) (m : Nat) : Els w B a sz enc (xs.take m) := by
  rcases h with rfl | ⟨b, o, ha, hb, hc⟩
  · exact .inl (by simp)
  · refine .inr ⟨b, o, ha, hb, fun i j v hv => ?_⟩
    rw [List.getElem?_take] at hv
    split at hv
    · exact hc i j v hv
    · simp at hv
theorem Els.drop {α : Type} {w : World} {B b o : Nat} {sz : Nat} {enc : α → List Value} {xs : List α} (h : Els w B (some ⟨b, o, none⟩) sz enc xs) (m : Nat) : Els w B (some ⟨b, o + m * sz, none⟩) sz enc (xs.drop m) := by
  rcases h with rfl | ⟨b', o', ha, hb, hc⟩
  · exact .inl (by simp)
  · simp only [Option.some.injEq, Addr.mk.injEq, and_true] at ha
    obtain ⟨rfl, rfl⟩ := ha
    refine .inr ⟨b, o + m * sz, rfl, hb, fun i j v hv => ?_⟩
    rw [List.getElem?_drop] at hv
    have := hc (m + i) j v hv
    rwa [Nat.add_mul, show o + (m * sz + i * sz + j) = o + m * sz + (i * sz + j) from by omega] at this
theorem Els.drewn {α : Type} {w : World} {B : Nat} {a : Option Addr} {sz : Nat} {enc : α → List Value} {xs : List α} (h : Els w B a sz enc xs) (n : Nat) : Els (w.drewN n) B a sz enc xs := h

theorem els_dr {α : Type} {w w' : World} {B : Nat} {a : Option Addr} {sz : Nat} {enc : α → List Value} {xs : List α} (h : Els w B a sz enc xs) (hq : ∃ m, w' = w.drewN m) : Els w' B a sz enc xs := by
  obtain ⟨m, rfl⟩ := hq; exact h
theorem dr_drew {w w' : World} (hq : ∃ m, w' = w.drewN m) : ∃ m, w'.drew = w.drewN m := by
  obtain ⟨m, rfl⟩ := hq; exact ⟨m + 1, rfl⟩
theorem Els.b0 {α : Type} {w : World} {B : Nat} {a : Option Addr} {sz : Nat} {enc : α → List Value} {xs : List α} (h : Els w B a sz enc xs) : xs = [] ∨ ∃ b o, a = some ⟨b, o, none⟩ ∧ b < B := by
  rcases h with h | ⟨b, o, h1, h2, _⟩
  · exact .inl h
  · exact .inr ⟨b, o, h1, h2⟩

/-- What the table of types says of a slice type: its element's number, cells and bytes. -/
def ElT (P : Program) (t e size bytes : Nat) (z : Value) : Prop :=
  P.underlying t = some (.slice e) ∧ 0 < size ∧ ∃ i, P.info? e = some i ∧ i.zero = some z ∧ i.size = size ∧ i.bytes = bytes ∧ z.cells.size = size
theorem ElT.mk' {P : Program} {t e size bytes : Nat} {z : Value} (h1 : P.underlying t = some (.slice e)) (h2 : (P.info? e).map (fun i => (i.zero, i.size, i.bytes)) = some (some z, size, bytes)) (h3 : z.cells.size = size) (h4 : 0 < size) : ElT P t e size bytes z := by
  obtain ⟨i, hi, hz0, hz1, hz2⟩ := info_parts h2
  exact ⟨h1, h4, i, hi, hz0, hz1, hz2, h3⟩

/-- append onto a row of the call's own, whatever the source. -/
theorem wpApp {P : Program} (w : World) {ops : Array Oper} {rest : List Oper} {o : Oper} {a : Act} {Q : Exit → Act → World → Prop} (hgd : o.guard = none) (s x : Operand) (t : TypeId)
    (ho : o.op = .call { callee := .builtin .append, args := #[s, x], argTypes := #[t, t] })
    (base e size bytes : Nat) {z : Value} (hT : ElT P t e size bytes z)
    (v : Value) (n : Nat) (xs : List Value) (hs : a.eval s = v) (hown : w.ownsRow base e size v n xs)
    (ao : Option Addr) (m c : Nat) (news : List Value) (hx : a.eval x = .slice ao m c) (hl : news.length = m * size) (hnone : ao = none → m = 0 ∧ c = 0)
    (hnews : ∀ ad, ao = some ad → ∀ j u, news[j]? = some u → w.cell? (ad.add j) = some u) (h1 : ∀ u ∈ news, u.oneCell' = true)
    (h63 : n + m ≤ maxLen) (hbytes : (n + m) * bytes ≤ 140737488355328) (hbase : base ≤ w.heap.size)
    (h : ∀ v' w', w'.ownsRow base e size v' (n + m) (xs ++ news) → w.grownBy w' v.ownBlock → (v' = .slice none 0 0 ↔ v = .slice none 0 0 ∧ m = 0) → wpList P ops Q rest (a.put o.dst v') w') : wpList P ops Q (o :: rest) a w := by
  obtain ⟨ht, hsz, i, hi, hz, hsize, hby, hzs⟩ := hT
  cases ao with
  | some ad => exact wpList_append_own w hgd s x t ho base e i z size bytes ht hi hz hsize hby hzs hsz v n xs hs hown ad m c news hx hl (hnews ad rfl) h1 h63 hbytes hbase h
  | none =>
    obtain ⟨rfl, rfl⟩ := hnone rfl
    have hn : news = [] := List.eq_nil_of_length_eq_zero (by simpa using hl)
    subst hn
    exact wpList_append_own_none hgd s x t ho base e i size ht hi v n xs hs hown hx (by simpa using h v w (by simpa using hown) (World.grownBy.refl _ _) (by simp))

/-- append onto a row of the call's own, as one step of a region that draws its order. -/
theorem stepApp {P : Program} {ops : Array Oper} {o : Oper} {a : Act} {w : World} {K : Act → World → Prop} {Q : Exit → Act → World → Prop} {E : Prop} (hgd : o.guard = none) (s x : Operand) (t : TypeId)
    (ho : o.op = .call { callee := .builtin .append, args := #[s, x], argTypes := #[t, t] })
    (base e size bytes : Nat) {z : Value} (hT : ElT P t e size bytes z)
    (v : Value) (n : Nat) (xs : List Value) (hs : a.eval s = v) (hown : w.ownsRow base e size v n xs)
    (ad : Addr) (m c : Nat) (news : List Value) (hx : a.eval x = .slice (some ad) m c) (hl : news.length = m * size)
    (hnews : ∀ j u, news[j]? = some u → w.cell? (ad.add j) = some u) (h1 : ∀ u ∈ news, u.oneCell' = true)
    (h63 : n + m ≤ maxLen) (hbytes : (n + m) * bytes ≤ 140737488355328) (hbase : base ≤ w.heap.size)
    (h : ∀ v' w', w'.ownsRow base e size v' (n + m) (xs ++ news) → w.grownBy w' v.ownBlock → K (a.put o.dst v') w') : if Region.wanted o (yielded ops a.tmps) = true then Oper.wp P o a w K Q else E := by
  obtain ⟨ht, hsz, i, hi, hz, hsize, hby, hzs⟩ := hT
  have hw : Region.wanted o (yielded ops a.tmps) = true := by simp [Region.wanted, hgd]
  rw [if_pos hw]
  exact wp_append_own w s x t ho base e i z size bytes ht hi hz hsize hby hzs hsz v n xs hs hown ad m c news hx hl hnews h1 h63 hbytes hbase fun v' w' h2 h3 _ => h v' w' h2 h3

theorem madeCells_rep (z : Value) (n size : Nat) (h : z.cells.size = size) (_ : 0 < size) : (madeCells z.cells (n * size)).toList = (List.replicate n z.cells.toList).flatten := by
  have hl : ∀ x ∈ List.replicate n z.cells.toList, x.length = size := by
    intro x hx
    obtain ⟨_, rfl⟩ := List.mem_replicate.1 hx
    simpa using h
  apply List.ext_getElem?
  intro j
  have hflat : (List.replicate n z.cells.toList).flatten = (List.replicate n z.cells.toList).flatMap id := by rw [List.flatMap_id]
  rw [hflat]
  by_cases hj : j < n * size
  · obtain ⟨h1, h2, h3⟩ := mul_div_lt hj
    have := flatMap_get (id : List Value → List Value) size (List.replicate n z.cells.toList) hl (j / size) (j % size) h3
    rw [h2] at this
    rw [this]
    simp only [madeCells]
    rw [List.getElem?_replicate, if_pos h1]
    simp only [Array.toList_map, Array.toList_range, List.getElem?_map, List.getElem?_range hj, Option.map_some, Option.bind_some, id]
    have hlt : j % size < z.cells.size := by omega
    rw [h]
    simp [hlt]
  · have hlen := flatMap_len (id : List Value → List Value) size (List.replicate n z.cells.toList) hl
    rw [List.length_replicate] at hlen
    rw [List.getElem?_eq_none (by simp [madeCells]; omega), List.getElem?_eq_none (by omega)]

/-- make of n zero elements. -/
theorem wpMake {P : Program} (w : World) {ops : Array Oper} {rest : List Oper} {o : Oper} {a : Act} {Q : Exit → Act → World → Prop}
    (hg : o.guard = none) (l c : Operand) (t : TypeId) (hop : o.op = Op.makeSlice t l c)
    (base e size bytes : Nat) {z : Value} (hT : ElT P t e size bytes z) (n : Nat) (L C : Int) (hl : a.eval l = .int .i64 L) (hc : a.eval c = .int .i64 C) (hL : L = (n : Int)) (hC : C = (n : Int))
    (b2 : bytes * n ≤ 281474976710656) (b3 : n ≤ maxLen) (b4 : base ≤ w.heap.size)
    (hK : ∀ w', w'.ownsRow base e size (.slice (some ⟨w.heap.size, 0, none⟩) n n) n (List.replicate n z.cells.toList).flatten → w.grownBy w' none → wpList P ops Q rest (a.put o.dst (.slice (some ⟨w.heap.size, 0, none⟩) n n)) w') :
    wpList P ops Q (o :: rest) a w := by
  obtain ⟨ht, hsz, i, hi, hz, hsize, hby, hzs⟩ := hT
  refine wpList_make_full w hg l c t hop base e i z size ht hi hz hsize .i64 .i64 L C n hl hc hL hC (by rw [hby]; exact b2) b3 b4 fun w' h1 h2 => ?_
  rw [madeCells_rep z n size hzs hsz] at h1
  exact hK w' h1 h2
theorem i64_and_nat (a b : Nat) (ha : a < 9223372036854775808) (hb : b < 9223372036854775808) : bits .and .i64 (a : Int) (b : Int) = ((a &&& b : Nat) : Int) := by
  show IntKind.i64.wrap ((BitVec.ofInt 64 (a : Int) &&& BitVec.ofInt 64 (b : Int)).toNat : Nat) = _
  rw [BitVec.toNat_and, BitVec.ofInt_natCast, BitVec.ofInt_natCast, BitVec.toNat_ofNat, BitVec.toNat_ofNat, Nat.mod_eq_of_lt (show a < 2 ^ 64 by omega), Nat.mod_eq_of_lt (show b < 2 ^ 64 by omega), IntKind.wrap_i64]
  have : a &&& b ≤ a := Nat.and_le_left
  omega
end Go.Proofs.Ytemogefcbemjfaa
